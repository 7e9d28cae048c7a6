/- The law ProcedureSums returns true at every call, and its arguments read afterwards as before. No condition. (Runs of an own machine over numbers of which some are unknown, sound against the model, by cases on the number.) -/
import Derived.Test.YtkjailapincfbabGreatDoorCards
import Derived.Test.YtkjailapincfbabGreatDoorTie
import Derived.Test.YtkjailapincfbabGreatDoorTabOk
import Derived.Test.YtkjailapincfbabGreatDoorSim26
import Derived.Test.YtkjailapincfbabGreatDoorLaid
import Derived.Test.YtkjailapincfbabGreatDoorRunB
import Derived.Test.YtkjailapincfbabGreatDoorRunFP1
import Derived.Test.YtkjailapincfbabGreatDoorRunFN1
import Derived.Test.YtkjailapincfbabGreatDoorRunFP0
import Derived.Test.YtkjailapincfbabGreatDoorRunFN0
import Derived.Test.YtkjailapincfbabGreatDoorRunFZ
import Derived.Test.YtkjailapincfbabGreatDoorRunTP11
import Derived.Test.YtkjailapincfbabGreatDoorRunTN11
import Derived.Test.YtkjailapincfbabGreatDoorRunTP01
import Derived.Test.YtkjailapincfbabGreatDoorRunTN01
import Derived.Test.YtkjailapincfbabGreatDoorRunTP10
import Derived.Test.YtkjailapincfbabGreatDoorRunTN10
import Derived.Test.YtkjailapincfbabGreatDoorRunTZ
import Derived.WalkKit
import Derived.ProofKit
import Derived.OpenShut
import Derived.Deep.DeepHandedRow
import Derived.Laws.BitsLemmas
set_option linter.unusedVariables false
set_option maxRecDepth 100000
namespace Go.Proofs.YtkjailapincfbabGreatDoor.law
open Go.ChangeShapes Go.WideShapes Go.ChangeAt Go.RowKit Go.Sim

theorem own : ownKnob Tryz.prog.godebug = none := by kernel_rfl

theorem tiny_ok : ∀ k t, tinyT k t [(25, 46)] = true → TinyOK Tryz.prog k t := by
  intro k t h
  have h : ((Nat.beq 25 k && Nat.beq 46 t) || false) = true := h
  rw [Bool.or_false, Bool.and_eq_true] at h
  obtain rfl := (beq_iff _ _).1 h.1
  obtain rfl := (beq_iff _ _).1 h.2
  exact tiny
theorem begun_done : DoneOK Tryz.prog 8 (.bool true) := by
  obtain ⟨h', hr⟩ := resB_some runB
  exact done_of (E := env [65, 112] [(25, 46)] [] [] []) (tabOK.envS (fun k v h => by cases h) tiny_ok) (tabOK.envOK (fun a b r h => by cases h) (fun a b r h => by cases h)) hr (by kernel_rfl) (fun fn hf => by
    cases hf
    kernel_rfl)

theorem find8 : ∀ k v, findL k [(8, .bool true)] = some v → DoneOK Tryz.prog k v := by
  intro k v h
  have h : sel (Nat.beq 8 k) (some (.bool true)) none = some v := h
  obtain ⟨h1, h2⟩ := sel_some h
  cases h2
  obtain rfl := (beq_iff _ _).1 h1
  exact begun_done

theorem wrap_in {n : Int} (h1 : -9223372036854775808 ≤ n) (h2 : n ≤ 9223372036854775807) : IntKind.i64.wrap n = n := by
  rw [IntKind.wrap_i64]; omega
def two (a b : Int) : Nat → Int
  | 0 => a
  | _ => b
theorem subMax {a b : Int} (h : 0 < b) (hb : b ≤ 9223372036854775807) : (SI.sub .i64 (.lit 9223372036854775807) (.var 1)).ev (two a b) = 9223372036854775807 - b := (show IntKind.i64.wrap (9223372036854775807 - b) = _ from wrap_in (by omega) (by omega))
theorem addMin {a b : Int} (h : 0 < b) (hb : b ≤ 9223372036854775807) : (SI.add .i64 (.lit (-9223372036854775808)) (.var 1)).ev (two a b) = -9223372036854775808 + b := (show IntKind.i64.wrap (-9223372036854775808 + b) = _ from wrap_in (by omega) (by omega))
theorem subMin {a b : Int} (h : b < 0) (hb : -9223372036854775808 ≤ b) : (SI.sub .i64 (.lit (-9223372036854775808)) (.var 1)).ev (two a b) = -9223372036854775808 - b := (show IntKind.i64.wrap (-9223372036854775808 - b) = _ from wrap_in (by omega) (by omega))
theorem addMax {a b : Int} (h : b < 0) (hb : -9223372036854775808 ≤ b) : (SI.add .i64 (.lit 9223372036854775807) (.var 1)).ev (two a b) = 9223372036854775807 + b := (show IntKind.i64.wrap (9223372036854775807 + b) = _ from wrap_in (by omega) (by omega))
theorem walkFP1 {a b : Int} (h : 0 < b) (hb : b ≤ 9223372036854775807) (h0 : ¬ (9223372036854775807 - b < a)) (w : World) : Calls Tryz.prog 3 #[.int .i64 a, .int .i64 b, .bool false] w fun e w' => e = .returned (.bool true) ∧ Still w w' :=
  true_of_run (E := env [65, 112] [(25, 46)] [(.var 1, .lit 0, false), (.lit 0, .var 1, true), (.sub .i64 (.lit 9223372036854775807) (.var 1), .var 0, false)] [] [(8, .bool true)]) (η := two a b) (tabOK.envS find8 tiny_ok) (tabOK.envOK (facts_cons (show decide (b < 0) = false from decide_eq_false (by omega)) (facts_cons (show decide (0 < b) = true from decide_eq_true (by omega)) (facts_cons (show decide ((SI.sub .i64 (.lit 9223372036854775807) (.var 1)).ev (two a b) < a) = false by rw [subMax h hb]; exact decide_eq_false (by omega)) (facts_nil)))) facts_nil) runFP1 (by kernel_rfl) (us := [_, _, _]) (.cons (.int _ _ rfl) (.cons (.int _ _ rfl) (.cons (.bool _) .nil))) w
theorem walkFP0 {a b : Int} (h : 0 < b) (hb : b ≤ 9223372036854775807) (h0 : (9223372036854775807 - b < a)) (w : World) : Calls Tryz.prog 3 #[.int .i64 a, .int .i64 b, .bool false] w fun e w' => e = .returned (.bool true) ∧ Still w w' :=
  true_of_run (E := env [65, 112] [(25, 46)] [(.var 1, .lit 0, false), (.lit 0, .var 1, true), (.sub .i64 (.lit 9223372036854775807) (.var 1), .var 0, true)] [] [(8, .bool true)]) (η := two a b) (tabOK.envS find8 tiny_ok) (tabOK.envOK (facts_cons (show decide (b < 0) = false from decide_eq_false (by omega)) (facts_cons (show decide (0 < b) = true from decide_eq_true (by omega)) (facts_cons (show decide ((SI.sub .i64 (.lit 9223372036854775807) (.var 1)).ev (two a b) < a) = true by rw [subMax h hb]; exact decide_eq_true (by omega)) (facts_nil)))) facts_nil) runFP0 (by kernel_rfl) (us := [_, _, _]) (.cons (.int _ _ rfl) (.cons (.int _ _ rfl) (.cons (.bool _) .nil))) w
theorem walkTP11 {a b : Int} (h : 0 < b) (hb : b ≤ 9223372036854775807) (h0 : ¬ (9223372036854775807 - b < a)) (h1 : ¬ (a < -9223372036854775808 + b)) (w : World) : Calls Tryz.prog 3 #[.int .i64 a, .int .i64 b, .bool true] w fun e w' => e = .returned (.bool true) ∧ Still w w' :=
  true_of_run (E := env [65, 112] [(25, 46)] [(.var 1, .lit 0, false), (.lit 0, .var 1, true), (.sub .i64 (.lit 9223372036854775807) (.var 1), .var 0, false), (.var 0, .add .i64 (.lit (-9223372036854775808)) (.var 1), false)] [] [(8, .bool true)]) (η := two a b) (tabOK.envS find8 tiny_ok) (tabOK.envOK (facts_cons (show decide (b < 0) = false from decide_eq_false (by omega)) (facts_cons (show decide (0 < b) = true from decide_eq_true (by omega)) (facts_cons (show decide ((SI.sub .i64 (.lit 9223372036854775807) (.var 1)).ev (two a b) < a) = false by rw [subMax h hb]; exact decide_eq_false (by omega)) (facts_cons (show decide (a < (SI.add .i64 (.lit (-9223372036854775808)) (.var 1)).ev (two a b)) = false by rw [addMin h hb]; exact decide_eq_false (by omega)) (facts_nil))))) facts_nil) runTP11 (by kernel_rfl) (us := [_, _, _]) (.cons (.int _ _ rfl) (.cons (.int _ _ rfl) (.cons (.bool _) .nil))) w
theorem walkTP01 {a b : Int} (h : 0 < b) (hb : b ≤ 9223372036854775807) (h0 : (9223372036854775807 - b < a)) (h1 : ¬ (a < -9223372036854775808 + b)) (w : World) : Calls Tryz.prog 3 #[.int .i64 a, .int .i64 b, .bool true] w fun e w' => e = .returned (.bool true) ∧ Still w w' :=
  true_of_run (E := env [65, 112] [(25, 46)] [(.var 1, .lit 0, false), (.lit 0, .var 1, true), (.sub .i64 (.lit 9223372036854775807) (.var 1), .var 0, true), (.var 0, .add .i64 (.lit (-9223372036854775808)) (.var 1), false)] [] [(8, .bool true)]) (η := two a b) (tabOK.envS find8 tiny_ok) (tabOK.envOK (facts_cons (show decide (b < 0) = false from decide_eq_false (by omega)) (facts_cons (show decide (0 < b) = true from decide_eq_true (by omega)) (facts_cons (show decide ((SI.sub .i64 (.lit 9223372036854775807) (.var 1)).ev (two a b) < a) = true by rw [subMax h hb]; exact decide_eq_true (by omega)) (facts_cons (show decide (a < (SI.add .i64 (.lit (-9223372036854775808)) (.var 1)).ev (two a b)) = false by rw [addMin h hb]; exact decide_eq_false (by omega)) (facts_nil))))) facts_nil) runTP01 (by kernel_rfl) (us := [_, _, _]) (.cons (.int _ _ rfl) (.cons (.int _ _ rfl) (.cons (.bool _) .nil))) w
theorem walkTP10 {a b : Int} (h : 0 < b) (hb : b ≤ 9223372036854775807) (h0 : ¬ (9223372036854775807 - b < a)) (h1 : (a < -9223372036854775808 + b)) (w : World) : Calls Tryz.prog 3 #[.int .i64 a, .int .i64 b, .bool true] w fun e w' => e = .returned (.bool true) ∧ Still w w' :=
  true_of_run (E := env [65, 112] [(25, 46)] [(.var 1, .lit 0, false), (.lit 0, .var 1, true), (.sub .i64 (.lit 9223372036854775807) (.var 1), .var 0, false), (.var 0, .add .i64 (.lit (-9223372036854775808)) (.var 1), true)] [] [(8, .bool true)]) (η := two a b) (tabOK.envS find8 tiny_ok) (tabOK.envOK (facts_cons (show decide (b < 0) = false from decide_eq_false (by omega)) (facts_cons (show decide (0 < b) = true from decide_eq_true (by omega)) (facts_cons (show decide ((SI.sub .i64 (.lit 9223372036854775807) (.var 1)).ev (two a b) < a) = false by rw [subMax h hb]; exact decide_eq_false (by omega)) (facts_cons (show decide (a < (SI.add .i64 (.lit (-9223372036854775808)) (.var 1)).ev (two a b)) = true by rw [addMin h hb]; exact decide_eq_true (by omega)) (facts_nil))))) facts_nil) runTP10 (by kernel_rfl) (us := [_, _, _]) (.cons (.int _ _ rfl) (.cons (.int _ _ rfl) (.cons (.bool _) .nil))) w
theorem walkFN1 {a b : Int} (h : b < 0) (hb : -9223372036854775808 ≤ b) (h0 : ¬ (a < -9223372036854775808 - b)) (w : World) : Calls Tryz.prog 3 #[.int .i64 a, .int .i64 b, .bool false] w fun e w' => e = .returned (.bool true) ∧ Still w w' :=
  true_of_run (E := env [65, 112] [(25, 46)] [(.var 1, .lit 0, true), (.lit 0, .var 1, false), (.var 0, .sub .i64 (.lit (-9223372036854775808)) (.var 1), false)] [] [(8, .bool true)]) (η := two a b) (tabOK.envS find8 tiny_ok) (tabOK.envOK (facts_cons (show decide (b < 0) = true from decide_eq_true (by omega)) (facts_cons (show decide (0 < b) = false from decide_eq_false (by omega)) (facts_cons (show decide (a < (SI.sub .i64 (.lit (-9223372036854775808)) (.var 1)).ev (two a b)) = false by rw [subMin h hb]; exact decide_eq_false (by omega)) (facts_nil)))) facts_nil) runFN1 (by kernel_rfl) (us := [_, _, _]) (.cons (.int _ _ rfl) (.cons (.int _ _ rfl) (.cons (.bool _) .nil))) w
theorem walkFN0 {a b : Int} (h : b < 0) (hb : -9223372036854775808 ≤ b) (h0 : (a < -9223372036854775808 - b)) (w : World) : Calls Tryz.prog 3 #[.int .i64 a, .int .i64 b, .bool false] w fun e w' => e = .returned (.bool true) ∧ Still w w' :=
  true_of_run (E := env [65, 112] [(25, 46)] [(.var 1, .lit 0, true), (.lit 0, .var 1, false), (.var 0, .sub .i64 (.lit (-9223372036854775808)) (.var 1), true)] [] [(8, .bool true)]) (η := two a b) (tabOK.envS find8 tiny_ok) (tabOK.envOK (facts_cons (show decide (b < 0) = true from decide_eq_true (by omega)) (facts_cons (show decide (0 < b) = false from decide_eq_false (by omega)) (facts_cons (show decide (a < (SI.sub .i64 (.lit (-9223372036854775808)) (.var 1)).ev (two a b)) = true by rw [subMin h hb]; exact decide_eq_true (by omega)) (facts_nil)))) facts_nil) runFN0 (by kernel_rfl) (us := [_, _, _]) (.cons (.int _ _ rfl) (.cons (.int _ _ rfl) (.cons (.bool _) .nil))) w
theorem walkTN11 {a b : Int} (h : b < 0) (hb : -9223372036854775808 ≤ b) (h0 : ¬ (a < -9223372036854775808 - b)) (h1 : ¬ (9223372036854775807 + b < a)) (w : World) : Calls Tryz.prog 3 #[.int .i64 a, .int .i64 b, .bool true] w fun e w' => e = .returned (.bool true) ∧ Still w w' :=
  true_of_run (E := env [65, 112] [(25, 46)] [(.var 1, .lit 0, true), (.lit 0, .var 1, false), (.var 0, .sub .i64 (.lit (-9223372036854775808)) (.var 1), false), (.add .i64 (.lit 9223372036854775807) (.var 1), .var 0, false)] [] [(8, .bool true)]) (η := two a b) (tabOK.envS find8 tiny_ok) (tabOK.envOK (facts_cons (show decide (b < 0) = true from decide_eq_true (by omega)) (facts_cons (show decide (0 < b) = false from decide_eq_false (by omega)) (facts_cons (show decide (a < (SI.sub .i64 (.lit (-9223372036854775808)) (.var 1)).ev (two a b)) = false by rw [subMin h hb]; exact decide_eq_false (by omega)) (facts_cons (show decide ((SI.add .i64 (.lit 9223372036854775807) (.var 1)).ev (two a b) < a) = false by rw [addMax h hb]; exact decide_eq_false (by omega)) (facts_nil))))) facts_nil) runTN11 (by kernel_rfl) (us := [_, _, _]) (.cons (.int _ _ rfl) (.cons (.int _ _ rfl) (.cons (.bool _) .nil))) w
theorem walkTN01 {a b : Int} (h : b < 0) (hb : -9223372036854775808 ≤ b) (h0 : (a < -9223372036854775808 - b)) (h1 : ¬ (9223372036854775807 + b < a)) (w : World) : Calls Tryz.prog 3 #[.int .i64 a, .int .i64 b, .bool true] w fun e w' => e = .returned (.bool true) ∧ Still w w' :=
  true_of_run (E := env [65, 112] [(25, 46)] [(.var 1, .lit 0, true), (.lit 0, .var 1, false), (.var 0, .sub .i64 (.lit (-9223372036854775808)) (.var 1), true), (.add .i64 (.lit 9223372036854775807) (.var 1), .var 0, false)] [] [(8, .bool true)]) (η := two a b) (tabOK.envS find8 tiny_ok) (tabOK.envOK (facts_cons (show decide (b < 0) = true from decide_eq_true (by omega)) (facts_cons (show decide (0 < b) = false from decide_eq_false (by omega)) (facts_cons (show decide (a < (SI.sub .i64 (.lit (-9223372036854775808)) (.var 1)).ev (two a b)) = true by rw [subMin h hb]; exact decide_eq_true (by omega)) (facts_cons (show decide ((SI.add .i64 (.lit 9223372036854775807) (.var 1)).ev (two a b) < a) = false by rw [addMax h hb]; exact decide_eq_false (by omega)) (facts_nil))))) facts_nil) runTN01 (by kernel_rfl) (us := [_, _, _]) (.cons (.int _ _ rfl) (.cons (.int _ _ rfl) (.cons (.bool _) .nil))) w
theorem walkTN10 {a b : Int} (h : b < 0) (hb : -9223372036854775808 ≤ b) (h0 : ¬ (a < -9223372036854775808 - b)) (h1 : (9223372036854775807 + b < a)) (w : World) : Calls Tryz.prog 3 #[.int .i64 a, .int .i64 b, .bool true] w fun e w' => e = .returned (.bool true) ∧ Still w w' :=
  true_of_run (E := env [65, 112] [(25, 46)] [(.var 1, .lit 0, true), (.lit 0, .var 1, false), (.var 0, .sub .i64 (.lit (-9223372036854775808)) (.var 1), false), (.add .i64 (.lit 9223372036854775807) (.var 1), .var 0, true)] [] [(8, .bool true)]) (η := two a b) (tabOK.envS find8 tiny_ok) (tabOK.envOK (facts_cons (show decide (b < 0) = true from decide_eq_true (by omega)) (facts_cons (show decide (0 < b) = false from decide_eq_false (by omega)) (facts_cons (show decide (a < (SI.sub .i64 (.lit (-9223372036854775808)) (.var 1)).ev (two a b)) = false by rw [subMin h hb]; exact decide_eq_false (by omega)) (facts_cons (show decide ((SI.add .i64 (.lit 9223372036854775807) (.var 1)).ev (two a b) < a) = true by rw [addMax h hb]; exact decide_eq_true (by omega)) (facts_nil))))) facts_nil) runTN10 (by kernel_rfl) (us := [_, _, _]) (.cons (.int _ _ rfl) (.cons (.int _ _ rfl) (.cons (.bool _) .nil))) w
theorem walkFZ {a : Int} (h1 : -9223372036854775808 ≤ a) (h2 : a ≤ 9223372036854775807) (w : World) : Calls Tryz.prog 3 #[.int .i64 a, .int .i64 0, .bool false] w fun e w' => e = .returned (.bool true) ∧ Still w w' :=
  true_of_run (E := env [65, 112] [(25, 46)] [(.lit 9223372036854775807, .var 0, false), (.var 0, .lit (-9223372036854775808), false)] [] [(8, .bool true)]) (η := two a 0) (tabOK.envS find8 tiny_ok) (tabOK.envOK (facts_cons (show decide (9223372036854775807 < a) = false from decide_eq_false (by omega)) (facts_cons (show decide (a < -9223372036854775808) = false from decide_eq_false (by omega)) facts_nil)) facts_nil) runFZ (by kernel_rfl) (us := [_, _, _]) (.cons (.int _ _ rfl) (.cons (.int _ _ rfl) (.cons (.bool _) .nil))) w
theorem walkTZ {a : Int} (h1 : -9223372036854775808 ≤ a) (h2 : a ≤ 9223372036854775807) (w : World) : Calls Tryz.prog 3 #[.int .i64 a, .int .i64 0, .bool true] w fun e w' => e = .returned (.bool true) ∧ Still w w' :=
  true_of_run (E := env [65, 112] [(25, 46)] [(.lit 9223372036854775807, .var 0, false), (.var 0, .lit (-9223372036854775808), false)] [] [(8, .bool true)]) (η := two a 0) (tabOK.envS find8 tiny_ok) (tabOK.envOK (facts_cons (show decide (9223372036854775807 < a) = false from decide_eq_false (by omega)) (facts_cons (show decide (a < -9223372036854775808) = false from decide_eq_false (by omega)) facts_nil)) facts_nil) runTZ (by kernel_rfl) (us := [_, _, _]) (.cons (.int _ _ rfl) (.cons (.int _ _ rfl) (.cons (.bool _) .nil))) w

theorem walk (a b : Int) (less : Bool) (a1 : -9223372036854775808 ≤ a) (a2 : a ≤ 9223372036854775807) (b1 : -9223372036854775808 ≤ b) (b2 : b ≤ 9223372036854775807) (w : World) :
    Calls Tryz.prog 3 #[.int .i64 a, .int .i64 b, .bool less] w fun e w' => e = .returned (.bool true) ∧ Still w w' := by
  rcases Int.lt_trichotomy b 0 with h | h | h
  · cases less
    · by_cases h0 : a < -9223372036854775808 - b
      · exact walkFN0 h b1 h0 w
      · exact walkFN1 h b1 h0 w
    · by_cases h0 : a < -9223372036854775808 - b
      · exact walkTN01 h b1 h0 (by omega) w
      · by_cases h1 : 9223372036854775807 + b < a
        · exact walkTN10 h b1 h0 h1 w
        · exact walkTN11 h b1 h0 h1 w
  · subst h
    cases less
    · exact walkFZ a1 a2 w
    · exact walkTZ a1 a2 w
  · cases less
    · by_cases h0 : 9223372036854775807 - b < a
      · exact walkFP0 h b2 h0 w
      · exact walkFP1 h b2 h0 w
    · by_cases h0 : 9223372036854775807 - b < a
      · exact walkTP01 h b2 h0 (by omega) w
      · by_cases h1 : a < -9223372036854775808 + b
        · exact walkTP10 h b2 h0 h1 w
        · exact walkTP11 h b2 h0 h1 w

theorem wf_i64 {n : Int} (h : (Lit.int .i64 n).wf = true) : -9223372036854775808 ≤ n ∧ n ≤ 9223372036854775807 := by
  have h : (decide (IntKind.i64.min ≤ n) && decide (n ≤ IntKind.i64.max)) = true := h
  rw [Bool.and_eq_true] at h
  have e1 : IntKind.i64.min = -9223372036854775808 := by decide
  have e2 : IntKind.i64.max = 9223372036854775807 := by decide
  rw [e1, e2] at h
  exact ⟨of_decide_eq_true h.1, of_decide_eq_true h.2⟩

theorem contract (H : Type) (enc : TypeId × Value → H) (W : World) (base : Nat) (args : Array Value) (ds gs : List (DataW H)) (before : List MemPlace)
    (hval : ∀ (j : Nat) t v, Tryz.f3.params[j]? = some t → args[j]? = some v → Value.okWide Tryz.prog W .any base t v)
    (hW : DataW.Whole enc Tryz.prog Tryz.f3.params.toList Rows.procedureSumsSpec.vars false W args.toList ds gs before) :
    Calls Tryz.prog 3 args W fun e W' => ∃ v, e = .returned v ∧ Rows.procedureSumsSpec.post enc Tryz.prog Tryz.f3 false true false false W args v W' := by
  have hW' := hW
  obtain ⟨p, q, hA0, hV, rfl, hfz, hnd⟩ := hW
  have hA : DataW.TrodAll enc Tryz.prog W 0 (fun _ => true) true Tryz.f3.params.toList args.toList ds p := hA0
  rw [Tryz.params3] at hA hval
  obtain ⟨v0, vs0, d0, ds0, p0, q0, hargs, rfl, rfl, h0, r0⟩ := trodAll_cons hA
  obtain ⟨v1, vs1, d1, ds1, p1, q1, rfl, rfl, rfl, h1, r1⟩ := trodAll_cons r0
  obtain ⟨v2, vs2, d2, ds2, p2, q2, rfl, rfl, rfl, h2, r2⟩ := trodAll_cons r1
  obtain ⟨rfl, rfl, rfl⟩ := trodAll_nil r2
  obtain rfl : args = #[v0, v1, v2] := by cases args; simp_all
  obtain ⟨rfl, rfl⟩ := trodVars_none hV
  obtain ⟨a0, rfl, rfl, rfl, w0⟩ := open_int Tryz.underlying2 (hval 0 2 v0 rfl rfl) h0
  obtain ⟨a1, rfl, rfl, rfl, w1⟩ := open_int Tryz.underlying2 (hval 1 2 v1 rfl rfl) h1
  obtain ⟨b, rfl, rfl, rfl⟩ := open_bool Tryz.underlying4 (hval 2 4 v2 rfl rfl) h2
  clear hA0
  simp only [List.append_nil] at hW'
  have m0 := wf_i64 w0
  have m1 := wf_i64 w1
  refine (walk a0 a1 b m0.1 m0.2 m1.1 m1.2 W).mono fun e W' ⟨he, hg⟩ => ?_
  subst he
  refine ⟨_, rfl, _, _, _, [], [], [], hW', ?_, ?_, ?_, hg.kept _, fun h => by cases h⟩
  · exact trodAll_cons_mk (shut_bool Tryz.underlying4 _) trodAll_mk0
  · exact trodAll_cons_mk (shut_int Tryz.underlying2 w0) (trodAll_cons_mk (shut_int Tryz.underlying2 w1) (trodAll_cons_mk (shut_bool Tryz.underlying4 _) trodAll_mk0))
  · exact rfl

/-- A world for the witness: the settled one, the listed variables holding what their initialisers lay. -/
def cellsOf : List (DataW Unit) → Array Value
  | [] => #[]
  | .lit (.int k n) :: l => #[.int k n] ++ cellsOf l
  | _ :: l => cellsOf l
def rowOf' : DataW Unit → Array Value
  | .agg l => cellsOf l
  | _ => #[]
def setCells (cs : Array Value) : Obj → Obj
  | .cells _ t frozen => .cells cs t frozen
  | o => o
noncomputable def laidWorld (os : Os) : World :=
  { World.holding Tryz.prog os ⟨#[], #[], []⟩ with
    heap := (((World.holding Tryz.prog os ⟨#[], #[], []⟩).heap.modify 1 (setCells (rowOf' Rows.laid_internal_strconv_uint64pow10))).modify 2 (setCells (rowOf' Rows.laid_math_bits_deBruijn32tab))).modify 3 (setCells (rowOf' Rows.laid_math_bits_deBruijn64tab)) }
theorem laid_met (os : Os) : laidMet Tryz.prog Rows.procedureSumsRow.laid ((laidWorld os).forCall (fun _ _ => 0) ⟨#[], #[.int .i64 0, .int .i64 0, .bool false], []⟩).memory :=
  laidMet_of_run' 80 (by kernel_rfl) (by kernel_rfl)
theorem reads (os : Os) {H : Type} (enc : TypeId × Value → H) : ∃ places, DataW.whole enc Tryz.prog ((laidWorld os).forCall (fun _ _ => 0) ⟨#[], #[.int .i64 0, .int .i64 0, .bool false], []⟩).memory Tryz.f3.params.toList Rows.procedureSumsSpec.vars false #[Value.int .i64 0, .int .i64 0, .bool false].toList 80 = some ([.lit (.int .i64 0), .lit (.int .i64 0), .lit (.bool false)], [], places) :=
  ⟨[], by kernel_rfl⟩

theorem lifted (os : Os) (started : os.Started) (H : Type) (enc : TypeId × Value → H) (F : Stop.Interp) :
    ReturnsInHanded {} Tryz.checked os 3 .any ((OpenSpec.ofChange Rows.procedureSumsSpec).preRow enc Tryz.prog Tryz.f3 Rows.procedureSumsRow.domain false Rows.procedureSumsRow.laid) (((OpenSpec.ofChange Rows.procedureSumsSpec).at F).post enc Tryz.prog Tryz.f3 false true false false) := by
  obtain ⟨places, hx⟩ := reads os enc
  refine returnsInHanded_of_row (C := Tryz.checked) (s := OpenSpec.ofChange Rows.procedureSumsSpec) own started (by kernel_rfl) Tryz.func3
    (witness_row_at (enc := enc) (C := Tryz.checked) false (laidWorld os) #[.int .i64 0, .int .i64 0, .bool false] rfl (by kernel_rfl) (by kernel_rfl) (by kernel_rfl)
      (OpenSpec.preRow_of_cond 80 hx (by kernel_rfl) (fun k hk => by cases hk) (by kernel_rfl) (laid_met os))) ?_
  intro W base args ds gs before hval hW _ _ _ hL _ _
  exact contract H enc W base args ds gs before hval hW

theorem said : Rows.ProcedureSumsSaid :=
  OpenClaim.holds_of_cond 3 Tryz.f3 rfl rfl rfl rfl rfl rfl rfl ⟨rfl, rfl, rfl, rfl, rfl⟩ rfl rfl rfl rfl rfl (by kernel_rfl) Tryz.func3 (by kernel_rfl)
    (of_decide_eq_true (by kernel_rfl)) (by unfold Func.isWrapper; first | (rw [if_pos (by decide +kernel)]; kernel_rfl) | (rw [if_neg (by decide +kernel)]; exact ⟨rfl, rfl⟩))
    (fun os started H enc _ F => by rw [OpenClaim.pre_eq_preRow]; exact lifted os started H enc F)

theorem plain (f : FuncId) (fn : Func) (hf : Tryz.pinned.checked.prog.funcNamed "partsync/partsynclaw26.ProcedureSums" = some f) (hfn : Tryz.pinned.checked.prog.funcs[f]? = some fn) :
    true = Tryz.pinned.checked.prog.looks [] ∧ ∀ (j : Nat) t, fn.params[j]? = some t → Tryz.pinned.checked.prog.wantsStandIn t = false := by
  obtain rfl : f = 3 := Option.some.inj ((show Tryz.prog.funcNamed "partsync/partsynclaw26.ProcedureSums" = some 3 by kernel_rfl).symm.trans hf) |>.symm
  obtain rfl : fn = Tryz.f3 := (Option.some.inj (Tryz.func3.symm.trans hfn)).symm
  refine ⟨by kernel_rfl, fun j t ht => ?_⟩
  rw [Tryz.params3] at ht
  rcases j with _ | _ | _ | j
  · obtain rfl : 2 = t := by simpa using ht
    exact (show Tryz.prog.wantsStandIn 2 = false by kernel_rfl)
  · obtain rfl : 2 = t := by simpa using ht
    exact (show Tryz.prog.wantsStandIn 2 = false by kernel_rfl)
  · obtain rfl : 4 = t := by simpa using ht
    exact (show Tryz.prog.wantsStandIn 4 = false by kernel_rfl)
  · simp at ht

theorem proved : Rows.ProcedureSumsCardSaid :=
  Claim7.holds_tied_plain_at .later [] _ _ _ _ said (fun _ h => by cases h) (by kernel_rfl) (fun _ h => by cases h) procedureSums_row_tie rfl ⟨rfl, rfl⟩ (by kernel_rfl) rfl plain (by kernel_rfl)
end Go.Proofs.YtkjailapincfbabGreatDoor.law
