/- The law TransactionOrders returns true at every call, and its arguments read afterwards as before. No condition. (Runs of an own machine over numbers of which some are unknown, sound against the model, by cases on the number.) -/
import Derived.Test.YtkjailapincfbaaGreatDoorCards
import Derived.Test.YtkjailapincfbaaGreatDoorTie
import Derived.Test.YtkjailapincfbaaGreatDoorTabOk
import Derived.Test.YtkjailapincfbaaGreatDoorSim26
import Derived.Test.YtkjailapincfbaaGreatDoorRunB
import Derived.Test.YtkjailapincfbaaGreatDoorRunL0
import Derived.Test.YtkjailapincfbaaGreatDoorRunL1
import Derived.Test.YtkjailapincfbaaGreatDoorRunG0
import Derived.Test.YtkjailapincfbaaGreatDoorRunG1
import Derived.Test.YtkjailapincfbaaGreatDoorRunE0
import Derived.Test.YtkjailapincfbaaGreatDoorRunE1
import Derived.WalkKit
import Derived.ProofKit
import Derived.OpenShut
import Derived.Deep.DeepHandedRow
set_option linter.unusedVariables false
set_option maxRecDepth 100000
namespace Go.Proofs.YtkjailapincfbaaGreatDoor.law
open Go.ChangeShapes Go.WideShapes Go.ChangeAt Go.RowKit Go.Sim

theorem own : ownKnob Tryz.prog.godebug = none := by kernel_rfl

theorem begun_done : DoneOK Tryz.prog 8 (.bool true) := by
  obtain ⟨h', hr⟩ := resB_some runB
  exact done_of (E := env [] [] []) (tabOK.envS fun k v h => by cases h) (tabOK.envOK (fun a b r h => by cases h) (fun a b r h => by cases h)) hr (by kernel_rfl) (fun fn hf => by
    cases hf
    kernel_rfl)

theorem find8 : ∀ k v, findL k [(8, .bool true)] = some v → DoneOK Tryz.prog k v := by
  intro k v h
  have h : sel (Nat.beq 8 k) (some (.bool true)) none = some v := h
  obtain ⟨h1, h2⟩ := sel_some h
  cases h2
  obtain rfl := (beq_iff _ _).1 h1
  exact begun_done

theorem factsL {id : Int} (h : id < 7) : EnvOK (env [(.var 0, .lit 7, true), (.lit 7, .var 0, false)] [(.var 0, .lit 7, false), (.lit 7, .var 0, false)] [(8, .bool true)]) (gh0 Tryz.prog fun _ => id) :=
  tabOK.envOK
    (facts_cons (show decide (id < 7) = true from decide_eq_true h) (facts_cons (show decide (7 < id) = false from decide_eq_false (by omega)) facts_nil))
    (facts_cons (show decide (id = 7) = false from decide_eq_false (by omega)) (facts_cons (show decide (7 = id) = false from decide_eq_false (by omega)) facts_nil))
theorem factsG {id : Int} (h : 7 < id) : EnvOK (env [(.var 0, .lit 7, false), (.lit 7, .var 0, true)] [(.var 0, .lit 7, false), (.lit 7, .var 0, false)] [(8, .bool true)]) (gh0 Tryz.prog fun _ => id) :=
  tabOK.envOK
    (facts_cons (show decide (id < 7) = false from decide_eq_false (by omega)) (facts_cons (show decide (7 < id) = true from decide_eq_true h) facts_nil))
    (facts_cons (show decide (id = 7) = false from decide_eq_false (by omega)) (facts_cons (show decide (7 = id) = false from decide_eq_false (by omega)) facts_nil))

theorem walk (id : Int) (denied : Bool) (w : World) : Calls Tryz.prog 3 #[.int .i64 id, .bool denied] w fun e w' => e = .returned (.bool true) ∧ Still w w' := by
  rcases Int.lt_trichotomy id 7 with h | h | h
  · cases denied
    · exact true_of_run (tabOK.envS find8) (factsL h) runL0 (by kernel_rfl) (us := [_, _]) (.cons (.int _ _ rfl) (.cons (.bool _) .nil)) w
    · exact true_of_run (tabOK.envS find8) (factsL h) runL1 (by kernel_rfl) (us := [_, _]) (.cons (.int _ _ rfl) (.cons (.bool _) .nil)) w
  · subst h
    have hE : EnvOK (env [] [] [(8, .bool true)]) (gh0 Tryz.prog fun _ => 7) := tabOK.envOK facts_nil facts_nil
    cases denied
    · exact true_of_run (tabOK.envS find8) hE runE0 (by kernel_rfl) (us := [_, _]) (.cons (.int _ _ rfl) (.cons (.bool _) .nil)) w
    · exact true_of_run (tabOK.envS find8) hE runE1 (by kernel_rfl) (us := [_, _]) (.cons (.int _ _ rfl) (.cons (.bool _) .nil)) w
  · cases denied
    · exact true_of_run (tabOK.envS find8) (factsG h) runG0 (by kernel_rfl) (us := [_, _]) (.cons (.int _ _ rfl) (.cons (.bool _) .nil)) w
    · exact true_of_run (tabOK.envS find8) (factsG h) runG1 (by kernel_rfl) (us := [_, _]) (.cons (.int _ _ rfl) (.cons (.bool _) .nil)) w

theorem contract (H : Type) (enc : TypeId × Value → H) (W : World) (base : Nat) (args : Array Value) (ds gs : List (DataW H)) (before : List MemPlace)
    (hval : ∀ (j : Nat) t v, Tryz.f3.params[j]? = some t → args[j]? = some v → Value.okWide Tryz.prog W .any base t v)
    (hW : DataW.Whole enc Tryz.prog Tryz.f3.params.toList Rows.transactionOrdersSpec.vars false W args.toList ds gs before) :
    Calls Tryz.prog 3 args W fun e W' => ∃ v, e = .returned v ∧ Rows.transactionOrdersSpec.post enc Tryz.prog Tryz.f3 false true false false W args v W' := by
  have hW' := hW
  obtain ⟨p, q, hA0, hV, rfl, hfz, hnd⟩ := hW
  have hA : DataW.TrodAll enc Tryz.prog W 0 (fun _ => true) true Tryz.f3.params.toList args.toList ds p := hA0
  rw [Tryz.params3] at hA hval
  obtain ⟨v0, vs0, d0, ds0, p0, q0, hargs, rfl, rfl, h0, r0⟩ := trodAll_cons hA
  obtain ⟨v1, vs1, d1, ds1, p1, q1, rfl, rfl, rfl, h1, r1⟩ := trodAll_cons r0
  obtain ⟨rfl, rfl, rfl⟩ := trodAll_nil r1
  obtain rfl : args = #[v0, v1] := by cases args; simp_all
  obtain ⟨rfl, rfl⟩ := trodVars_none hV
  obtain ⟨a0, rfl, rfl, rfl, w0⟩ := open_int Tryz.underlying2 (hval 0 2 v0 rfl rfl) h0
  obtain ⟨b, rfl, rfl, rfl⟩ := open_bool Tryz.underlying4 (hval 1 4 v1 rfl rfl) h1
  clear hA0
  simp only [List.append_nil] at hW'
  refine (walk a0 b W).mono fun e W' ⟨he, hg⟩ => ?_
  subst he
  refine ⟨_, rfl, _, _, _, [], [], [], hW', ?_, ?_, ?_, hg.kept _, fun h => by cases h⟩
  · exact trodAll_cons_mk (shut_bool Tryz.underlying4 _) trodAll_mk0
  · exact trodAll_cons_mk (shut_int Tryz.underlying2 w0) (trodAll_cons_mk (shut_bool Tryz.underlying4 _) trodAll_mk0)
  · exact rfl

/-- A world for the witness: the settled one, the listed variables holding what their initialisers lay. -/
def cellsOf : List (DataW Unit) → Array Value
  | [] => #[]
  | .lit (.int k n) :: l => #[.int k n] ++ cellsOf l
  | _ :: l => cellsOf l
def rowOf' : DataW Unit → Array Value
  | .agg l => cellsOf l
  | _ => #[]
def setCells (cs : Array Value) : Obj → Obj
  | .cells _ t frozen => .cells cs t frozen
  | o => o
noncomputable def laidWorld (os : Os) : World :=
  { World.holding Tryz.prog os ⟨#[], #[], []⟩ with
    heap := (((World.holding Tryz.prog os ⟨#[], #[], []⟩).heap.modify 1 (setCells (rowOf' Rows.laid_internal_strconv_uint64pow10))).modify 2 (setCells (rowOf' Rows.laid_math_bits_deBruijn32tab))).modify 3 (setCells (rowOf' Rows.laid_math_bits_deBruijn64tab)) }
theorem laid_met (os : Os) : laidMet Tryz.prog Rows.transactionOrdersRow.laid ((laidWorld os).forCall (fun _ _ => 0) ⟨#[], #[.int .i64 0, .bool false], []⟩).memory :=
  laidMet_of_run' 80 (by kernel_rfl) (by kernel_rfl)
theorem reads (os : Os) {H : Type} (enc : TypeId × Value → H) : ∃ places, DataW.whole enc Tryz.prog ((laidWorld os).forCall (fun _ _ => 0) ⟨#[], #[.int .i64 0, .bool false], []⟩).memory Tryz.f3.params.toList Rows.transactionOrdersSpec.vars false #[Value.int .i64 0, .bool false].toList 80 = some ([.lit (.int .i64 0), .lit (.bool false)], [], places) :=
  ⟨[], by kernel_rfl⟩

theorem lifted (os : Os) (started : os.Started) (H : Type) (enc : TypeId × Value → H) (F : Stop.Interp) :
    ReturnsInHanded {} Tryz.checked os 3 .any ((OpenSpec.ofChange Rows.transactionOrdersSpec).preRow enc Tryz.prog Tryz.f3 Rows.transactionOrdersRow.domain false Rows.transactionOrdersRow.laid) (((OpenSpec.ofChange Rows.transactionOrdersSpec).at F).post enc Tryz.prog Tryz.f3 false true false false) := by
  obtain ⟨places, hx⟩ := reads os enc
  refine returnsInHanded_of_row (C := Tryz.checked) (s := OpenSpec.ofChange Rows.transactionOrdersSpec) own started (by kernel_rfl) Tryz.func3
    (witness_row_at (enc := enc) (C := Tryz.checked) false (laidWorld os) #[.int .i64 0, .bool false] rfl (by kernel_rfl) (by kernel_rfl) (by kernel_rfl)
      (OpenSpec.preRow_of_cond 80 hx (by kernel_rfl) (fun k hk => by cases hk) (by kernel_rfl) (laid_met os))) ?_
  intro W base args ds gs before hval hW _ _ _ hL _ _
  exact contract H enc W base args ds gs before hval hW

theorem said : Rows.TransactionOrdersSaid :=
  OpenClaim.holds_of_cond 3 Tryz.f3 rfl rfl rfl rfl rfl rfl rfl ⟨rfl, rfl, rfl, rfl, rfl⟩ rfl rfl rfl rfl rfl (by kernel_rfl) Tryz.func3 (by kernel_rfl)
    (of_decide_eq_true (by kernel_rfl)) (by unfold Func.isWrapper; first | (rw [if_pos (by decide +kernel)]; kernel_rfl) | (rw [if_neg (by decide +kernel)]; exact ⟨rfl, rfl⟩))
    (fun os started H enc _ F => by rw [OpenClaim.pre_eq_preRow]; exact lifted os started H enc F)

theorem plain (f : FuncId) (fn : Func) (hf : Tryz.pinned.checked.prog.funcNamed "partsync/partsynclaw27.TransactionOrders" = some f) (hfn : Tryz.pinned.checked.prog.funcs[f]? = some fn) :
    true = Tryz.pinned.checked.prog.looks [] ∧ ∀ (j : Nat) t, fn.params[j]? = some t → Tryz.pinned.checked.prog.wantsStandIn t = false := by
  obtain rfl : f = 3 := Option.some.inj ((show Tryz.prog.funcNamed "partsync/partsynclaw27.TransactionOrders" = some 3 by kernel_rfl).symm.trans hf) |>.symm
  obtain rfl : fn = Tryz.f3 := (Option.some.inj (Tryz.func3.symm.trans hfn)).symm
  refine ⟨by kernel_rfl, fun j t ht => ?_⟩
  rw [Tryz.params3] at ht
  rcases j with _ | _ | j
  · obtain rfl : 2 = t := by simpa using ht
    exact (show Tryz.prog.wantsStandIn 2 = false by kernel_rfl)
  · obtain rfl : 4 = t := by simpa using ht
    exact (show Tryz.prog.wantsStandIn 4 = false by kernel_rfl)
  · simp at ht

theorem proved : Rows.TransactionOrdersCardSaid :=
  Claim7.holds_tied_plain_at .later [] _ _ _ _ said (fun _ h => by cases h) (by kernel_rfl) (fun _ h => by cases h) transactionOrders_row_tie rfl ⟨rfl, rfl⟩ (by kernel_rfl) rfl plain (by kernel_rfl)
end Go.Proofs.YtkjailapincfbaaGreatDoor.law
