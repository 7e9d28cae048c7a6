/- The known calls are known: each by its run. No condition but the facts on the two numbers. -/
import Derived.Test.YtjeenahnkcgfcaaGreatDoorTabOk
import Derived.Test.YtjeenahnkcgfcaaGreatDoorLaid
import Derived.Test.YtjeenahnkcgfcaaGreatDoorSim26
import Derived.Test.YtjeenahnkcgfcaaGreatDoorMr0
import Derived.Test.YtjeenahnkcgfcaaGreatDoorMr1
import Derived.Test.YtjeenahnkcgfcaaGreatDoorMr2
import Derived.Test.YtjeenahnkcgfcaaGreatDoorMr3
import Derived.Test.YtjeenahnkcgfcaaGreatDoorMr4
import Derived.Test.YtjeenahnkcgfcaaGreatDoorMr5
import Derived.Test.YtjeenahnkcgfcaaGreatDoorMr6
import Derived.KernelRfl
set_option maxRecDepth 1000000
set_option linter.all false
namespace Go.Proofs.YtjeenahnkcgfcaaGreatDoor
open Go.Sim

theorem tiny_ok : ∀ k t, tinyT k t [(32, 39)] = true → TinyOK Tryz.prog k t := by
  intro k t h
  have h : ((Nat.beq 32 k && Nat.beq 39 t) || false) = true := h
  rw [Bool.or_false, Bool.and_eq_true] at h
  obtain rfl := (beq_iff _ _).1 h.1
  obtain rfl := (beq_iff _ _).1 h.2
  exact tiny
/-- The facts hold of these numbers. -/
def Fa (lt eq : List (SI × SI × Bool)) (η : Nat → Int) : Prop := (∀ a b r, (a, b, r) ∈ lt → decide (a.ev η < b.ev η) = r) ∧ ∀ a b r, (a, b, r) ∈ eq → decide (a.ev η = b.ev η) = r
/-- A known call, where these facts hold. -/
def Ok (lt eq : List (SI × SI × Bool)) (m : Mo) : Prop := MoOK (env [] [] [] [] lt eq []) m
variable {lt eq lt' eq' lt1 eq1 : List (SI × SI × Bool)} {m : Mo}
theorem Ok.at (h : Ok lt eq m) {me : List Mo} {dn : List (Nat × SV)} : MoOK (env [98, 165] [(32, 39)] me [] lt eq dn) m := MoOK.facts h (fun _ h => h) (fun _ h => h)
theorem Ok.imp (h : Ok lt eq m) (hf : ∀ η, Fa lt' eq' η → Fa lt eq η) : Ok lt' eq' m :=
  MoOK.mono h rfl fun g k => ⟨k.ty, k.fn, (hf g.η ⟨k.lt, k.eq⟩).1, (hf g.η ⟨k.lt, k.eq⟩).2, k.mix, k.sz⟩
theorem Ok.or (h : Ok lt eq m) (h1 : Ok lt1 eq1 m) (hf : ∀ η, Fa lt' eq' η → Fa lt eq η ∨ Fa lt1 eq1 η) : Ok lt' eq' m := by
  obtain ⟨a, b, c⟩ := h
  obtain ⟨_, _, c1⟩ := h1
  refine ⟨a, b, fun j g w us k hr hn hu => ?_⟩
  rcases hf g.η ⟨k.lt, k.eq⟩ with q | q
  · exact c j g w us ⟨k.ty, k.fn, q.1, q.2, k.mix, k.sz⟩ hr hn hu
  · exact c1 j g w us ⟨k.ty, k.fn, q.1, q.2, k.mix, k.sz⟩ hr hn hu
theorem Ok.sub (h : Ok lt eq m) (h1 : ∀ x ∈ lt, x ∈ lt') (h2 : ∀ x ∈ eq, x ∈ eq') : Ok lt' eq' m := MoOK.facts h h1 h2
theorem Ok.any (h : Ok [] [] m) : Ok lt eq m := h.sub (fun _ h => by cases h) (fun _ h => by cases h)
theorem ok_of {me : List Mo} {n : Nat} (hd : ∀ x ∈ me, Ok lt eq x) (hfit : fitM m = true) (hrun : resM m (run (env [98, 165] [(32, 39)] me [] lt eq []) n (.call (.fn (.func m.k) [] []) m.as ⟨mkHp m.inp .nil, m.nx, []⟩)) = true) (hgo : goFn (env [98, 165] [(32, 39)] me [] lt eq []) (.fn (.func m.k) [] []) = true) (hnum : ∀ fn, fnT.get m.k = some fn → isNumG fn.name = false) : Ok lt eq m :=
  MoOK.facts (memo_of (E := env [98, 165] [(32, 39)] me [] lt eq []) (tabOK.envS (fun k v h => by cases h) tiny_ok fun x hx => (hd x hx).at) hfit hrun hgo hnum) (fun _ h => h) (fun _ h => h)
theorem all_nil {Q : Mo → Prop} : ∀ x ∈ ([] : List Mo), Q x := fun x h => by cases h
theorem all_cons {Q : Mo → Prop} {a : Mo} {l : List Mo} (h : Q a) (t : ∀ x ∈ l, Q x) : ∀ x ∈ a :: l, Q x := fun x hx => by
  rcases List.mem_cons.1 hx with rfl | hx
  · exact h
  · exact t x hx
theorem sub_nil {l : List (SI × SI × Bool)} : ∀ x ∈ ([] : List (SI × SI × Bool)), x ∈ l := fun x h => by cases h
theorem sub_cons {a : SI × SI × Bool} {k l : List (SI × SI × Bool)} (h : a ∈ l) (t : ∀ x ∈ k, x ∈ l) : ∀ x ∈ a :: k, x ∈ l := fun x hx => by
  rcases List.mem_cons.1 hx with rfl | hx
  · exact h
  · exact t x hx

theorem ok_mSch : Ok [] [] mSch := ok_of (all_nil) fit_mSch run_mSch (by kernel_rfl) (fun fn hf => by cases hf; kernel_rfl)
theorem ok_mPchk : Ok [] [] mPchk := ok_of (all_cons ok_mSch (all_nil)) fit_mPchk run_mPchk (by kernel_rfl) (fun fn hf => by cases hf; kernel_rfl)
theorem ok_mNeedP : Ok [] [] mNeedP := ok_of (all_cons ok_mSch (all_nil)) fit_mNeedP run_mNeedP (by kernel_rfl) (fun fn hf => by cases hf; kernel_rfl)
theorem ok_mRowsP8 : Ok [] [] mRowsP8 := ok_of (all_cons ok_mSch (all_cons ok_mNeedP (all_nil))) fit_mRowsP8 run_mRowsP8 (by kernel_rfl) (fun fn hf => by cases hf; kernel_rfl)
theorem ok_mNeedA : Ok [] [] mNeedA := ok_of (all_cons ok_mSch (all_nil)) fit_mNeedA run_mNeedA (by kernel_rfl) (fun fn hf => by cases hf; kernel_rfl)
theorem ok_mRowsA8 : Ok [] [] mRowsA8 := ok_of (all_cons ok_mSch (all_cons ok_mNeedA (all_nil))) fit_mRowsA8 run_mRowsA8 (by kernel_rfl) (fun fn hf => by cases hf; kernel_rfl)
theorem ok_mRun8 : Ok [] [] mRun8 := ok_of (all_cons ok_mSch (all_cons ok_mPchk (all_cons ok_mRowsP8 (all_cons ok_mRowsA8 (all_nil))))) fit_mRun8 run_mRun8 (by kernel_rfl) (fun fn hf => by cases hf; kernel_rfl)
theorem ok_mPol : Ok [] [] mPol := ok_of (all_cons ok_mSch (all_nil)) fit_mPol run_mPol (by kernel_rfl) (fun fn hf => by cases hf; kernel_rfl)
theorem ok_mChk8 : Ok [] [] mChk8 := ok_of (all_cons ok_mSch (all_cons ok_mPchk (all_cons ok_mPol (all_nil)))) fit_mChk8 run_mChk8 (by kernel_rfl) (fun fn hf => by cases hf; kernel_rfl)
theorem ok_mView8 : Ok [] [] mView8 := ok_of (all_cons ok_mSch (all_cons ok_mPol (all_cons ok_mChk8 (all_nil)))) fit_mView8 run_mView8 (by kernel_rfl) (fun fn hf => by cases hf; kernel_rfl)
theorem ok_mRep8 : Ok [] [] mRep8 := ok_of (all_cons ok_mSch (all_cons ok_mPchk (all_nil))) fit_mRep8 run_mRep8 (by kernel_rfl) (fun fn hf => by cases hf; kernel_rfl)
theorem ok_mRowsPv8 : Ok [] [] mRowsPv8 := ok_of (all_cons ok_mSch (all_cons ok_mNeedP (all_nil))) fit_mRowsPv8 run_mRowsPv8 (by kernel_rfl) (fun fn hf => by cases hf; kernel_rfl)
theorem ok_mRowsAv8 : Ok [] [] mRowsAv8 := ok_of (all_cons ok_mSch (all_cons ok_mNeedA (all_nil))) fit_mRowsAv8 run_mRowsAv8 (by kernel_rfl) (fun fn hf => by cases hf; kernel_rfl)
theorem ok_mExec8 : Ok [] [] mExec8 := ok_of (all_cons ok_mSch (all_cons ok_mPol (all_nil))) fit_mExec8 run_mExec8 (by kernel_rfl) (fun fn hf => by cases hf; kernel_rfl)
theorem ok_mDec1 : Ok [] [] mDec1 := ok_of (all_cons ok_mSch (all_cons ok_mView8 (all_cons ok_mRep8 (all_cons ok_mRowsPv8 (all_cons ok_mRowsAv8 (all_cons ok_mExec8 (all_cons ok_mPchk (all_nil)))))))) fit_mDec1 run_mDec1 (by kernel_rfl) (fun fn hf => by cases hf; kernel_rfl)
theorem ok_mView6 : Ok [] [] mView6 := ok_of (all_cons ok_mSch (all_cons ok_mPol (all_cons ok_mChk8 (all_nil)))) fit_mView6 run_mView6 (by kernel_rfl) (fun fn hf => by cases hf; kernel_rfl)
theorem ok_mRowsPv6 : Ok [] [] mRowsPv6 := ok_of (all_cons ok_mSch (all_cons ok_mNeedP (all_nil))) fit_mRowsPv6 run_mRowsPv6 (by kernel_rfl) (fun fn hf => by cases hf; kernel_rfl)
theorem ok_mRowsAv6 : Ok [] [] mRowsAv6 := ok_of (all_cons ok_mSch (all_cons ok_mNeedA (all_nil))) fit_mRowsAv6 run_mRowsAv6 (by kernel_rfl) (fun fn hf => by cases hf; kernel_rfl)
theorem ok_mRunv6 : Ok [] [] mRunv6 := ok_of (all_cons ok_mSch (all_cons ok_mPchk (all_cons ok_mRowsPv6 (all_cons ok_mRowsAv6 (all_nil))))) fit_mRunv6 run_mRunv6 (by kernel_rfl) (fun fn hf => by cases hf; kernel_rfl)
theorem ok_mExec6 : Ok [] [] mExec6 := ok_of (all_cons ok_mSch (all_cons ok_mPol (all_nil))) fit_mExec6 run_mExec6 (by kernel_rfl) (fun fn hf => by cases hf; kernel_rfl)
theorem ok_mDec2 : Ok [] [] mDec2 := ok_of (all_cons ok_mSch (all_cons ok_mView6 (all_cons ok_mRep8 (all_cons ok_mRowsPv6 (all_cons ok_mRowsAv6 (all_cons ok_mRunv6 (all_cons ok_mExec6 (all_cons ok_mPchk (all_nil))))))))) fit_mDec2 run_mDec2 (by kernel_rfl) (fun fn hf => by cases hf; kernel_rfl)
theorem ok_mView3 : Ok [] [] mView3 := ok_of (all_cons ok_mSch (all_cons ok_mPol (all_cons ok_mChk8 (all_nil)))) fit_mView3 run_mView3 (by kernel_rfl) (fun fn hf => by cases hf; kernel_rfl)
theorem ok_mRowsPv3 : Ok [] [] mRowsPv3 := ok_of (all_cons ok_mSch (all_cons ok_mNeedP (all_nil))) fit_mRowsPv3 run_mRowsPv3 (by kernel_rfl) (fun fn hf => by cases hf; kernel_rfl)
theorem ok_mRunv3 : Ok [] [] mRunv3 := ok_of (all_cons ok_mSch (all_cons ok_mPchk (all_cons ok_mRowsPv3 (all_nil)))) fit_mRunv3 run_mRunv3 (by kernel_rfl) (fun fn hf => by cases hf; kernel_rfl)
theorem ok_mDec3 : Ok [] [] mDec3 := ok_of (all_cons ok_mSch (all_cons ok_mView3 (all_cons ok_mRep8 (all_cons ok_mRowsPv3 (all_cons ok_mRunv3 (all_cons ok_mPchk (all_nil))))))) fit_mDec3 run_mDec3 (by kernel_rfl) (fun fn hf => by cases hf; kernel_rfl)
theorem ok_tPL : Ok [((.conv .i64 (.var 0)), .lit 5, true), (.lit 5, (.conv .i64 (.var 0)), false)] [((.conv .i64 (.var 0)), .lit 5, false), (.lit 5, (.conv .i64 (.var 0)), false)] tPL := ok_of (all_cons ok_mSch.any (all_cons ok_mNeedP.any (all_nil))) fit_tPL run_tPL (by kernel_rfl) (fun fn hf => by cases hf; kernel_rfl)
theorem ok_tPE : Ok [((.conv .i64 (.var 0)), .lit 5, false), (.lit 5, (.conv .i64 (.var 0)), false)] [((.conv .i64 (.var 0)), .lit 5, true), (.lit 5, (.conv .i64 (.var 0)), true)] tPE := ok_of (all_cons ok_mSch.any (all_cons ok_mNeedP.any (all_nil))) fit_tPE run_tPE (by kernel_rfl) (fun fn hf => by cases hf; kernel_rfl)
theorem ok_tPG : Ok [((.conv .i64 (.var 0)), .lit 5, false), (.lit 5, (.conv .i64 (.var 0)), true)] [((.conv .i64 (.var 0)), .lit 5, false), (.lit 5, (.conv .i64 (.var 0)), false)] tPG := ok_of (all_cons ok_mSch.any (all_cons ok_mNeedP.any (all_nil))) fit_tPG run_tPG (by kernel_rfl) (fun fn hf => by cases hf; kernel_rfl)
theorem ok_tA : Ok [] [] tA := ok_of (all_cons ok_mSch (all_cons ok_mNeedA (all_nil))) fit_tA run_tA (by kernel_rfl) (fun fn hf => by cases hf; kernel_rfl)
theorem ok_tRunL : Ok [((.conv .i64 (.var 0)), .lit 5, true), (.lit 5, (.conv .i64 (.var 0)), false)] [((.conv .i64 (.var 0)), .lit 5, false), (.lit 5, (.conv .i64 (.var 0)), false)] tRunL := ok_of (all_cons ok_mSch.any (all_cons ok_mPchk.any (all_cons ok_tPL (all_nil)))) fit_tRunL run_tRunL (by kernel_rfl) (fun fn hf => by cases hf; kernel_rfl)
theorem ok_tRunE : Ok [((.conv .i64 (.var 0)), .lit 5, false), (.lit 5, (.conv .i64 (.var 0)), false), ((.conv .i64 (.var 0)), .lit (-9223372036854775803), false)] [((.conv .i64 (.var 0)), .lit 5, true), (.lit 5, (.conv .i64 (.var 0)), true)] tRunE := ok_of (all_cons ok_mSch.any (all_cons ok_mPchk.any (all_cons (ok_tPE.sub (sub_cons (.head _) (sub_cons (.tail _ (.head _)) (sub_nil))) (sub_cons (.head _) (sub_cons (.tail _ (.head _)) (sub_nil)))) (all_cons ok_tA.any (all_nil))))) fit_tRunE run_tRunE (by kernel_rfl) (fun fn hf => by cases hf; kernel_rfl)
theorem ok_tRunG : Ok [((.conv .i64 (.var 0)), .lit 5, false), (.lit 5, (.conv .i64 (.var 0)), true), ((.conv .i64 (.var 0)), .lit (-9223372036854775803), false)] [((.conv .i64 (.var 0)), .lit 5, false), (.lit 5, (.conv .i64 (.var 0)), false)] tRunG := ok_of (all_cons ok_mSch.any (all_cons ok_mPchk.any (all_cons (ok_tPG.sub (sub_cons (.head _) (sub_cons (.tail _ (.head _)) (sub_nil))) (sub_cons (.head _) (sub_cons (.tail _ (.head _)) (sub_nil)))) (all_cons ok_tA.any (all_nil))))) fit_tRunG run_tRunG (by kernel_rfl) (fun fn hf => by cases hf; kernel_rfl)
theorem ok_lChk : Ok [] [] lChk := ok_of (all_cons ok_mSch (all_cons ok_mPchk (all_cons ok_mPol (all_nil)))) fit_lChk run_lChk (by kernel_rfl) (fun fn hf => by cases hf; kernel_rfl)
theorem ok_lView : Ok [] [] lView := ok_of (all_cons ok_mSch (all_cons ok_mPol (all_cons ok_lChk (all_nil)))) fit_lView run_lView (by kernel_rfl) (fun fn hf => by cases hf; kernel_rfl)
theorem ok_repG : Ok [((.conv .i64 (.var 0)), .lit (-9223372036854775803), false)] [] repG := ok_of (all_cons ok_mSch.any (all_cons ok_mPchk.any (all_nil))) fit_repG run_repG (by kernel_rfl) (fun fn hf => by cases hf; kernel_rfl)
theorem ok_repL : Ok [] [] repL := ok_of (all_cons ok_mSch (all_cons ok_mPchk (all_nil))) fit_repL run_repL (by kernel_rfl) (fun fn hf => by cases hf; kernel_rfl)
theorem ok_vPL : Ok [((.conv .i64 (.var 1)), .lit 5, true), (.lit 5, (.conv .i64 (.var 1)), false)] [((.conv .i64 (.var 1)), .lit 5, false), (.lit 5, (.conv .i64 (.var 1)), false)] vPL := ok_of (all_cons ok_mSch.any (all_cons ok_mNeedP.any (all_nil))) fit_vPL run_vPL (by kernel_rfl) (fun fn hf => by cases hf; kernel_rfl)
theorem ok_vPE : Ok [((.conv .i64 (.var 1)), .lit 5, false), (.lit 5, (.conv .i64 (.var 1)), false)] [((.conv .i64 (.var 1)), .lit 5, true), (.lit 5, (.conv .i64 (.var 1)), true)] vPE := ok_of (all_cons ok_mSch.any (all_cons ok_mNeedP.any (all_nil))) fit_vPE run_vPE (by kernel_rfl) (fun fn hf => by cases hf; kernel_rfl)
theorem ok_vPG : Ok [((.conv .i64 (.var 1)), .lit 5, false), (.lit 5, (.conv .i64 (.var 1)), true)] [((.conv .i64 (.var 1)), .lit 5, false), (.lit 5, (.conv .i64 (.var 1)), false)] vPG := ok_of (all_cons ok_mSch.any (all_cons ok_mNeedP.any (all_nil))) fit_vPG run_vPG (by kernel_rfl) (fun fn hf => by cases hf; kernel_rfl)
theorem ok_vA : Ok [] [] vA := ok_of (all_cons ok_mSch (all_cons ok_mNeedA (all_nil))) fit_vA run_vA (by kernel_rfl) (fun fn hf => by cases hf; kernel_rfl)
theorem ok_vRunL : Ok [((.conv .i64 (.var 1)), .lit 5, true), (.lit 5, (.conv .i64 (.var 1)), false)] [((.conv .i64 (.var 1)), .lit 5, false), (.lit 5, (.conv .i64 (.var 1)), false)] vRunL := ok_of (all_cons ok_mSch.any (all_cons ok_mPchk.any (all_cons ok_vPL (all_nil)))) fit_vRunL run_vRunL (by kernel_rfl) (fun fn hf => by cases hf; kernel_rfl)
theorem ok_vRunE : Ok [((.conv .i64 (.var 1)), .lit 5, false), (.lit 5, (.conv .i64 (.var 1)), false), ((.conv .i64 (.var 1)), .lit (-9223372036854775803), false)] [((.conv .i64 (.var 1)), .lit 5, true), (.lit 5, (.conv .i64 (.var 1)), true)] vRunE := ok_of (all_cons ok_mSch.any (all_cons ok_mPchk.any (all_cons (ok_vPE.sub (sub_cons (.head _) (sub_cons (.tail _ (.head _)) (sub_nil))) (sub_cons (.head _) (sub_cons (.tail _ (.head _)) (sub_nil)))) (all_cons ok_vA.any (all_nil))))) fit_vRunE run_vRunE (by kernel_rfl) (fun fn hf => by cases hf; kernel_rfl)
theorem ok_vRunG : Ok [((.conv .i64 (.var 1)), .lit 5, false), (.lit 5, (.conv .i64 (.var 1)), true), ((.conv .i64 (.var 1)), .lit (-9223372036854775803), false)] [((.conv .i64 (.var 1)), .lit 5, false), (.lit 5, (.conv .i64 (.var 1)), false)] vRunG := ok_of (all_cons ok_mSch.any (all_cons ok_mPchk.any (all_cons (ok_vPG.sub (sub_cons (.head _) (sub_cons (.tail _ (.head _)) (sub_nil))) (sub_cons (.head _) (sub_cons (.tail _ (.head _)) (sub_nil)))) (all_cons ok_vA.any (all_nil))))) fit_vRunG run_vRunG (by kernel_rfl) (fun fn hf => by cases hf; kernel_rfl)
theorem ok_vExR : Ok [((.conv .i64 (.var 1)), (.sub .i64 (.conv .i64 (.var 1)) (.lit 5)), false), ((.sub .i64 (.conv .i64 (.var 1)) (.lit 5)), (.conv .i64 (.var 1)), true)] [((.conv .i64 (.var 1)), (.sub .i64 (.conv .i64 (.var 1)) (.lit 5)), false), ((.sub .i64 (.conv .i64 (.var 1)) (.lit 5)), (.conv .i64 (.var 1)), false)] vExR := ok_of (all_cons ok_mSch.any (all_cons ok_mPol.any (all_nil))) fit_vExR run_vExR (by kernel_rfl) (fun fn hf => by cases hf; kernel_rfl)
theorem ok_vExK : Ok [((.conv .i64 (.var 1)), (.sub .i64 (.conv .i64 (.var 0)) (.lit 5)), false), ((.sub .i64 (.conv .i64 (.var 0)) (.lit 5)), (.conv .i64 (.var 1)), true)] [((.conv .i64 (.var 1)), (.sub .i64 (.conv .i64 (.var 0)) (.lit 5)), false), ((.sub .i64 (.conv .i64 (.var 0)) (.lit 5)), (.conv .i64 (.var 1)), false)] vExK := ok_of (all_cons ok_mSch.any (all_cons ok_mPol.any (all_nil))) fit_vExK run_vExK (by kernel_rfl) (fun fn hf => by cases hf; kernel_rfl)
theorem i64_in (n : Int) : -9223372036854775808 ≤ IntKind.i64.wrap n ∧ IntKind.i64.wrap n ≤ 9223372036854775807 := by rw [IntKind.wrap_i64]; omega
theorem i64_eq {n : Int} (h1 : -9223372036854775808 ≤ n) (h2 : n ≤ 9223372036854775807) : IntKind.i64.wrap n = n := by rw [IntKind.wrap_i64]; omega
theorem of_t {p : Prop} [Decidable p] (h : p) {r : Bool} (hr : r = true) : decide p = r := by rw [hr]; exact decide_eq_true h
theorem of_f {p : Prop} [Decidable p] (h : ¬ p) {r : Bool} (hr : r = false) : decide p = r := by rw [hr]; exact decide_eq_false h

section
variable {η : Nat → Int}
theorem fa_lt {X : SI} {l e : List (SI × SI × Bool)} (h : Fa ((X, .lit 5, true) :: l) e η) : X.ev η < 5 := of_decide_eq_true (h.1 _ _ _ (.head _))
theorem fa_ge {X : SI} {l e : List (SI × SI × Bool)} (h : Fa ((X, .lit 5, false) :: l) e η) : ¬ X.ev η < 5 := of_decide_eq_false (h.1 _ _ _ (.head _))
end
theorem okL_tRunL : Ok [((.conv .i64 (.var 0)), .lit 5, true)] [] tRunL := ok_tRunL.imp fun η h => by
  have q : IntKind.i64.wrap (η 0) < 5 := fa_lt h
  refine ⟨facts_cons (of_t ?_ rfl) (facts_cons (of_f ?_ rfl) (facts_nil)), facts_cons (of_f ?_ rfl) (facts_cons (of_f ?_ rfl) (facts_nil))⟩
  all_goals (simp only [SI.ev]; omega)
theorem okH_tRun : Ok [((.conv .i64 (.var 0)), .lit 5, false)] [] tRunG := Ok.or (show Ok [((.conv .i64 (.var 0)), .lit 5, false), (.lit 5, (.conv .i64 (.var 0)), false), ((.conv .i64 (.var 0)), .lit (-9223372036854775803), false)] [((.conv .i64 (.var 0)), .lit 5, true), (.lit 5, (.conv .i64 (.var 0)), true)] tRunG from ok_tRunE) ok_tRunG fun η h => by
  have q : ¬ IntKind.i64.wrap (η 0) < 5 := fa_ge h
  by_cases e : IntKind.i64.wrap (η 0) = 5
  · left
    refine ⟨facts_cons (of_f ?_ rfl) (facts_cons (of_f ?_ rfl) (facts_cons (of_f ?_ rfl) (facts_nil))), facts_cons (of_t ?_ rfl) (facts_cons (of_t ?_ rfl) (facts_nil))⟩
    all_goals (simp only [SI.ev]; omega)
  · right
    refine ⟨facts_cons (of_f ?_ rfl) (facts_cons (of_t ?_ rfl) (facts_cons (of_f ?_ rfl) (facts_nil))), facts_cons (of_f ?_ rfl) (facts_cons (of_f ?_ rfl) (facts_nil))⟩
    all_goals (simp only [SI.ev]; omega)
theorem okL_vRunL : Ok [((.conv .i64 (.var 1)), .lit 5, true)] [] vRunL := ok_vRunL.imp fun η h => by
  have q : IntKind.i64.wrap (η 1) < 5 := fa_lt h
  refine ⟨facts_cons (of_t ?_ rfl) (facts_cons (of_f ?_ rfl) (facts_nil)), facts_cons (of_f ?_ rfl) (facts_cons (of_f ?_ rfl) (facts_nil))⟩
  all_goals (simp only [SI.ev]; omega)
theorem okL_vPL : Ok [((.conv .i64 (.var 1)), .lit 5, true)] [] vPL := ok_vPL.imp fun η h => by
  have q : IntKind.i64.wrap (η 1) < 5 := fa_lt h
  refine ⟨facts_cons (of_t ?_ rfl) (facts_cons (of_f ?_ rfl) (facts_nil)), facts_cons (of_f ?_ rfl) (facts_cons (of_f ?_ rfl) (facts_nil))⟩
  all_goals (simp only [SI.ev]; omega)
theorem okH_vRun : Ok [((.conv .i64 (.var 1)), .lit 5, false)] [] vRunG := Ok.or (show Ok [((.conv .i64 (.var 1)), .lit 5, false), (.lit 5, (.conv .i64 (.var 1)), false), ((.conv .i64 (.var 1)), .lit (-9223372036854775803), false)] [((.conv .i64 (.var 1)), .lit 5, true), (.lit 5, (.conv .i64 (.var 1)), true)] vRunG from ok_vRunE) ok_vRunG fun η h => by
  have q : ¬ IntKind.i64.wrap (η 1) < 5 := fa_ge h
  by_cases e : IntKind.i64.wrap (η 1) = 5
  · left
    refine ⟨facts_cons (of_f ?_ rfl) (facts_cons (of_f ?_ rfl) (facts_cons (of_f ?_ rfl) (facts_nil))), facts_cons (of_t ?_ rfl) (facts_cons (of_t ?_ rfl) (facts_nil))⟩
    all_goals (simp only [SI.ev]; omega)
  · right
    refine ⟨facts_cons (of_f ?_ rfl) (facts_cons (of_t ?_ rfl) (facts_cons (of_f ?_ rfl) (facts_nil))), facts_cons (of_f ?_ rfl) (facts_cons (of_f ?_ rfl) (facts_nil))⟩
    all_goals (simp only [SI.ev]; omega)
theorem okH_vP : Ok [((.conv .i64 (.var 1)), .lit 5, false)] [] vPG := Ok.or (show Ok [((.conv .i64 (.var 1)), .lit 5, false), (.lit 5, (.conv .i64 (.var 1)), false)] [((.conv .i64 (.var 1)), .lit 5, true), (.lit 5, (.conv .i64 (.var 1)), true)] vPG from ok_vPE) ok_vPG fun η h => by
  have q : ¬ IntKind.i64.wrap (η 1) < 5 := fa_ge h
  by_cases e : IntKind.i64.wrap (η 1) = 5
  · left
    refine ⟨facts_cons (of_f ?_ rfl) (facts_cons (of_f ?_ rfl) (facts_nil)), facts_cons (of_t ?_ rfl) (facts_cons (of_t ?_ rfl) (facts_nil))⟩
    all_goals (simp only [SI.ev]; omega)
  · right
    refine ⟨facts_cons (of_f ?_ rfl) (facts_cons (of_t ?_ rfl) (facts_nil)), facts_cons (of_f ?_ rfl) (facts_cons (of_f ?_ rfl) (facts_nil))⟩
    all_goals (simp only [SI.ev]; omega)
theorem okH_repG : Ok [((.conv .i64 (.var 0)), .lit 5, false)] [] repG := ok_repG.imp fun η h => by
  have q : ¬ IntKind.i64.wrap (η 0) < 5 := fa_ge h
  refine ⟨facts_cons (of_f ?_ rfl) (facts_nil), facts_nil⟩
  all_goals (simp only [SI.ev]; omega)
theorem okH_vExR : Ok [((.conv .i64 (.var 1)), .lit 5, false)] [] vExR := ok_vExR.imp fun η h => by
  have q := fa_ge h
  have hr := i64_in (η 1)
  have hx : SI.ev η (.conv .i64 (.var 1)) = IntKind.i64.wrap (η 1) := rfl
  have hs : SI.ev η (.sub .i64 (.conv .i64 (.var 1)) (.lit 5)) = IntKind.i64.wrap (SI.ev η (.conv .i64 (.var 1)) - 5) := rfl
  rw [← hx] at hr
  rw [i64_eq (by omega) (by omega)] at hs
  refine ⟨facts_cons (of_f ?_ rfl) (facts_cons (of_t ?_ rfl) (facts_nil)), facts_cons (of_f ?_ rfl) (facts_cons (of_f ?_ rfl) (facts_nil))⟩
  all_goals (rw [hs]; omega)
theorem okH_vExK : Ok [((.conv .i64 (.var 1)), .lit 5, false)] [((.conv .i64 (.var 0)), (.conv .i64 (.var 1)), true)] vExK := ok_vExK.imp fun η h => by
  have q := fa_ge h
  have e : SI.ev η (.conv .i64 (.var 0)) = SI.ev η (.conv .i64 (.var 1)) := of_decide_eq_true (h.2 _ _ _ (.head _))
  have hr := i64_in (η 1)
  have hx : SI.ev η (.conv .i64 (.var 1)) = IntKind.i64.wrap (η 1) := rfl
  have hs : SI.ev η (.sub .i64 (.conv .i64 (.var 0)) (.lit 5)) = IntKind.i64.wrap (SI.ev η (.conv .i64 (.var 0)) - 5) := rfl
  rw [← hx] at hr
  rw [i64_eq (by omega) (by omega)] at hs
  refine ⟨facts_cons (of_f ?_ rfl) (facts_cons (of_t ?_ rfl) (facts_nil)), facts_cons (of_f ?_ rfl) (facts_cons (of_f ?_ rfl) (facts_nil))⟩
  all_goals (rw [hs]; omega)
theorem allFLLl : ∀ x ∈ [mSch, mPchk, lView, tRunL, repL, vPL, vRunL], Ok [((.conv .i64 (.var 0)), .lit 5, true), ((.conv .i64 (.var 1)), .lit 5, true), (.var 1, .lit 5, true), ((.conv .i64 (.var 0)), (.conv .i64 (.var 1)), true), ((.conv .i64 (.var 1)), (.conv .i64 (.var 0)), false)] [((.conv .i64 (.var 0)), (.conv .i64 (.var 1)), false), ((.conv .i64 (.var 1)), (.conv .i64 (.var 0)), false), (.var 0, .var 1, false)] x := all_cons ok_mSch.any (all_cons ok_mPchk.any (all_cons ok_lView.any (all_cons (okL_tRunL.sub (sub_cons (.head _) (sub_nil)) (sub_nil)) (all_cons ok_repL.any (all_cons (okL_vPL.sub (sub_cons (.tail _ (.head _)) (sub_nil)) (sub_nil)) (all_cons (okL_vRunL.sub (sub_cons (.tail _ (.head _)) (sub_nil)) (sub_nil)) (all_nil)))))))
theorem allFLLe : ∀ x ∈ [mSch, mPchk, lView, tRunL, repL, vPL], Ok [((.conv .i64 (.var 0)), .lit 5, true), ((.conv .i64 (.var 1)), .lit 5, true), (.var 1, .lit 5, true), ((.conv .i64 (.var 0)), (.conv .i64 (.var 1)), false), ((.conv .i64 (.var 1)), (.conv .i64 (.var 0)), false)] [((.conv .i64 (.var 0)), (.conv .i64 (.var 1)), true), ((.conv .i64 (.var 1)), (.conv .i64 (.var 0)), true), (.var 0, .var 1, true), ((.sub .i64 (.conv .i64 (.var 0)) (.lit 5)), (.sub .i64 (.conv .i64 (.var 1)) (.lit 5)), true)] x := all_cons ok_mSch.any (all_cons ok_mPchk.any (all_cons ok_lView.any (all_cons (okL_tRunL.sub (sub_cons (.head _) (sub_nil)) (sub_nil)) (all_cons ok_repL.any (all_cons (okL_vPL.sub (sub_cons (.tail _ (.head _)) (sub_nil)) (sub_nil)) (all_nil))))))
theorem allFLLg : ∀ x ∈ [mSch, mPchk, lView, tRunL, repL, vPL, vRunL], Ok [((.conv .i64 (.var 0)), .lit 5, true), ((.conv .i64 (.var 1)), .lit 5, true), (.var 1, .lit 5, true), ((.conv .i64 (.var 0)), (.conv .i64 (.var 1)), false), ((.conv .i64 (.var 1)), (.conv .i64 (.var 0)), true)] [((.conv .i64 (.var 0)), (.conv .i64 (.var 1)), false), ((.conv .i64 (.var 1)), (.conv .i64 (.var 0)), false), (.var 0, .var 1, false)] x := all_cons ok_mSch.any (all_cons ok_mPchk.any (all_cons ok_lView.any (all_cons (okL_tRunL.sub (sub_cons (.head _) (sub_nil)) (sub_nil)) (all_cons ok_repL.any (all_cons (okL_vPL.sub (sub_cons (.tail _ (.head _)) (sub_nil)) (sub_nil)) (all_cons (okL_vRunL.sub (sub_cons (.tail _ (.head _)) (sub_nil)) (sub_nil)) (all_nil)))))))
theorem allFLHl : ∀ x ∈ [mSch, mPchk, lView, tRunL, repL, vPG, vA, vRunG, vExR], Ok [((.conv .i64 (.var 0)), .lit 5, true), ((.conv .i64 (.var 1)), .lit 5, false), (.var 1, .lit 5, false), ((.conv .i64 (.var 0)), (.conv .i64 (.var 1)), true), ((.conv .i64 (.var 1)), (.conv .i64 (.var 0)), false)] [((.conv .i64 (.var 0)), (.conv .i64 (.var 1)), false), ((.conv .i64 (.var 1)), (.conv .i64 (.var 0)), false), (.var 0, .var 1, false)] x := all_cons ok_mSch.any (all_cons ok_mPchk.any (all_cons ok_lView.any (all_cons (okL_tRunL.sub (sub_cons (.head _) (sub_nil)) (sub_nil)) (all_cons ok_repL.any (all_cons (okH_vP.sub (sub_cons (.tail _ (.head _)) (sub_nil)) (sub_nil)) (all_cons ok_vA.any (all_cons (okH_vRun.sub (sub_cons (.tail _ (.head _)) (sub_nil)) (sub_nil)) (all_cons (okH_vExR.sub (sub_cons (.tail _ (.head _)) (sub_nil)) (sub_nil)) (all_nil)))))))))
theorem allFHLg : ∀ x ∈ [mSch, mPchk, lView, tRunG, repG, vPL, vRunL], Ok [((.conv .i64 (.var 0)), .lit 5, false), ((.conv .i64 (.var 1)), .lit 5, true), (.var 1, .lit 5, true), ((.conv .i64 (.var 0)), (.conv .i64 (.var 1)), false), ((.conv .i64 (.var 1)), (.conv .i64 (.var 0)), true)] [((.conv .i64 (.var 0)), (.conv .i64 (.var 1)), false), ((.conv .i64 (.var 1)), (.conv .i64 (.var 0)), false), (.var 0, .var 1, false)] x := all_cons ok_mSch.any (all_cons ok_mPchk.any (all_cons ok_lView.any (all_cons (okH_tRun.sub (sub_cons (.head _) (sub_nil)) (sub_nil)) (all_cons (okH_repG.sub (sub_cons (.head _) (sub_nil)) (sub_nil)) (all_cons (okL_vPL.sub (sub_cons (.tail _ (.head _)) (sub_nil)) (sub_nil)) (all_cons (okL_vRunL.sub (sub_cons (.tail _ (.head _)) (sub_nil)) (sub_nil)) (all_nil)))))))
theorem allFHHl : ∀ x ∈ [mSch, mPchk, lView, tRunG, repG, vPG, vA, vRunG, vExR], Ok [((.conv .i64 (.var 0)), .lit 5, false), ((.conv .i64 (.var 1)), .lit 5, false), (.var 1, .lit 5, false), ((.conv .i64 (.var 0)), (.conv .i64 (.var 1)), true), ((.conv .i64 (.var 1)), (.conv .i64 (.var 0)), false)] [((.conv .i64 (.var 0)), (.conv .i64 (.var 1)), false), ((.conv .i64 (.var 1)), (.conv .i64 (.var 0)), false), (.var 0, .var 1, false)] x := all_cons ok_mSch.any (all_cons ok_mPchk.any (all_cons ok_lView.any (all_cons (okH_tRun.sub (sub_cons (.head _) (sub_nil)) (sub_nil)) (all_cons (okH_repG.sub (sub_cons (.head _) (sub_nil)) (sub_nil)) (all_cons (okH_vP.sub (sub_cons (.tail _ (.head _)) (sub_nil)) (sub_nil)) (all_cons ok_vA.any (all_cons (okH_vRun.sub (sub_cons (.tail _ (.head _)) (sub_nil)) (sub_nil)) (all_cons (okH_vExR.sub (sub_cons (.tail _ (.head _)) (sub_nil)) (sub_nil)) (all_nil)))))))))
theorem allFHHe : ∀ x ∈ [mSch, mPchk, lView, tRunG, repG, vPG, vA, vExK], Ok [((.conv .i64 (.var 0)), .lit 5, false), ((.conv .i64 (.var 1)), .lit 5, false), (.var 1, .lit 5, false), ((.conv .i64 (.var 0)), (.conv .i64 (.var 1)), false), ((.conv .i64 (.var 1)), (.conv .i64 (.var 0)), false)] [((.conv .i64 (.var 0)), (.conv .i64 (.var 1)), true), ((.conv .i64 (.var 1)), (.conv .i64 (.var 0)), true), (.var 0, .var 1, true), ((.sub .i64 (.conv .i64 (.var 0)) (.lit 5)), (.sub .i64 (.conv .i64 (.var 1)) (.lit 5)), true)] x := all_cons ok_mSch.any (all_cons ok_mPchk.any (all_cons ok_lView.any (all_cons (okH_tRun.sub (sub_cons (.head _) (sub_nil)) (sub_nil)) (all_cons (okH_repG.sub (sub_cons (.head _) (sub_nil)) (sub_nil)) (all_cons (okH_vP.sub (sub_cons (.tail _ (.head _)) (sub_nil)) (sub_nil)) (all_cons ok_vA.any (all_cons (okH_vExK.sub (sub_cons (.tail _ (.head _)) (sub_nil)) (sub_cons (.head _) (sub_nil))) (all_nil))))))))
theorem allFHHg : ∀ x ∈ [mSch, mPchk, lView, tRunG, repG, vPG, vA, vRunG, vExR], Ok [((.conv .i64 (.var 0)), .lit 5, false), ((.conv .i64 (.var 1)), .lit 5, false), (.var 1, .lit 5, false), ((.conv .i64 (.var 0)), (.conv .i64 (.var 1)), false), ((.conv .i64 (.var 1)), (.conv .i64 (.var 0)), true)] [((.conv .i64 (.var 0)), (.conv .i64 (.var 1)), false), ((.conv .i64 (.var 1)), (.conv .i64 (.var 0)), false), (.var 0, .var 1, false)] x := all_cons ok_mSch.any (all_cons ok_mPchk.any (all_cons ok_lView.any (all_cons (okH_tRun.sub (sub_cons (.head _) (sub_nil)) (sub_nil)) (all_cons (okH_repG.sub (sub_cons (.head _) (sub_nil)) (sub_nil)) (all_cons (okH_vP.sub (sub_cons (.tail _ (.head _)) (sub_nil)) (sub_nil)) (all_cons ok_vA.any (all_cons (okH_vRun.sub (sub_cons (.tail _ (.head _)) (sub_nil)) (sub_nil)) (all_cons (okH_vExR.sub (sub_cons (.tail _ (.head _)) (sub_nil)) (sub_nil)) (all_nil)))))))))
theorem allB : ∀ x ∈ [mRun8, mDec1, mDec2, mDec3], Ok [] [] x := all_cons ok_mRun8 (all_cons ok_mDec1 (all_cons ok_mDec2 (all_cons ok_mDec3 (all_nil))))

end Go.Proofs.YtjeenahnkcgfcaaGreatDoor
