/- From a run to the contract of a law over numbers and bools. -/
import Derived.Test.YtjeenahnkcgfcaaGreatDoorSim25
import Derived.ProofKit
import Derived.OpenShut
set_option linter.unusedVariables false
namespace Go.Sim
open Go.RowKit

/-- What a call leaves as it was. -/
structure Still (w w' : World) : Prop where
  os : w'.os = w.os
  output : w'.output = w.output
  heap : ∀ b, b < w.heap.size → w'.heap[b]? = w.heap[b]?

theorem Still.kept {w w' : World} (h : Still w w') (may : MemPlace → Prop) : w.keptBut w' may := by
  refine ⟨h.os, h.output, fun i hi => ?_⟩
  rw [h.heap i hi]
  cases hc : w.heap[i]? with
  | none => rfl
  | some o => cases o <;> first | exact ⟨rfl, rfl, rfl, fun _ _ => rfl⟩ | exact .inr ⟨rfl, rfl⟩ | rfl

/-- A call of which a run shows that it returns true. -/
theorem true_of_run {E : Env} {η : Nat → Int} (hS : EnvS E) (hE : EnvOK E (gh0 E.P η)) {n : Nat} {k : FuncId} {as : List SV} (hrun : resB (run E n (.call (.fn (.func k) [] []) as ⟨.nil, 0, []⟩)) = some true) (hgo : goFn E (.fn (.func k) [] []) = true)
    {us : List Value} (hus : VRs (gh0 E.P η) us as) (w : World) : Calls E.P k us.toArray w fun e w' => e = .returned (.bool true) ∧ Still w w' := by
  obtain ⟨h', hrun⟩ := resB_some hrun
  have := callsIn_wide.1 (run_calls hS hrun hgo hE (fun _ => rfl) hus 0 w)
  refine this.mono ?_
  rintro e w' ⟨r, g', rfl, h1, h2, h3⟩
  cases h1
  exact ⟨rfl, h3.os, h3.output, h3.old0⟩

/-- Facts on the unknown numbers, one after another. -/
theorem facts_nil {Q : SI → SI → Bool → Prop} : ∀ a b r, (a, b, r) ∈ ([] : List (SI × SI × Bool)) → Q a b r := fun a b r h => by cases h
theorem facts_cons {Q : SI → SI → Bool → Prop} {x y : SI} {s : Bool} {l : List (SI × SI × Bool)} (h : Q x y s) (t : ∀ a b r, (a, b, r) ∈ l → Q a b r) : ∀ a b r, (a, b, r) ∈ (x, y, s) :: l → Q a b r := by
  intro a b r hm
  rcases List.mem_cons.1 hm with e | hm
  · cases e; exact h
  · exact t a b r hm

end Go.Sim
