/- Plain law: PredicateNegates. -/
import Derived.Test.YtalbakjfbgkjjaaLaw5
import Derived.Test.YtalbakjfbgkjjaaBeg
import Derived.Test.YtalbakjfbgkjjaaPl4
import Derived.Test.YtalbakjfbgkjjaaRd2
set_option linter.all false
namespace Go.Proofs.Ytalbakjfbgkjjaa
open Go.Abs

theorem negates (codes : List Int) (hb : ∀ x ∈ codes, 0 ≤ x ∧ x ≤ 255) : F5 2000 codes = some true := by
  have key : Ok (F5 2000 codes) (fun r => r = true) := by
    unfold F5 B5_0
    refine Ok.bind (F10_ok 2000 codes 160 hb (by omega) (by omega)) fun c hc => ?_
    refine Ok.bind (F11_ok 2000 (by omega) c 4 (by omega) hc) fun k ⟨hk, ok, lk⟩ => ?_
    refine Ok.bind (F12_ok k.1 [] ok rfl (by omega) (by simp) 2 2000 k.2 hk (by omega) (by omega) (by omega) (by omega)) fun p ⟨hp, _, sp⟩ => ?_
    refine Ok.bind (F12_ok k.1 [] ok rfl (by omega) (by simp) 2 2000 p.2 hp (by omega) (by omega) (by omega) (by omega)) fun q ⟨hq, _, sq⟩ => ?_
    refine Ok.bind (F17_ok 2000 (by omega) q.2 k.1 0 3 ok (by omega) hq) fun r ⟨hr, _⟩ => ?_
    have e1 := F19_eq r.1 [] 2000 p.1 (by omega) (by omega)
    have e2 := F19_eq r.1 [] 2000 q.1 (by omega) (by omega)
    have e3 : ∀ op : Int, F19 2000 (TPredicate.mk op 0 (TOperand.mk 0 0 (TValue.mk 0 0 ByteArray.empty)) (TOperand.mk 0 0 (TValue.mk 0 0 ByteArray.empty)) [p.1, q.1]) r.1 [] = some (pH r.1 [] (TPredicate.mk op 0 (TOperand.mk 0 0 (TValue.mk 0 0 ByteArray.empty)) (TOperand.mk 0 0 (TValue.mk 0 0 ByteArray.empty)) [p.1, q.1])) :=
      fun op => F19_eq r.1 [] 2000 _ (by simp only [szP, szL]; omega) (by simp only [szP, szL]; omega)
    have e4 : ∀ op : Int, F19 2000 (TPredicate.mk op 0 (TOperand.mk 0 0 (TValue.mk 0 0 ByteArray.empty)) (TOperand.mk 0 0 (TValue.mk 0 0 ByteArray.empty)) [p.1]) r.1 [] = some (pH r.1 [] (TPredicate.mk op 0 (TOperand.mk 0 0 (TValue.mk 0 0 ByteArray.empty)) (TOperand.mk 0 0 (TValue.mk 0 0 ByteArray.empty)) [p.1])) :=
      fun op => F19_eq r.1 [] 2000 _ (by simp only [szP, szL]; omega) (by simp only [szP, szL]; omega)
    have e5 : ∀ op : Int, F19 2000 (TPredicate.mk op 0 (TOperand.mk 0 0 (TValue.mk 0 0 ByteArray.empty)) (TOperand.mk 0 0 (TValue.mk 0 0 ByteArray.empty)) []) r.1 [] = some (pH r.1 [] (TPredicate.mk op 0 (TOperand.mk 0 0 (TValue.mk 0 0 ByteArray.empty)) (TOperand.mk 0 0 (TValue.mk 0 0 ByteArray.empty)) [])) :=
      fun op => F19_eq r.1 [] 2000 _ (by simp only [szP, szL]; omega) (by simp only [szP, szL]; omega)
    have hcut : cut [p.1, q.1] none (some 1) = some [p.1] := by simp [cut]
    rw [show F14 2000 = some true from begun_ok 1940]
    simp only [e1, e2, e3, e4, e5, hcut, Option.bind_some, if_true]
    have h6 : pH r.1 [] (TPredicate.mk 6 0 (TOperand.mk 0 0 (TValue.mk 0 0 ByteArray.empty)) (TOperand.mk 0 0 (TValue.mk 0 0 ByteArray.empty)) [p.1]) = !pH r.1 [] p.1 := by simp [pH, pNot]
    have h4 : pH r.1 [] (TPredicate.mk 4 0 (TOperand.mk 0 0 (TValue.mk 0 0 ByteArray.empty)) (TOperand.mk 0 0 (TValue.mk 0 0 ByteArray.empty)) [p.1, q.1]) = (pH r.1 [] p.1 && pH r.1 [] q.1) := by simp [pH, pAll]
    have h5 : pH r.1 [] (TPredicate.mk 5 0 (TOperand.mk 0 0 (TValue.mk 0 0 ByteArray.empty)) (TOperand.mk 0 0 (TValue.mk 0 0 ByteArray.empty)) [p.1, q.1]) = (pH r.1 [] p.1 || pH r.1 [] q.1) := by simp [pH, pAny]
    have h4' : pH r.1 [] (TPredicate.mk 4 0 (TOperand.mk 0 0 (TValue.mk 0 0 ByteArray.empty)) (TOperand.mk 0 0 (TValue.mk 0 0 ByteArray.empty)) []) = true := by simp [pH, pAll]
    have h5' : pH r.1 [] (TPredicate.mk 5 0 (TOperand.mk 0 0 (TValue.mk 0 0 ByteArray.empty)) (TOperand.mk 0 0 (TValue.mk 0 0 ByteArray.empty)) []) = false := by simp [pH, pAny]
    rw [h6, h4, h5, h4', h5']
    cases pH r.1 [] p.1 <;> cases pH r.1 [] q.1 <;> exact Ok.pure rfl
  obtain ⟨r, h, rfl⟩ := key
  exact h

theorem plain5 (codes : List Int) (h : okL [.slice .sh (rows5 codes)]) (hb : bulkL [.slice .sh (rows5 codes)] ≤ 1048576) : CallOK Try.prog ann 5 [.slice .sh (rows5 codes)] (.bool true) [] :=
  ev5 2000 codes true (negates codes (bytes_ok h.1))
end Go.Proofs.Ytalbakjfbgkjjaa
