/- Plain law: PredicateCompares. -/
import Derived.Test.YtalbakjfbgkjjaaLaw6
import Derived.Test.YtalbakjfbgkjjaaBeg
import Derived.Test.YtalbakjfbgkjjaaPl2
import Derived.Test.YtalbakjfbgkjjaaRd2
set_option linter.all false
namespace Go.Proofs.Ytalbakjfbgkjjaa
open Go.Abs

def cnt (c : Int) (a b : TValue) : Int := if vHold c a b then 1 else 0

theorem vDen_col (i : Int) (row params : List TValue) : vDen ⟨1, i, ⟨0, 0, ByteArray.empty⟩⟩ row params = vAt row i := by simp [vDen]

def sumC (a b : TValue) : Nat → Int
  | 0 => 0
  | j + 1 => cnt (7 - ((j + 1 : Nat) : Int)) a b + sumC a b j

theorem L6_eq (k : Bool → Int → Option Bool) (real : Bool) (a b : TValue) (hr : ∀ c, vHold c a b = true → real = true) : ∀ (j n : Nat) (m c : Int), c = 7 - j → 0 ≤ m → m ≤ 100 - j → j ≤ 6 → 20 ≤ n →
    L6_1 k (n + j) real m c a b = k real (m + sumC a b j)
  | 0, n + 1, m, c, hc, _, _, _, _ => by
    have h : ¬ c ≤ 6 := by omega
    simp [L6_1, B6_1, h, sumC]
  | j + 1, n, m, c, hc, hm, hm', hj, hn => by
    have h : c ≤ 6 := by omega
    have hF : F19 (n + j) (TPredicate.mk 3 c (TOperand.mk 1 0 (TValue.mk 0 0 ByteArray.empty)) (TOperand.mk 1 1 (TValue.mk 0 0 ByteArray.empty)) []) [a, b] [] = some (vHold c a b) := by
      rw [F19_eq _ _ _ _ (by simp [szP, szL]; omega) (by simp [szP, szL])]
      simp [pH, vDen_col, vAt]
    rw [show n + (j + 1) = (n + j) + 1 by omega]
    simp only [L6_1, B6_1, h, decide_true, if_true, hF, F24_eq, Option.bind_some, sumC]
    rw [← hc]
    have hw : w64 (c + 1) = c + 1 := w64_id (by omega) (by omega)
    have hw2 : w64 (m + 1) = m + 1 := w64_id (by omega) (by omega)
    cases hv : vHold c a b with
    | true =>
      have hre := hr c hv
      subst hre
      simp only [hv, cnt, if_true, beq_self_eq_true, Bool.not_true, Bool.false_eq_true, if_false, B6_0, hw, hw2]
      rw [L6_eq k true a b hr j n (m + 1) (c + 1) (by omega) (by omega) (by omega) (by omega) hn]
      congr 1; omega
    | false =>
      simp only [hv, cnt, if_true, beq_self_eq_true, Bool.not_true, Bool.false_eq_true, if_false, B6_0, hw, hw2]
      rw [L6_eq k real a b hr j n m (c + 1) (by omega) (by omega) (by omega) (by omega) hn]
      congr 1; omega

theorem sum_real {a b : TValue} (ha : vReal a = true) (hb : vReal b = true) (hk : a.fKind = b.fKind) : sumC a b 6 = 3 := by
  have hc : vCmp a b = -1 ∨ vCmp a b = 0 ∨ vCmp a b = 1 := by
    unfold vCmp; repeat (first | split | simp)
  simp only [sumC, cnt, vHold, ha, hb, hk, vTest]
  rcases hc with e | e | e <;> simp [e]
theorem sum_not {a b : TValue} (h : ∀ c, vHold c a b = false) : sumC a b 6 = 0 := by
  simp [sumC, cnt, h]

theorem compares (codes : List Int) (hb : ∀ x ∈ codes, 0 ≤ x ∧ x ≤ 255) : F6 1000 codes = some true := by
  have key : Ok (F6 1000 codes) (fun r => r = true) := by
    unfold F6 B6_3
    refine Ok.bind (F10_ok 1000 codes 90 hb (by omega) (by omega)) fun c hc => ?_
    refine Ok.bind (F21_ok 1000 c 3 hc) fun r ⟨hr, h0, h1, _⟩ => ?_
    have h1 := h1 (by omega)
    rw [w64_id (by omega) (by omega)]
    refine Ok.bind (F22_ok 1000 (by omega) r.2 (3 + r.1) hr (by omega) (by omega)) fun a ⟨ha, ka, ra⟩ => ?_
    refine Ok.bind (F23_ok 1000 (by omega) a.2 ha) fun b ⟨hbc, k1, k2, rb⟩ => ?_
    have hr' : ∀ c, vHold c a.1 b.1 = true → (b.1.fKind == 3 + r.1) = true := by
      intro c h
      simp only [vHold, Bool.and_eq_true, beq_iff_eq] at h
      simp; omega
    rw [show (1000 : Nat) = 994 + 6 from rfl, L6_eq _ _ _ _ hr' 6 994 0 1 (by omega) (by omega) (by omega) (by omega) (by omega)]
    unfold B6_2
    rw [show F14 (994 + 6) = some true from begun_ok 940]
    simp only [Option.bind_some, if_true]
    by_cases hk : b.1.fKind = 3 + r.1
    · rw [sum_real ra (rb (by omega)) (by omega)]
      simp [hk]; exact Ok.pure rfl
    · have hn : ∀ c, vHold c a.1 b.1 = false := by
        intro c
        cases h : vHold c a.1 b.1 with
        | false => rfl
        | true => have := hr' c h; simp at this; exact absurd this hk
      rw [sum_not hn]
      simp [hk]; exact Ok.pure rfl
  obtain ⟨r, h, rfl⟩ := key
  exact h

theorem plain6 (codes : List Int) (h : okL [.slice .sh (rows5 codes)]) (hb : bulkL [.slice .sh (rows5 codes)] ≤ 1048576) : CallOK Try.prog ann 6 [.slice .sh (rows5 codes)] (.bool true) [] :=
  ev6 1000 codes true (compares codes (bytes_ok h.1))
end Go.Proofs.Ytalbakjfbgkjjaa
