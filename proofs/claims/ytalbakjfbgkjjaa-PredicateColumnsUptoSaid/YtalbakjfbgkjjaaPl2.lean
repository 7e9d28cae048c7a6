/- Plain laws: the makers of cases (numbers, texts, values). Condition: codes of at most 1000 bytes, enough steps. -/
import Derived.Test.YtalbakjfbgkjjaaPl1
set_option linter.all false
namespace Go.Proofs.Ytalbakjfbgkjjaa
open Go.Abs

def Ok {α : Type} (x : Option α) (P : α → Prop) : Prop := ∃ a, x = some a ∧ P a
theorem Ok.pure {α : Type} {a : α} {P : α → Prop} (h : P a) : Ok (some a) P := ⟨a, rfl, h⟩
theorem Ok.bind {α β : Type} {x : Option α} {f : α → Option β} {P : α → Prop} {Q : β → Prop} (h : Ok x P) (k : ∀ a, P a → Ok (f a) Q) : Ok (x.bind f) Q := by
  obtain ⟨a, rfl, ha⟩ := h
  exact k a ha
theorem Ok.mono {α : Type} {x : Option α} {P Q : α → Prop} (h : Ok x P) (k : ∀ a, P a → Q a) : Ok x Q := by
  obtain ⟨a, h1, h2⟩ := h
  exact ⟨a, h1, k a h2⟩
theorem Ok.ite {α : Type} {b : Bool} {x y : Option α} {P : α → Prop} (h1 : b = true → Ok x P) (h2 : b = false → Ok y P) : Ok (if b = true then x else y) P := by
  cases b with
  | true => simpa using h1 rfl
  | false => simpa using h2 rfl

structure CaseOK (c : TCase) : Prop where
  lo : 0 ≤ c.fat
  hi : c.fat ≤ c.fcodes.length
  len : c.fcodes.length ≤ 1000
  byte : ∀ x ∈ c.fcodes, 0 ≤ x ∧ x ≤ 255

theorem app_ok {α : Type} (xs ys : List α) (h : xs.length + ys.length ≤ 2147483648) : app xs ys = some (xs ++ ys) := by simp [app, h]

theorem F10_ok (n : Nat) (codes : List Int) (m : Int) (hb : ∀ x ∈ codes, 0 ≤ x ∧ x ≤ 255) (h0 : 0 ≤ m) (h1 : m ≤ 1000) : Ok (F10 n codes m) CaseOK := by
  unfold F10 B10_0
  have hc : ∃ k : Nat, (if m < (codes.length : Int) then m else (codes.length : Int)) = (k : Int) ∧ k ≤ codes.length ∧ k ≤ 1000 := by
    by_cases h : m < (codes.length : Int)
    · exact ⟨m.toNat, by rw [if_pos h]; omega, by omega, by omega⟩
    · exact ⟨codes.length, by rw [if_neg h], Nat.le_refl _, by omega⟩
  obtain ⟨k, e, k1, k2⟩ := hc
  rw [e]
  have h2 : cut codes none (some (k : Int)) = some (codes.take k) := by simp [cut, k1]
  rw [h2, Option.bind_some, app_ok _ _ (by simp; omega), Option.bind_some]
  refine Ok.pure ⟨Int.le_refl _, by simp, by simp; omega, fun x hx => ?_⟩
  exact hb x (List.mem_of_mem_take (by simpa using hx))

theorem F21_ok (n : Nat) (c : TCase) (m : Int) (h : CaseOK c) : Ok (F21 n c m) fun r => CaseOK r.2 ∧ 0 ≤ r.1 ∧ (1 ≤ m → r.1 < m) ∧ (m < 1 → r.1 = 0) ∧ r.1 ≤ 255 := by
  unfold F21 B21_0
  refine Ok.ite (fun h1 => Ok.pure ⟨h, Int.le_refl _, fun h => by omega, fun _ => rfl, by omega⟩) fun h1 => ?_
  simp at h1
  refine Ok.ite (fun h2 => Ok.pure ⟨h, Int.le_refl _, fun h => by omega, fun _ => rfl, by omega⟩) fun h2 => ?_
  simp at h2
  have h3 := h.lo
  have h4 := h.len
  rw [w64_id (x := c.fat + 1) (by omega) (by omega), w64_id (by omega) (by omega)]
  have e : c.fat + 1 - 1 = (c.fat.toNat : Int) := by omega
  have hlt : c.fat.toNat < c.fcodes.length := by omega
  rw [e, idx_nat, List.getElem?_eq_getElem hlt, Option.bind_some]
  have hb := h.byte (c.fcodes[c.fat.toNat]) (List.getElem_mem _)
  rw [w64_id (by omega) (by omega)]
  have hm : m ≠ 0 := by omega
  simp only [rem, hm, if_false, Option.bind_some]
  have q1 := Int.tmod_nonneg m hb.1
  have q2 := Int.tmod_lt_of_pos c.fcodes[c.fat.toNat] (by omega : 0 < m)
  have q3 : c.fcodes[c.fat.toNat].tmod m ≤ c.fcodes[c.fat.toNat] := by
    rw [Int.tmod_eq_emod_of_nonneg hb.1]
    have := Int.emod_add_mul_ediv c.fcodes[c.fat.toNat] m
    have h5 : 0 ≤ m * (c.fcodes[c.fat.toNat] / m) := Int.mul_nonneg (by omega) (Int.ediv_nonneg hb.1 (by omega))
    omega
  exact Ok.pure ⟨⟨by simp; omega, by simp; omega, h4, h.byte⟩, q1, fun _ => q2, fun h => by omega, by simp; omega⟩

theorem F33_ok (n : Nat) (c : TCase) (m : Int) (h : CaseOK c) : Ok (F33 n c m) fun r => CaseOK r.2 := by
  unfold F33 B33_0
  refine Ok.bind (F21_ok n c m h) fun r hr => ?_
  exact Ok.pure hr.1

theorem F47_ok (n : Nat) (c : TCase) (h : CaseOK c) : Ok (F47 n c) fun r => CaseOK r.2 ∧ -9223372036854775808 ≤ r.1 ∧ r.1 ≤ 9223372036854775807 := by
  unfold F47 B47_0
  refine Ok.bind (F21_ok n c 12 h) fun r ⟨hr, h0, _, _, h2⟩ => ?_
  refine Ok.ite (fun _ => Ok.pure ⟨hr, by simp, by simp⟩) fun _ => ?_
  refine Ok.ite (fun _ => Ok.pure ⟨hr, by simp, by simp⟩) fun _ => ?_
  refine Ok.ite (fun _ => Ok.pure ⟨hr, by simp, by simp⟩) fun _ => ?_
  have q1 := Int.tmod_nonneg 4 h0
  have q2 := Int.tmod_lt_of_pos r.1 (by omega : (0 : Int) < 4)
  exact Ok.pure ⟨hr, by simp; omega, by simp; omega⟩

theorem L48_0_ok (c : TCase) : ∀ (k n : Nat) (s : ByteArray) (i : Int), i = 64 - k → k ≤ 64 → s.size = 64 - k → k < n → Ok (L48_0 (fun l b => some (l, b)) n s i c) fun r => r.2 = c ∧ r.1.size ≤ 64
  | 0, n + 1, s, i, hi, _, hs, _ => by
    have h : ¬ i < 64 := by omega
    simp only [L48_0, B48_0, h, decide_false, Bool.false_eq_true, if_false]
    exact Ok.pure ⟨rfl, by simp; omega⟩
  | k + 1, n + 1, s, i, hi, hk, hs, hn => by
    have h : i < 64 := by omega
    simp only [L48_0, B48_0, h, decide_true, if_true]
    have hc : cat s (ByteArray.mk #[255]) = some (s ++ ByteArray.mk #[255]) := by
      have : (ByteArray.mk #[255]).size = 1 := rfl
      unfold cat
      rw [if_pos (by omega)]
    rw [hc, Option.bind_some, w64_id (by omega) (by omega)]
    have hsz : (s ++ ByteArray.mk #[255]).size = s.size + 1 := by rw [ByteArray.size_append]; rfl
    exact L48_0_ok c k n _ _ (by omega) (by omega) (by omega) (by omega)
  | _, 0, _, _, _, _, _, hn => by simp at hn
theorem L48_2_ok (c : TCase) : ∀ (k n : Nat) (s : ByteArray) (i : Int), i = 64 - k → k ≤ 64 → s.size = 64 - k → k < n → Ok (L48_2 (fun l b => some (l, b)) n s i c) fun r => r.2 = c ∧ r.1.size ≤ 64
  | 0, n + 1, s, i, hi, _, hs, _ => by
    have h : ¬ i < 64 := by omega
    simp only [L48_2, B48_2, h, decide_false, Bool.false_eq_true, if_false]
    exact Ok.pure ⟨rfl, by simp; omega⟩
  | k + 1, n + 1, s, i, hi, hk, hs, hn => by
    have h : i < 64 := by omega
    simp only [L48_2, B48_2, h, decide_true, if_true]
    have hc : cat s (ByteArray.mk #[98]) = some (s ++ ByteArray.mk #[98]) := by
      have : (ByteArray.mk #[98]).size = 1 := rfl
      unfold cat
      rw [if_pos (by omega)]
    rw [hc, Option.bind_some, w64_id (by omega) (by omega)]
    have hsz : (s ++ ByteArray.mk #[98]).size = s.size + 1 := by rw [ByteArray.size_append]; rfl
    exact L48_2_ok c k n _ _ (by omega) (by omega) (by omega) (by omega)
  | _, 0, _, _, _, _, _, hn => by simp at hn

theorem F48_ok (n : Nat) (hn : 100 ≤ n) (c : TCase) (h : CaseOK c) : Ok (F48 n c) fun r => CaseOK r.2 ∧ r.1.size ≤ 64 := by
  unfold F48 B48_4
  refine Ok.bind (F21_ok n c 10 h) fun r ⟨hr, _⟩ => ?_
  refine Ok.ite (fun _ => Ok.pure ⟨hr, Nat.le_of_ble_eq_true rfl⟩) fun _ => ?_
  refine Ok.ite (fun _ => Ok.pure ⟨hr, Nat.le_of_ble_eq_true rfl⟩) fun _ => ?_
  refine Ok.ite (fun _ => Ok.pure ⟨hr, Nat.le_of_ble_eq_true rfl⟩) fun _ => ?_
  refine Ok.ite (fun _ => Ok.pure ⟨hr, Nat.le_of_ble_eq_true rfl⟩) fun _ => ?_
  refine Ok.ite (fun _ => Ok.pure ⟨hr, Nat.le_of_ble_eq_true rfl⟩) fun _ => ?_
  refine Ok.ite (fun _ => Ok.pure ⟨hr, Nat.le_of_ble_eq_true rfl⟩) fun _ => ?_
  refine Ok.ite (fun _ => Ok.pure ⟨hr, Nat.le_of_ble_eq_true rfl⟩) fun _ => ?_
  refine Ok.ite (fun _ => Ok.pure ⟨hr, Nat.le_of_ble_eq_true rfl⟩) fun _ => ?_
  refine Ok.ite (fun _ => ?_) fun _ => ?_
  · exact (L48_0_ok r.2 64 n ByteArray.empty 0 (by omega) (by omega) rfl (by omega)).mono fun x ⟨e, hx⟩ => ⟨by rw [e]; exact hr, hx⟩
  · exact (L48_2_ok r.2 64 n ByteArray.empty 0 (by omega) (by omega) rfl (by omega)).mono fun x ⟨e, hx⟩ => ⟨by rw [e]; exact hr, hx⟩

/-- A real value of a kind. -/
theorem F22_ok (n : Nat) (hn : 100 ≤ n) (c : TCase) (k : Int) (h : CaseOK c) (hk : 3 ≤ k) (hk' : k ≤ 5) : Ok (F22 n c k) fun r => CaseOK r.2 ∧ r.1.fKind = k ∧ vReal r.1 = true := by
  unfold F22 B22_0
  refine Ok.ite (fun h3 => ?_) fun h3 => ?_
  · simp at h3
    refine Ok.bind (F21_ok n c 2 h) fun r ⟨hr, h0, h1, _⟩ => Ok.pure ⟨hr, rfl, ?_⟩
    have h1 := h1 (by omega)
    have : r.1 = 0 ∨ r.1 = 1 := by omega
    rcases this with e | e <;> simp [vReal, vValid, h3, e]
  · simp at h3
    refine Ok.ite (fun h4 => ?_) fun h4 => ?_
    · simp at h4
      refine Ok.bind (F47_ok n c h) fun r ⟨hr, _⟩ => Ok.pure ⟨hr, rfl, by simp [vReal, vValid, h4]⟩
    · simp at h4
      refine Ok.bind (F48_ok n hn c h) fun r ⟨hr, hs⟩ => Ok.pure ⟨hr, by simp; omega, ?_⟩
      have : (r.1.size : Int) ≤ 64 := by omega
      simp [vReal, vValid, this]

theorem F23_ok (n : Nat) (hn : 100 ≤ n) (c : TCase) (h : CaseOK c) : Ok (F23 n c) fun r => CaseOK r.2 ∧ 1 ≤ r.1.fKind ∧ r.1.fKind ≤ 5 ∧ (3 ≤ r.1.fKind → vReal r.1 = true) := by
  unfold F23 B23_0
  refine Ok.bind (F21_ok n c 5 h) fun r ⟨hr, h0, h1, _⟩ => ?_
  have h1 := h1 (by omega)
  rw [w64_id (by omega) (by omega)]
  refine Ok.ite (fun h2 => ?_) fun h2 => ?_
  · simp at h2
    exact Ok.pure ⟨hr, by simp; omega, by simp; omega, by simp; omega⟩
  · simp at h2
    refine Ok.bind (F22_ok n hn r.2 (1 + r.1) hr (by omega) (by omega)) fun x ⟨hx, e, hre⟩ => Ok.pure ⟨hx, by simp; omega, by simp; omega, fun _ => hre⟩

end Go.Proofs.Ytalbakjfbgkjjaa
