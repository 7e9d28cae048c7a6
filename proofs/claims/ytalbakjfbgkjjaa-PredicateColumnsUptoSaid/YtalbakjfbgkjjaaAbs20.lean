import Derived.Test.YtalbakjfbgkjjaaAbs19
set_option linter.unusedSimpArgs false
namespace Go.Abs
open Go.RowKit

/-- A number is reckoned ahead. -/
noncomputable def force {β : Type} (m : Nat) (f : Nat → β) : β := Nat.rec (f 0) (fun k _ => f (k + 1)) m
theorem force_eq {β : Type} (m : Nat) (f : Nat → β) : force m f = f m := by cases m <;> rfl

def dirO (o : Oper) : List Nat := (o.after.toList.filter (Region.binds .any ·)).map (·.on)
theorem direct_eq {ops : Array Oper} {j : Nat} {o : Oper} (h : ops[j]? = some o) : direct ops j = dirO o := by simp [direct, h, dirO]

def unionM (W M : Nat) (ds : List Nat) : Nat := ds.foldl (fun m i => m ||| ((1 <<< i) ||| ((M >>> (i * W)) % (2 ^ W)))) 0

/-- The check of a region's order, by masks. -/
noncomputable def goM (ann : FuncId → Ann) (A : Ann) (ops : Array Oper) (W : Nat) : List Oper → Nat → Nat → Bool
  | [], _, _ => true
  | o :: l, j, M =>
    force (unionM W M (dirO o) % (2 ^ W)) fun m =>
      (dirO o).all (· < j) && (List.range j).all (fun i => m.testBit i || indep ann A ops (ops.getD i default) o) &&
        force (M ||| (m <<< (j * W))) fun M' => goM ann A ops W l (j + 1) M'
noncomputable def okDrawM (ann : FuncId → Ann) (A : Ann) (ops : Array Oper) : Bool := goM ann A ops ops.size ops.toList 0 0

theorem anc_mono {ops : Array Oper} : ∀ (n m j : Nat), n ≤ m → ∀ i ∈ anc ops n j, i ∈ anc ops m j
  | 0, m, j, _, i, h => by simp [anc] at h
  | n + 1, 0, j, hle, _, _ => by omega
  | n + 1, m + 1, j, hle, i, h => by
    simp only [anc, List.mem_append, List.mem_flatMap] at h ⊢
    rcases h with h | ⟨d, hd, h⟩
    · exact .inl h
    · exact .inr ⟨d, hd, anc_mono n m d (by omega) i h⟩

def InvM (ops : Array Oper) (W M j : Nat) : Prop := ∀ p, M.testBit p = true → ∃ i b, i < j ∧ b < W ∧ p = i * W + b ∧ b ∈ anc ops (i + 1) i

theorem pack_inj {W i b i' b' : Nat} (h : i * W + b = i' * W + b') (h1 : b < W) (h2 : b' < W) : i = i' ∧ b = b' := by
  have e1 : (i * W + b) / W = i := by rw [Nat.mul_comm, Nat.mul_add_div (by omega), Nat.div_eq_of_lt h1]; omega
  have e2 : (i' * W + b') / W = i' := by rw [Nat.mul_comm, Nat.mul_add_div (by omega), Nat.div_eq_of_lt h2]; omega
  have : i = i' := by rw [← e1, ← e2, h]
  subst this
  exact ⟨rfl, by omega⟩

theorem unionM_spec {ops : Array Oper} {W M j : Nat} (hM : InvM ops W M j) {x : Nat} : ∀ (ds : List Nat) (m : Nat), (ds.foldl (fun m i => m ||| ((1 <<< i) ||| ((M >>> (i * W)) % (2 ^ W)))) m).testBit x = true →
    m.testBit x = true ∨ ∃ i ∈ ds, x = i ∨ (i < j ∧ x ∈ anc ops (i + 1) i)
  | [], m, h => .inl h
  | d :: ds, m, h => by
    rw [List.foldl_cons] at h
    rcases unionM_spec hM ds _ h with h | ⟨i, hi, h⟩
    · rw [Nat.testBit_or, Nat.testBit_or, Bool.or_eq_true, Bool.or_eq_true] at h
      rcases h with h | h | h
      · exact .inl h
      · rw [Nat.shiftLeft_eq, Nat.one_mul, Nat.testBit_two_pow] at h
        exact .inr ⟨d, by simp, .inl (by simpa using h.symm : d = x).symm⟩
      · rw [Nat.testBit_mod_two_pow, Bool.and_eq_true, Nat.testBit_shiftRight] at h
        obtain ⟨h1, h2⟩ := h
        obtain ⟨i, b, q1, q2, q3, q4⟩ := hM _ h2
        have hx : x < W := by simpa using h1
        obtain ⟨rfl, rfl⟩ := pack_inj q3 hx q2
        exact .inr ⟨d, by simp, .inr ⟨q1, q4⟩⟩
    · exact .inr ⟨i, by simp [hi], h⟩

theorem goM_sound {ann : FuncId → Ann} {A : Ann} {ops : Array Oper} {W : Nat} : ∀ (l : List Oper) (j M : Nat), ops.toList.drop j = l → InvM ops W M j → goM ann A ops W l j M = true →
    ∀ k, j ≤ k → k < ops.size → (∀ i ∈ direct ops k, i < k) ∧ ∀ i, i < k → i ∈ anc ops (k + 1) k ∨ indep ann A ops (ops.getD i default) (ops.getD k default) = true
  | [], j, M, hd, _, _, k, hk, hk' => by
    have : ops.size ≤ j := by simpa using hd
    omega
  | o :: l, j, M, hd, hM, h, k, hk, hk' => by
    have hj : j < ops.toList.length := by
      by_cases hl : j < ops.toList.length
      · exact hl
      · rw [List.drop_of_length_le (by omega)] at hd; simp at hd
    rw [List.drop_eq_getElem_cons hj] at hd
    obtain ⟨ho, hl⟩ := List.cons.inj hd
    have hoj : ops[j]? = some o := by
      have : ops.toList[j]? = some o := by rw [List.getElem?_eq_getElem hj, ho]
      simpa using this
    rw [goM, force_eq, Bool.and_eq_true, Bool.and_eq_true, force_eq] at h
    obtain ⟨⟨h1, h2⟩, h3⟩ := h
    have hdir := direct_eq hoj
    have hlt : ∀ i ∈ direct ops j, i < j := by
      intro i hi
      rw [hdir] at hi
      simpa using List.all_eq_true.1 h1 i hi
    have hbit : ∀ x, (unionM W M (dirO o) % (2 ^ W)).testBit x = true → x < W ∧ x ∈ anc ops (j + 1) j := by
      intro x hx
      rw [Nat.testBit_mod_two_pow, Bool.and_eq_true] at hx
      refine ⟨by simpa using hx.1, ?_⟩
      rcases unionM_spec hM (dirO o) 0 hx.2 with h | ⟨i, hi, h⟩
      · simp at h
      · rw [← hdir] at hi
        simp only [anc, List.mem_append, List.mem_flatMap]
        rcases h with rfl | ⟨q1, q2⟩
        · exact .inl hi
        · exact .inr ⟨i, hi, anc_mono (i + 1) j i (by omega) x q2⟩
    by_cases hkj : k = j
    · subst hkj
      refine ⟨hlt, fun i hi => ?_⟩
      have := List.all_eq_true.1 h2 i (List.mem_range.2 hi)
      rw [Bool.or_eq_true] at this
      rcases this with h | h
      · exact .inl (hbit i h).2
      · right
        have : ops.getD k default = o := by simp [Array.getD_eq_getD_getElem?, hoj]
        rw [this]
        exact h
    · refine goM_sound l (j + 1) _ hl ?_ h3 k (by omega) hk'
      intro p hp
      rw [Nat.testBit_or, Bool.or_eq_true] at hp
      rcases hp with hp | hp
      · obtain ⟨i, b, q1, q2, q3, q4⟩ := hM p hp
        exact ⟨i, b, by omega, q2, q3, q4⟩
      · rw [Nat.testBit_shiftLeft, Bool.and_eq_true] at hp
        obtain ⟨p1, p2⟩ := hp
        obtain ⟨q1, q2⟩ := hbit _ p2
        have p1 : j * W ≤ p := by simpa using p1
        exact ⟨j, p - j * W, by omega, q1, by omega, q2⟩

theorem okDrawM_sound {ann : FuncId → Ann} {A : Ann} {ops : Array Oper} (h : okDrawM ann A ops = true) : okDraw ann A ops = true := by
  have key := goM_sound ops.toList 0 0 (by simp) (fun p hp => by simp at hp) h
  simp only [okDraw, List.all_eq_true, List.mem_range, Bool.and_eq_true, Bool.or_eq_true]
  intro j hj
  obtain ⟨h1, h2⟩ := key j (Nat.zero_le _) hj
  refine ⟨fun i hi => by simpa using h1 i hi, fun i hi => ?_⟩
  rcases h2 i hi with h | h
  · exact .inl (by simpa using anc_mono (j + 1) ops.size j (by omega) i h)
  · exact .inr h
end Go.Abs
