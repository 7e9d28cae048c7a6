/- The order of a region: masks, records. -/
import Derived.Test.YtjeenahnkcgfcaaGreatDoorSim15
set_option linter.unusedVariables false
set_option linter.unusedSimpArgs false
namespace Go.Sim
open Go.RowKit

variable {E : Env} {g : Gh} {f : Hf} {w : World}

theorem force_eq {β : Type} (m : Nat) (k : Nat → β) : force m k = k m := by cases m <;> rfl
theorem bitB_iff (m i : Nat) : bitB m i = true ↔ m.testBit i = true := by
  unfold bitB
  rw [beq_iff]
  show (m >>> i) &&& 1 = 1 ↔ _
  rw [Nat.and_one_is_mod, Nat.testBit_eq_decide_div_mod_eq, Nat.shiftRight_eq_div_pow]
  simp

theorem direct_eq {ops : Array Oper} {j : Nat} {o : Oper} (h : ops[j]? = some o) : direct ops j = dirO o := by simp [direct, h]

theorem anc_mono {ops : Array Oper} : ∀ (n m j : Nat), n ≤ m → ∀ i ∈ anc ops n j, i ∈ anc ops m j
  | 0, m, j, _, i, h => by simp [anc] at h
  | n + 1, 0, j, hle, _, _ => by omega
  | n + 1, m + 1, j, hle, i, h => by
    simp only [anc, List.mem_append, List.mem_flatMap] at h ⊢
    rcases h with h | ⟨d, hd, h⟩
    · exact .inl h
    · exact .inr ⟨d, hd, anc_mono n m d (by omega) i h⟩

def InvM (ops : Array Oper) (W M j : Nat) : Prop := ∀ p, M.testBit p = true → ∃ i b, i < j ∧ b < W ∧ p = i * W + b ∧ b ∈ anc ops (i + 1) i

theorem pack_inj {W i b i' b' : Nat} (h : i * W + b = i' * W + b') (h1 : b < W) (h2 : b' < W) : i = i' ∧ b = b' := by
  have e1 : (i * W + b) / W = i := by rw [Nat.mul_comm, Nat.mul_add_div (by omega), Nat.div_eq_of_lt h1]; omega
  have e2 : (i' * W + b') / W = i' := by rw [Nat.mul_comm, Nat.mul_add_div (by omega), Nat.div_eq_of_lt h2]; omega
  have : i = i' := by rw [← e1, ← e2, h]
  subst this
  exact ⟨rfl, by omega⟩

theorem unionM_spec {ops : Array Oper} {W M j : Nat} (hM : InvM ops W M j) {x : Nat} : ∀ (ds : List Nat), (unionM W M ds).testBit x = true → ∃ i ∈ ds, x = i ∨ (i < j ∧ x ∈ anc ops (i + 1) i)
  | [], h => by simp [unionM] at h
  | d :: ds, h => by
    have h : (unionM W M ds ||| ((1 <<< d) ||| ((M >>> (d * W)) % 2 ^ W))).testBit x = true := h
    rw [Nat.testBit_or, Nat.testBit_or, Bool.or_eq_true, Bool.or_eq_true] at h
    rcases h with h | h | h
    · obtain ⟨i, hi, h⟩ := unionM_spec hM ds h
      exact ⟨i, by simp [hi], h⟩
    · rw [Nat.shiftLeft_eq, Nat.one_mul, Nat.testBit_two_pow] at h
      exact ⟨d, by simp, .inl (by simpa using h.symm : d = x).symm⟩
    · rw [Nat.testBit_mod_two_pow, Bool.and_eq_true, Nat.testBit_shiftRight] at h
      obtain ⟨h1, h2⟩ := h
      obtain ⟨i, b, q1, q2, q3, q4⟩ := hM _ h2
      have hx : x < W := by simpa using h1
      obtain ⟨rfl, rfl⟩ := pack_inj q3 hx q2
      exact ⟨d, by simp, .inr ⟨q1, q4⟩⟩

theorem allLt_iff {j : Nat} : ∀ {l : List Nat}, allLt j l = true → ∀ i ∈ l, i < j
  | [], _, i, hi => by simp at hi
  | x :: l, h, i, hi => by
    unfold allLt at h
    rw [sel_if] at h
    split at h
    · rename_i hx
      rcases List.mem_cons.1 hi with rfl | hi
      · exact (ble_iff _ _).1 hx
      · exact allLt_iff h i hi
    · simp at h

/-- The mask of an operation, and what is kept of it. -/
theorem mask_spec {ops : Array Oper} {W M j : Nat} {o : Oper} (hj : ops[j]? = some o) (hM : InvM ops W M j) :
    (∀ x, (Nat.mod (unionM W M (dirO o)) (Nat.pow 2 W)).testBit x = true → x < W ∧ x ∈ anc ops (j + 1) j) ∧
    InvM ops W (Nat.lor M (Nat.shiftLeft (Nat.mod (unionM W M (dirO o)) (Nat.pow 2 W)) (Nat.mul j W))) (j + 1) := by
  have hdir := direct_eq hj
  have hbit : ∀ x, (unionM W M (dirO o) % 2 ^ W).testBit x = true → x < W ∧ x ∈ anc ops (j + 1) j := by
    intro x hx
    rw [Nat.testBit_mod_two_pow, Bool.and_eq_true] at hx
    refine ⟨by simpa using hx.1, ?_⟩
    obtain ⟨i, hi, h⟩ := unionM_spec hM (dirO o) hx.2
    rw [← hdir] at hi
    simp only [anc, List.mem_append, List.mem_flatMap]
    rcases h with rfl | ⟨q1, q2⟩
    · exact .inl hi
    · exact .inr ⟨i, hi, anc_mono (i + 1) j i (by omega) x q2⟩
  refine ⟨hbit, fun p hp => ?_⟩
  have hp : (M ||| ((unionM W M (dirO o) % 2 ^ W) <<< (j * W))).testBit p = true := hp
  rw [Nat.testBit_or, Bool.or_eq_true] at hp
  rcases hp with hp | hp
  · obtain ⟨i, b, q1, q2, q3, q4⟩ := hM p hp
    exact ⟨i, b, by omega, q2, q3, q4⟩
  · rw [Nat.testBit_shiftLeft, Bool.and_eq_true] at hp
    obtain ⟨p1, p2⟩ := hp
    obtain ⟨q1, q2⟩ := hbit _ p2
    have p1 : j * W ≤ p := by simpa using p1
    exact ⟨j, p - j * W, by omega, q1, by omega, q2⟩

theorem memB_iff (x : Nat) : ∀ (l : List Nat), memB x l = true ↔ x ∈ l
  | [] => by simp [memB]
  | y :: l => by
    unfold memB
    rw [sel_if, beq_eq]
    by_cases h : x = y
    · simp [h]
    · simp only [h, decide_false, Bool.false_eq_true, if_false, List.mem_cons, false_or]
      exact memB_iff x l
theorem disjB_spec : ∀ {l m : List Nat}, disjB l m = true → ∀ x ∈ l, x ∉ m
  | [], _, _, x, hx => by simp at hx
  | y :: l, m, h, x, hx => by
    unfold disjB at h
    rw [sel_if] at h
    split at h
    · simp at h
    · rename_i hm
      rcases List.mem_cons.1 hx with rfl | hx
      · exact fun hc => hm ((memB_iff _ _).2 hc)
      · exact disjB_spec h x hx
theorem offB_spec {lo hi : Nat} : ∀ {l : List Nat}, offB lo hi l = true → ∀ x ∈ l, x < lo ∨ hi ≤ x
  | [], _, x, hx => by simp at hx
  | y :: l, h, x, hx => by
    unfold offB at h
    rw [sel_if, sel_if] at h
    split at h
    · rename_i h1
      rcases List.mem_cons.1 hx with rfl | hx
      · exact .inl ((ble_iff _ _).1 h1)
      · exact offB_spec h x hx
    · split at h
      · rename_i h1
        rcases List.mem_cons.1 hx with rfl | hx
        · exact .inr ((ble_iff _ _).1 h1)
        · exact offB_spec h x hx
      · simp at h
theorem nilB_iff {l : List Nat} (h : nilB l = true) : l = [] := by
  cases l with
  | nil => rfl
  | cons _ _ => simp [nilB] at h

theorem indepAll_spec {m : Nat} {r : Rc} : ∀ {ps : List Rc}, indepAll m r ps = true → ∀ p ∈ ps, bitB m p.i = true ∨ indepR p r = true
  | [], _, p, hp => by simp at hp
  | q :: ps, h, p, hp => by
    unfold indepAll at h
    rw [sel_if, sel_if] at h
    split at h
    · rename_i h1
      rcases List.mem_cons.1 hp with rfl | hp
      · exact .inl h1
      · exact indepAll_spec h p hp
    · split at h
      · rename_i h1
        rcases List.mem_cons.1 hp with rfl | hp
        · exact .inr h1
        · exact indepAll_spec h p hp
      · simp at h

structure IndepR (p r : Rc) : Prop where
  a1 : ∀ x ∈ r.rd, x < p.lo ∨ p.hi ≤ x
  a2 : ∀ x ∈ r.wr, x < p.lo ∨ p.hi ≤ x
  a3 : ∀ x ∈ p.rd, x < r.lo ∨ r.hi ≤ x
  a4 : ∀ x ∈ p.wr, x < r.lo ∨ r.hi ≤ x
  b1 : ∀ x ∈ p.rd, x ∉ r.wr
  b2 : ∀ x ∈ r.rd, x ∉ p.wr
  b3 : ∀ x ∈ p.wr, x ∉ r.wr
  c1 : p.call = true → r.call = false ∧ r.wr = []
  c2 : r.call = true → p.call = false ∧ p.wr = []
theorem indepR_spec {p r : Rc} (h : indepR p r = true) : IndepR p r := by
  unfold indepR at h
  simp only [Bool.and_eq_true] at h
  obtain ⟨h1, h2, h3, h4, h5, h6, h7, h8⟩ := h
  refine ⟨offB_spec h1, offB_spec h2, offB_spec h3, offB_spec h4, disjB_spec h5, disjB_spec h6, disjB_spec h7, fun hp => ?_, fun hr => ?_⟩
  · rw [hp] at h8
    cases hr : r.call with
    | true => rw [hr] at h8; cases h8
    | false => rw [hr] at h8; exact ⟨rfl, nilB_iff h8⟩
  · rw [hr] at h8
    cases hp : p.call with
    | true => rw [hp] at h8; cases h8
    | false => rw [hp] at h8; exact ⟨rfl, nilB_iff h8⟩

/-! ### the slots -/
theorem tmpL_eq : ∀ (xs : List Operand), tmpL xs = xs.filterMap fun | .tmp t => some t | _ => none
  | [] => rfl
  | x :: xs => by
    have ih := tmpL_eq xs
    cases x <;> simp [tmpL, ih]
theorem looks_eq (ops : Array Oper) (o : Oper) : looks ops.toList o = o.looksAt ops := by
  unfold looks Oper.looksAt
  rw [tmpL_eq]
  cases hg : o.guard with
  | none => rfl
  | some p =>
    obtain ⟨j, b⟩ := p
    simp only [nthDst_eq, Array.getElem?_toList]
    rfl
theorem slotsAll_spec {all : List Oper} {m : Nat} {r : Oper} : ∀ {k : Nat} {ps : List Oper}, slotsAll all m r k ps = true → ps.length = k + 1 ∨ ps = [] → ∀ j p, ps[j]? = some p → bitB m (k - j) = true ∨ slotsB all p r = true
  | k, [], _, _, j, p, hp => by simp at hp
  | k, q :: ps, h, hl, j, p, hp => by
    unfold slotsAll at h
    rw [sel_if, sel_if] at h
    have hl' : ps.length = Nat.sub k 1 + 1 ∨ ps = [] := by
      rcases hl with hl | hl
      · simp at hl
        cases k with
        | zero => exact .inr (List.eq_nil_of_length_eq_zero (by omega))
        | succ k => exact .inl (by show ps.length = k + 1 - 1 + 1; omega)
      · simp at hl
    have hk : ∀ (j : Nat), ps[j]? = some p → Nat.sub k 1 - j = k - (j + 1) := fun j _ => by show k - 1 - j = k - (j + 1); omega
    split at h
    · rename_i h1
      cases j with
      | zero => simp at hp; subst hp; exact .inl h1
      | succ j => simp at hp; have := slotsAll_spec h hl' j p hp; rw [hk j hp] at this; exact this
    · split at h
      · rename_i h1
        cases j with
        | zero => simp at hp; subst hp; exact .inr h1
        | succ j => simp at hp; have := slotsAll_spec h hl' j p hp; rw [hk j hp] at this; exact this
      · simp at h

theorem slotsOk_spec {ops : Array Oper} {W : Nat} : ∀ (l : List Oper) (i M : Nat) (prev : List Oper), slotsOk W ops.toList l i M prev = true → ops.toList.drop i = l → prev = (ops.toList.take i).reverse → InvM ops W M i →
    ∀ j, i ≤ j → j < ops.size → ∀ k, k < j → ∀ p r, ops[k]? = some p → ops[j]? = some r → k ∈ anc ops (j + 1) j ∨ slotsB ops.toList p r = true
  | [], i, M, prev, h, hd, _, _, j, hj, hj', _, _, _, _, _, _ => by
    have : ops.size ≤ i := by simpa using hd
    omega
  | o :: l, i, M, prev, h, hd, hp, hM, j, hj, hj', k, hk, p, r, hpk, hr => by
    have hi : i < ops.toList.length := by
      by_cases hl : i < ops.toList.length
      · exact hl
      · rw [List.drop_of_length_le (by omega)] at hd; simp at hd
    rw [List.drop_eq_getElem_cons hi] at hd
    obtain ⟨ho, hl⟩ := List.cons.inj hd
    have hoi : ops[i]? = some o := by
      have : ops.toList[i]? = some o := by rw [List.getElem?_eq_getElem hi, ho]
      simpa using this
    unfold slotsOk at h
    rw [force_eq, sel_if] at h
    split at h
    · rename_i hs
      rw [force_eq] at h
      obtain ⟨m1, m2⟩ := mask_spec hoi hM
      by_cases hji : j = i
      · subst hji
        rw [hoi] at hr
        obtain rfl : o = r := by simpa using hr
        have hpl : prev.length = j := by rw [hp]; simp at hi ⊢; omega
        have hg : prev[j - 1 - k]? = some p := by
          rw [hp, List.getElem?_reverse (by simp at hi ⊢; omega)]
          simp at hi ⊢
          rw [Nat.min_eq_left (by omega), List.getElem?_take, if_pos (by omega)]
          have : j - 1 - (j - 1 - k) = k := by omega
          rw [this]
          simpa using hpk
        rcases slotsAll_spec hs (by
          cases hpp : prev with
          | nil => exact .inr rfl
          | cons a b => rw [hpp] at hpl; left; simp at hpl ⊢; show b.length = j - 1; omega) (j - 1 - k) p hg with hb | hb
        · have e : Nat.sub j 1 - (j - 1 - k) = k := by show j - 1 - (j - 1 - k) = k; omega
          rw [e] at hb
          exact .inl (m1 k ((bitB_iff _ _).1 hb)).2
        · exact .inr hb
      · refine slotsOk_spec l (i + 1) _ (o :: prev) h hl ?_ m2 j (by omega) hj' k hk p r hpk hr
        have : ops.toList.take (i + 1) = ops.toList.take i ++ [o] := by
          rw [List.take_add_one, List.getElem?_eq_getElem hi, ho]; rfl
        rw [this, List.reverse_append, hp]; rfl
    · simp at h

end Go.Sim
