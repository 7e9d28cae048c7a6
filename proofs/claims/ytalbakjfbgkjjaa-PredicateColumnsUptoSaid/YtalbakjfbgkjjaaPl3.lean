/- Plain laws: which predicates are valid: the program's Check and the reference's are one function. Condition: sizes below 2^32, enough steps. -/
import Derived.Test.YtalbakjfbgkjjaaPl2
set_option linter.all false
namespace Go.Proofs.Ytalbakjfbgkjjaa
open Go.Abs

def kOK (k : Int) : Bool := k == 3 || k == 4 || k == 5
def ksOK (l : List Int) : Bool := l.all kOK

theorem next_i {i L : Nat} (h : i < L) (hl : L < 4294967296) : w64 ((i : Int) + 1) = ((i + 1 : Nat) : Int) := by rw [w64_id (by omega) (by omega)]; rfl

theorem F60_eq (n : Nat) (k : Int) : F60 n k = some (kOK k) := by
  unfold F60 B60_0 kOK
  by_cases h3 : k = 3
  · simp [h3]
  · by_cases h4 : k = 4
    · simp [h4]
    · simp [h3, h4]

theorem L38_eq (xs : List Int) (hl : xs.length < 4294967296) : ∀ (l : List Int) (i n : Nat), xs.drop i = l → l.length < n → L38_0 (some true) n xs (xs.length : Int) (i : Int) = some (ksOK l)
  | [], i, n + 1, hd, hn => by
    have : xs.length ≤ i := by simpa using hd
    have h : ¬ ((i : Int) < (xs.length : Int)) := by omega
    simp [L38_0, B38_0, h, ksOK]
  | x :: l, i, n + 1, hd, hn => by
    obtain ⟨h1, h2, h3⟩ := get_drop hd
    have h : ((i : Int) < (xs.length : Int)) := by omega
    have ih := L38_eq xs hl l (i + 1) n h2 (by simp at hn; omega)
    simp only [L38_0, B38_0, h, decide_true, if_true, idx_nat, h1, Option.bind_some, F60_eq, next_i h3 hl, ih]
    simp only [ksOK, List.all_cons]
    cases kOK x <;> simp
  | _, _, 0, _, hn => by simp at hn
theorem F38_eq (n : Nat) (xs : List Int) (hl : xs.length < 4294967296) (hn : xs.length < n) : F38 n xs = some (ksOK xs) := by
  have := L38_eq xs hl xs 0 n rfl hn
  simpa [F38, B38_2, B38_1] using this

theorem L35_eq (xs : List Int) (hl : xs.length < 4294967296) : ∀ (l : List Int) (i n : Nat), xs.drop i = l → l.length < n → L35_0 (some true) n xs (xs.length : Int) (i : Int) = some (ksOK l)
  | [], i, n + 1, hd, hn => by
    have : xs.length ≤ i := by simpa using hd
    have h : ¬ ((i : Int) < (xs.length : Int)) := by omega
    simp [L35_0, B35_0, h, ksOK]
  | x :: l, i, n + 1, hd, hn => by
    obtain ⟨h1, h2, h3⟩ := get_drop hd
    have h : ((i : Int) < (xs.length : Int)) := by omega
    have ih := L35_eq xs hl l (i + 1) n h2 (by simp at hn; omega)
    simp only [L35_0, B35_0, h, decide_true, if_true, idx_nat, h1, Option.bind_some, next_i h3 hl, ih]
    simp only [ksOK, List.all_cons, kOK]
    by_cases q3 : x = 3
    · simp [q3]
    · by_cases q4 : x = 4
      · simp [q4]
      · by_cases q5 : x = 5 <;> simp [q3, q4, q5]
  | _, _, 0, _, hn => by simp at hn
theorem F35_eq (n : Nat) (xs : List Int) (hl : xs.length < 4294967296) (hn : xs.length < n) : F35 n xs = some (ksOK xs) := by
  have := L35_eq xs hl xs 0 n rfl hn
  simpa [F35, B35_2, B35_1] using this

mutual
def ndP : TPredicate → Nat
  | ⟨_, _, _, _, args⟩ => 1 + ndL args
def ndL : List TPredicate → Nat
  | [] => 0
  | x :: xs => ndP x + ndL xs
end
mutual
def dpP : TPredicate → Nat
  | ⟨_, _, _, _, args⟩ => 1 + dpL args
def dpL : List TPredicate → Nat
  | [] => 0
  | x :: xs => max (dpP x) (dpL xs)
end
theorem ndP_pos (p : TPredicate) : 1 ≤ ndP p := by obtain ⟨_, _, _, _, _⟩ := p; simp [ndP]

/-- The reference's count. -/
theorem F39_eq : ∀ (n : Nat) (p : TPredicate) (m : Int), szP p ≤ n → szP p < 4294967296 → 0 ≤ m → m ≤ 24 → Ok (F39 n p m) fun r => r ≤ 25 ∧ (m + ndP p ≤ 24 → r = m + ndP p) ∧ (24 < m + ndP p → 24 < r)
  | 0, ⟨_, _, _, _, _⟩, _, h, _, _, _ => by simp [szP] at h
  | n + 1, ⟨op, c, l, r, args⟩, m, h, hb, h0, h1 => by
    simp only [szP] at h hb
    have hlen := szL_len args
    have loop : ∀ (xs : List TPredicate) (i k : Nat) (m : Int), args.drop i = xs → xs.length < k → 0 ≤ m → m ≤ 25 →
        Ok (L39_0 (F39 n) (fun r => some r) k m (i : Int) ⟨op, c, l, r, args⟩) fun r => r ≤ 25 ∧ (m + ndL xs ≤ 24 → r = m + ndL xs) ∧ (24 < m + ndL xs → 24 < r) := by
      intro xs
      induction xs with
      | nil =>
        intro i k m hd hk m0 m1
        have : args.length ≤ i := by simpa using hd
        have hq : ¬ ((i : Int) < (args.length : Int)) := by omega
        cases k with
        | zero => simp at hk
        | succ k =>
          simp only [L39_0, B39_0, hq, decide_false, Bool.false_eq_true, if_false]
          exact Ok.pure ⟨m1, fun _ => by simp [ndL], fun h => by simp [ndL] at h; exact h⟩
      | cons x xs ih =>
        intro i k m hd hk m0 m1
        obtain ⟨g1, g2, g3⟩ := get_drop hd
        have hq : ((i : Int) < (args.length : Int)) := by omega
        cases k with
        | zero => simp at hk
        | succ k =>
          simp only [L39_0, B39_0, hq, decide_true, if_true]
          have hx : x ∈ args := List.mem_of_getElem? g1
          have hs := szL_mem hx
          have hnd := ndP_pos x
          refine Ok.ite (fun hm => ?_) fun hm => ?_
          · simp at hm
            rw [idx_nat, g1, Option.bind_some]
            refine Ok.bind (F39_eq n x m (by omega) (by omega) m0 hm) fun r ⟨r1, r2, r3⟩ => ?_
            rw [next_i g3 (by omega)]
            have hr0 : 0 ≤ r := by
              by_cases hz : m + ndP x ≤ 24
              · have := r2 hz; omega
              · have := r3 (by omega); omega
            refine (ih (i + 1) k r g2 (by simp at hk; omega) hr0 r1).mono fun r' ⟨q1, q2, q3⟩ => ⟨q1, fun hle => ?_, fun hlt => ?_⟩
            · simp only [ndL] at hle ⊢
              have e := r2 (by omega)
              have := q2 (by omega)
              omega
            · simp only [ndL] at hlt
              by_cases hz : m + ndP x ≤ 24
              · have e := r2 hz
                exact q3 (by omega)
              · have e := r3 (by omega)
                exact q3 (by omega)
          · simp at hm
            exact Ok.pure ⟨m1, fun hle => by simp only [ndL] at hle; omega, fun _ => hm⟩
    unfold F39 B39_2
    rw [w64_id (by omega) (by omega)]
    refine (loop args 0 n (m + 1) rfl (by omega) (by omega) (by omega)).mono fun r' ⟨q1, q2, q3⟩ => ⟨q1, fun hle => ?_, fun hlt => ?_⟩
    · simp only [ndP] at hle ⊢
      have := q2 (by omega)
      omega
    · simp only [ndP] at hlt
      exact q3 (by omega)

/-- The reference's depth. -/
theorem F40_eq : ∀ (n : Nat) (p : TPredicate) (m : Nat), szP p ≤ n → szP p < 4294967296 → m ≤ 1000 → F40 n p (m : Int) = some (decide (m < dpP p))
  | 0, ⟨_, _, _, _, _⟩, _, h, _, _ => by simp [szP] at h
  | n + 1, ⟨op, c, l, r, args⟩, 0, h, hb, hm => by
    have : 0 < dpP ⟨op, c, l, r, args⟩ := by simp only [dpP]; omega
    simp [F40, B40_2, this]
  | n + 1, ⟨op, c, l, r, args⟩, m + 1, h, hb, hm => by
    simp only [szP] at h hb
    have hlen := szL_len args
    have loop : ∀ (xs : List TPredicate) (i k : Nat), args.drop i = xs → xs.length < k →
        L40_0 (F40 n) (some false) k ((m + 1 : Nat) : Int) (args.length : Int) (i : Int) ⟨op, c, l, r, args⟩ = some (decide (m < dpL xs)) := by
      intro xs
      induction xs with
      | nil =>
        intro i k hd hk
        have : args.length ≤ i := by simpa using hd
        have hq : ¬ ((i : Int) < (args.length : Int)) := by omega
        cases k with
        | zero => simp at hk
        | succ k => simp [L40_0, B40_0, hq, dpL]
      | cons x xs ih =>
        intro i k hd hk
        obtain ⟨g1, g2, g3⟩ := get_drop hd
        have hq : ((i : Int) < (args.length : Int)) := by omega
        cases k with
        | zero => simp at hk
        | succ k =>
          have hx : x ∈ args := List.mem_of_getElem? g1
          have hs := szL_mem hx
          have hw : w64 (((m + 1 : Nat) : Int) - 1) = (m : Int) := by rw [w64_id (by omega) (by omega)]; omega
          simp only [L40_0, B40_0, hq, decide_true, if_true, idx_nat, g1, Option.bind_some, hw, F40_eq n x m (by omega) (by omega) (by omega), next_i g3 (by omega : args.length < 4294967296),
            ih (i + 1) k g2 (by simp at hk; omega)]
          by_cases hd1 : m < dpP x
          · have : m < dpL (x :: xs) := by simp only [dpL]; omega
            simp [hd1, this]
          · have : (m < dpL (x :: xs)) ↔ m < dpL xs := by simp only [dpL]; omega
            simp [hd1, this]
    have hne : ¬ (((m + 1 : Nat) : Int) = 0) := by omega
    have hl := loop args 0 n rfl (by omega)
    have e : (m + 1 < dpP ⟨op, c, l, r, args⟩) ↔ m < dpL args := by simp only [dpP]; omega
    simp only [F40, B40_2, beq_iff_eq, hne, if_false, B40_1]
    rw [show ((0 : Int)) = ((0 : Nat) : Int) from rfl, hl]
    simp [e]

/-- The program's bound on both. -/
theorem F36_eq : ∀ (n : Nat) (p : TPredicate) (v b : Int), szP p ≤ n → szP p < 4294967296 → 1 ≤ v → v ≤ 9 → 0 ≤ b → b ≤ 24 →
    Ok (F36 n p v b) fun r => (r.1 = true ↔ ((ndP p : Int) ≤ b ∧ v + dpP p ≤ 9)) ∧ (r.1 = true → r.2 = b - ndP p)
  | 0, ⟨_, _, _, _, _⟩, _, _, h, _, _, _, _, _ => by simp [szP] at h
  | n + 1, ⟨op, c, l, r, args⟩, v, b, h, hb, v1, v2, b1, b2 => by
    simp only [szP] at h hb
    have hlen := szL_len args
    have loop : ∀ (xs : List TPredicate) (i k : Nat) (b : Int), args.drop i = xs → xs.length < k → v ≤ 8 → 0 ≤ b → b ≤ 24 →
        Ok (L36_0 (F36 n) (fun b => some (true, b)) k v args (args.length : Int) (i : Int) b) fun r => (r.1 = true ↔ ((ndL xs : Int) ≤ b ∧ v + dpL xs ≤ 8)) ∧ (r.1 = true → r.2 = b - ndL xs) := by
      intro xs
      induction xs with
      | nil =>
        intro i k b hd hk hv b1 b2
        have : args.length ≤ i := by simpa using hd
        have hq : ¬ ((i : Int) < (args.length : Int)) := by omega
        cases k with
        | zero => simp at hk
        | succ k =>
          simp only [L36_0, B36_0, hq, decide_false, Bool.false_eq_true, if_false]
          exact Ok.pure ⟨by simp [ndL, dpL]; omega, by simp [ndL]⟩
      | cons x xs ih =>
        intro i k b hd hk hv b1 b2
        obtain ⟨g1, g2, g3⟩ := get_drop hd
        have hq : ((i : Int) < (args.length : Int)) := by omega
        cases k with
        | zero => simp at hk
        | succ k =>
          have hx : x ∈ args := List.mem_of_getElem? g1
          have hs := szL_mem hx
          simp only [L36_0, B36_0, hq, decide_true, if_true, idx_nat, g1, Option.bind_some]
          rw [w64_id (x := v + 1) (by omega) (by omega)]
          refine Ok.bind (F36_eq n x (v + 1) b (by omega) (by omega) (by omega) (by omega) b1 b2) fun r ⟨r1, r2⟩ => ?_
          refine Ok.ite (fun hr => ?_) fun hr => ?_
          · simp at hr
            refine Ok.pure ⟨⟨fun h => by simp at h, fun ⟨h1, h2⟩ => ?_⟩, fun h => by simp at h⟩
            simp only [ndL, dpL] at h1 h2
            have := r1.2 ⟨by omega, by omega⟩
            rw [hr] at this
            exact absurd this (by simp)
          · simp at hr
            have e := r2 hr
            have q := r1.1 hr
            rw [next_i g3 (by omega)]
            have hnd := ndP_pos x
            refine (ih (i + 1) k r.2 g2 (by simp at hk; omega) hv (by omega) (by omega)).mono fun r' ⟨q1, q2⟩ => ⟨⟨fun h => ?_, fun ⟨h1, h2⟩ => ?_⟩, fun h => ?_⟩
            · have := q1.1 h
              simp only [ndL, dpL]; omega
            · simp only [ndL, dpL] at h1 h2
              exact q1.2 ⟨by omega, by omega⟩
            · have := q2 h
              simp only [ndL]; omega
    unfold F36 B36_2
    rw [w64_id (by omega) (by omega)]
    simp only [ndP, dpP]
    refine Ok.ite (fun hb0 => ?_) fun hb0 => ?_
    · simp at hb0
      refine Ok.pure ⟨⟨fun h => by simp at h, fun h => ?_⟩, fun h => by simp at h⟩
      omega
    · simp at hb0
      refine Ok.ite (fun hv => ?_) fun hv => ?_
      · simp at hv
        refine Ok.pure ⟨⟨fun h => by simp at h, fun h => ?_⟩, fun h => by simp at h⟩
        omega
      · simp at hv
        refine (loop args 0 n (b - 1) rfl (by omega) hv (by omega) (by omega)).mono fun r' ⟨q1, q2⟩ => ⟨⟨fun h => ?_, fun ⟨h1, h2⟩ => ?_⟩, fun h => ?_⟩
        · have := q1.1 h; omega
        · exact q1.2 ⟨by omega, by omega⟩
        · have := q2 h; omega

/-- An operand's kind. -/
def oNone (v : TValue) : Bool := v.fKind == 0 && (v.fInt == 0 && (decide (v.fText = ByteArray.empty) && true))
def oZero (o : TOperand) : Bool := o.fKind == 0 && (o.fIndex == 0 && (oNone o.fValue && true))
def kAt (l : List Int) (o : TOperand) : Int := if 0 ≤ o.fIndex ∧ o.fIndex < l.length ∧ oNone o.fValue = true then (l[o.fIndex.toNat]?).getD 0 else 0
def oKind (cols params : List Int) (o : TOperand) : Int :=
  if o.fKind == 3 then (if o.fIndex == 0 && vReal o.fValue then o.fValue.fKind else 0) else if o.fKind == 2 then kAt params o else if o.fKind == 1 then kAt cols o else 0

theorem B62_0_eq (n : Nat) (l : List Int) (o : TOperand) : B62_0 n l o = some (kAt l o) := by
  unfold B62_0 kAt
  by_cases h1 : o.fIndex < 0
  · have : ¬ 0 ≤ o.fIndex := by omega
    simp [h1, this]
  · by_cases h2 : (l.length : Int) ≤ o.fIndex
    · have : ¬ o.fIndex < l.length := by omega
      simp [h1, h2, this]
    · have e1 : 0 ≤ o.fIndex := by omega
      have e2 : o.fIndex < l.length := by omega
      have e3 : o.fIndex.toNat < l.length := by omega
      have hid : idx l o.fIndex = some (l[o.fIndex.toNat]) := by simp [idx, e1, e3]
      cases h3 : oNone o.fValue with
      | false =>
        simp only [oNone] at h3
        simp only [h1, h2, decide_false, Bool.false_eq_true, if_false, ge_iff_le, h3, Bool.not_false, if_true, and_false]
      | true =>
        simp only [oNone] at h3
        simp only [h1, h2, decide_false, Bool.false_eq_true, if_false, ge_iff_le, h3, Bool.not_true, hid, Option.bind_some, e1, e2, and_self, if_true]
        simp [e3]
theorem F62_eq (n : Nat) (cols params : List Int) (o : TOperand) : F62 n cols params o = some (oKind cols params o) := by
  unfold F62 B62_1 oKind
  rw [B62_0_eq, B62_0_eq, F49_eq]
  simp only [Option.bind_some]
  by_cases h3 : o.fKind = 3
  · by_cases hi : o.fIndex = 0 <;> cases vReal o.fValue <;> simp [h3, hi]
  · by_cases h2 : o.fKind = 2
    · simp [h2]
    · by_cases h1 : o.fKind = 1 <;> simp [h1, h2, h3]
theorem F59_eq (n : Nat) (k : Tkinds) (o : TOperand) : F59 n k o = some (oKind k.fcolumns k.fparams o) := by
  have h0 : ∀ l, B59_0 n l o = some (kAt l o) := fun l => by rw [← B62_0_eq n l o]; rfl
  unfold F59 B59_1 oKind
  rw [h0, h0, F43_eq]
  simp only [Option.bind_some]
  by_cases h3 : o.fKind = 3
  · by_cases hi : o.fIndex = 0 <;> cases vReal o.fValue <;> simp [h3, hi]
  · by_cases h2 : o.fKind = 2
    · simp [h2]
    · by_cases h1 : o.fKind = 1 <;> simp [h1, h2, h3]

def nPlain (c : Int) (l r : TOperand) : Bool := c == 0 && oZero l && oZero r
mutual
/-- Whether all nodes are valid. -/
def pV (cols params : List Int) : TPredicate → Bool
  | ⟨op, c, l, r, args⟩ =>
    if op == 1 || op == 2 then nPlain c l r && args.length == 0
    else if op == 3 then args.length == 0 && decide (1 ≤ c) && decide (c ≤ 6) && oKind cols params l != 0 && oKind cols params l == oKind cols params r
    else if op == 4 || op == 5 then nPlain c l r && pVs cols params args
    else if op == 6 then args.length == 1 && (nPlain c l r && pVs cols params args)
    else false
def pVs (cols params : List Int) : List TPredicate → Bool
  | [] => true
  | x :: xs => pV cols params x && pVs cols params xs
end

theorem F61_eq (n : Nat) (p : TPredicate) : F61 n p = some (nPlain p.fCmp p.fLeft p.fRight) := by
  unfold F61 B61_0 nPlain oZero oNone
  by_cases h : p.fCmp = 0
  · simp only [h, beq_self_eq_true, if_true, Bool.true_and]
    split
    · rename_i h1; simp only [h1, Bool.true_and]
    · rename_i h1; rw [Bool.not_eq_true] at h1; simp only [h1, Bool.false_and]
  · simp [h]

theorem F41_eq (cols params : List Int) : ∀ (n : Nat) (p : TPredicate), szP p ≤ n → szP p < 4294967296 → F41 n cols params p = some (pV cols params p)
  | 0, ⟨_, _, _, _, _⟩, h, _ => by simp [szP] at h
  | n + 1, ⟨op, c, l, r, args⟩, h, hb => by
    simp only [szP] at h hb
    have hlen := szL_len args
    have loop : ∀ (xs : List TPredicate) (i k : Nat), args.drop i = xs → xs.length < k →
        L41_0 (F41 n) (some true) k cols params (args.length : Int) (i : Int) ⟨op, c, l, r, args⟩ = some (pVs cols params xs) := by
      intro xs
      induction xs with
      | nil =>
        intro i k hd hk
        have : args.length ≤ i := by simpa using hd
        have hq : ¬ ((i : Int) < (args.length : Int)) := by omega
        cases k with
        | zero => simp at hk
        | succ k => simp [L41_0, B41_0, hq, pVs]
      | cons x xs ih =>
        intro i k hd hk
        obtain ⟨g1, g2, g3⟩ := get_drop hd
        have hq : ((i : Int) < (args.length : Int)) := by omega
        cases k with
        | zero => simp at hk
        | succ k =>
          have hx : x ∈ args := List.mem_of_getElem? g1
          have hs := szL_mem hx
          simp only [L41_0, B41_0, hq, decide_true, if_true, idx_nat, g1, Option.bind_some, F41_eq cols params n x (by omega) (by omega), next_i g3 (by omega : args.length < 4294967296),
            ih (i + 1) k g2 (by simp at hk; omega), pVs]
          cases pV cols params x <;> simp
    have hl := loop args 0 n rfl (by omega)
    have hl : L41_0 (F41 n) (some true) n cols params (args.length : Int) 0 ⟨op, c, l, r, args⟩ = some (pVs cols params args) := hl
    have hB : B41_2 (F41 n) n cols params ⟨op, c, l, r, args⟩ = some (nPlain c l r && pVs cols params args) := by
      unfold B41_2 B41_1
      rw [F61_eq, Option.bind_some, hl]
      cases nPlain c l r <;> simp
    unfold F41 B41_3
    simp only [F61_eq, F62_eq, Option.bind_some, hB]
    unfold pV
    have hz : ((args.length : Int) == 0) = (args.length == 0) := by
      rw [Bool.eq_iff_iff]; simp
    have ho : ((args.length : Int) != 1) = !(args.length == 1) := by
      rw [Bool.eq_iff_iff]; simp; omega
    simp only [hz, ho]
    by_cases h1 : op = 1
    · cases hp : nPlain c l r <;> simp [h1]
    · by_cases h2 : op = 2
      · cases hp : nPlain c l r <;> simp [h2]
      · by_cases h3 : op = 3
        · cases ha : (args.length == 0) with
          | false => simp [h3]
          | true =>
            by_cases c1 : 1 ≤ c
            · by_cases c2 : c ≤ 6
              · by_cases c3 : oKind cols params l = 0 <;> simp [h3, c1, c2, c3]
              · simp [h3, c1, c2]
            · simp [h3, c1]
        · by_cases h4 : op = 4
          · simp [h4]
          · by_cases h5 : op = 5
            · simp [h5]
            · by_cases h6 : op = 6
              · cases ha : (args.length == 1) <;> simp [h6]
              · simp [h1, h2, h3, h4, h5, h6]

theorem F37_eq (k : Tkinds) : ∀ (n : Nat) (p : TPredicate), szP p ≤ n → szP p < 4294967296 → F37 n k p = some (pV k.fcolumns k.fparams p)
  | 0, ⟨_, _, _, _, _⟩, h, _ => by simp [szP] at h
  | n + 1, ⟨op, c, l, r, args⟩, h, hb => by
    simp only [szP] at h hb
    have hlen := szL_len args
    have loop0 : ∀ (xs : List TPredicate) (i m : Nat), args.drop i = xs → xs.length < m →
        L37_0 (F37 n) (some true) m args (args.length : Int) (i : Int) k = some (pVs k.fcolumns k.fparams xs) := by
      intro xs
      induction xs with
      | nil =>
        intro i m hd hk
        have : args.length ≤ i := by simpa using hd
        have hq : ¬ ((i : Int) < (args.length : Int)) := by omega
        cases m with
        | zero => simp at hk
        | succ m => simp [L37_0, B37_0, hq, pVs]
      | cons x xs ih =>
        intro i m hd hk
        obtain ⟨g1, g2, g3⟩ := get_drop hd
        have hq : ((i : Int) < (args.length : Int)) := by omega
        cases m with
        | zero => simp at hk
        | succ m =>
          have hx : x ∈ args := List.mem_of_getElem? g1
          have hs := szL_mem hx
          simp only [L37_0, B37_0, hq, decide_true, if_true, idx_nat, g1, Option.bind_some, F37_eq k n x (by omega) (by omega), next_i g3 (by omega : args.length < 4294967296),
            ih (i + 1) m g2 (by simp at hk; omega), pVs]
          cases pV k.fcolumns k.fparams x <;> simp
    have loop3 : ∀ (xs : List TPredicate) (i m : Nat), args.drop i = xs → xs.length < m →
        L37_3 (F37 n) (some true) m args (args.length : Int) (i : Int) k = some (pVs k.fcolumns k.fparams xs) := by
      intro xs
      induction xs with
      | nil =>
        intro i m hd hk
        have : args.length ≤ i := by simpa using hd
        have hq : ¬ ((i : Int) < (args.length : Int)) := by omega
        cases m with
        | zero => simp at hk
        | succ m => simp [L37_3, B37_3, hq, pVs]
      | cons x xs ih =>
        intro i m hd hk
        obtain ⟨g1, g2, g3⟩ := get_drop hd
        have hq : ((i : Int) < (args.length : Int)) := by omega
        cases m with
        | zero => simp at hk
        | succ m =>
          have hx : x ∈ args := List.mem_of_getElem? g1
          have hs := szL_mem hx
          simp only [L37_3, B37_3, hq, decide_true, if_true, idx_nat, g1, Option.bind_some, F37_eq k n x (by omega) (by omega), next_i g3 (by omega : args.length < 4294967296),
            ih (i + 1) m g2 (by simp at hk; omega), pVs]
          cases pV k.fcolumns k.fparams x <;> simp
    have hl0 : L37_0 (F37 n) (some true) n args (args.length : Int) 0 k = some (pVs k.fcolumns k.fparams args) := loop0 args 0 n rfl (by omega)
    have hl3 : L37_3 (F37 n) (some true) n args (args.length : Int) 0 k = some (pVs k.fcolumns k.fparams args) := loop3 args 0 n rfl (by omega)
    have hplain : ∀ X : Option Bool, (if c != 0 then some false else if !(oZero l) then some false else if !(oZero r) then some false else X) = if nPlain c l r then X else some false := by
      intro X
      unfold nPlain
      by_cases hc : c = 0
      · cases oZero l <;> cases oZero r <;> simp [hc]
      · simp [hc]
    have hB5 : B37_5 (F37 n) n k ⟨op, c, l, r, args⟩ = some (nPlain c l r && pVs k.fcolumns k.fparams args) := by
      have := hplain (L37_3 (F37 n) (B37_4 (F37 n) n) n args (args.length : Int) 0 k)
      unfold B37_5
      refine Eq.trans this ?_
      unfold B37_4
      rw [hl3]
      cases nPlain c l r <;> simp
    have hB2 : ∀ b, B37_2 (F37 n) n b k ⟨op, c, l, r, args⟩ = some (!b && (nPlain c l r && pVs k.fcolumns k.fparams args)) := by
      intro b
      have := hplain (L37_0 (F37 n) (B37_1 (F37 n) n) n args (args.length : Int) 0 k)
      unfold B37_2
      cases b with
      | true => simp
      | false =>
        simp only [Bool.false_eq_true, if_false, Bool.not_false, Bool.true_and]
        refine Eq.trans this ?_
        unfold B37_1
        rw [hl0]
        cases nPlain c l r <;> simp
    unfold F37 B37_6
    simp only [F59_eq, Option.bind_some, hB5, hB2]
    unfold pV
    have hz : ((args.length : Int) == 0) = (args.length == 0) := by
      rw [Bool.eq_iff_iff]; simp
    have hz' : ((args.length : Int) != 0) = !(args.length == 0) := by
      rw [Bool.eq_iff_iff]; simp
    have ho : ((args.length : Int) != 1) = !(args.length == 1) := by
      rw [Bool.eq_iff_iff]; simp; omega
    simp only [hz, hz', ho]
    have he : (args.length == 0) = true → pVs k.fcolumns k.fparams args = true := by
      intro h
      have : args = [] := by simpa using h
      simp [this, pVs]
    by_cases h3 : op = 3
    · cases ha : (args.length == 0) with
      | false => simp [h3]
      | true =>
        by_cases c1 : 1 ≤ c
        · by_cases c2 : c ≤ 6
          · by_cases c3 : oKind k.fcolumns k.fparams l = 0 <;> simp [h3, c1, c2, c3]
          · simp [h3, c1, c2]
        · simp [h3, c1]
    · by_cases h1 : op = 1
      · cases ha : (args.length == 0) with
        | false => simp [h1]
        | true => simp [h1, he ha]
      · by_cases h2 : op = 2
        · cases ha : (args.length == 0) with
          | false => simp [h2]
          | true => simp [h2, he ha]
        · by_cases h6 : op = 6
          · cases ha : (args.length == 1) <;> simp [h6]
          · by_cases h4 : op = 4
            · simp [h4]
            · by_cases h5 : op = 5
              · simp [h5]
              · simp [h1, h2, h3, h4, h5, h6]

/-- The check of a predicate. -/
def pChk (cols params : List Int) (p : TPredicate) : Int :=
  if !ksOK cols then 1 else if !ksOK params then 1 else if decide (24 < ndP p) || decide (8 < dpP p) then 2 else if !pV cols params p then 50 else 0

theorem F16_eq (n : Nat) (cols params : List Int) (p : TPredicate) (h1 : cols.length < n) (h2 : params.length < n) (h3 : szP p ≤ n) (h4 : n < 4294967296) : F16 n cols params p = some (pChk cols params p) := by
  obtain ⟨r, e, r1, r2, r3⟩ := F39_eq n p 0 h3 (by omega) (by omega) (by omega)
  have hd := F40_eq n p 8 h3 (by omega) (by omega)
  have hd : F40 n p 8 = some (decide (8 < dpP p)) := hd
  unfold F16 B16_0 pChk
  simp only [F38_eq n cols (by omega) h1, F38_eq n params (by omega) h2, e, hd, F41_eq cols params n p h3 (by omega), Option.bind_some]
  cases ksOK cols <;> cases ksOK params <;> simp
  by_cases hn : 24 < ndP p
  · have := r3 (by omega)
    simp [hn, this]
  · have := r2 (by omega)
    have h24 : ¬ 24 < r := by omega
    by_cases h8 : 8 < dpP p <;> cases pV cols params p <;> simp [hn, h24, h8]

theorem F15_eq (n : Nat) (cols params : List Int) (p : TPredicate) (h1 : cols.length < n) (h2 : params.length < n) (h3 : szP p ≤ n) (h4 : n < 4294967296) : F15 n cols params p = some (pChk cols params p) := by
  obtain ⟨r, e, r1, r2⟩ := F36_eq n p 1 24 h3 (by omega) (by omega) (by omega) (by omega) (by omega)
  unfold F15 B15_0 pChk
  simp only [F35_eq n cols (by omega) h1, F35_eq n params (by omega) h2, e, F37_eq ⟨cols, params⟩ n p h3 (by omega), Option.bind_some]
  cases ksOK cols <;> cases ksOK params <;> simp
  cases hr : r.1 with
  | true =>
    have := r1.1 hr
    have e1 : ¬ 24 < ndP p := by omega
    have e2 : ¬ 8 < dpP p := by omega
    cases pV cols params p <;> simp [e1, e2]
  | false =>
    have : ¬ ((ndP p : Int) ≤ 24 ∧ (1 : Int) + dpP p ≤ 9) := fun h => by rw [r1.2 h] at hr; simp at hr
    have e1 : 24 < ndP p ∨ 8 < dpP p := by omega
    rcases e1 with h | h <;> simp [h]
end Go.Proofs.Ytalbakjfbgkjjaa
