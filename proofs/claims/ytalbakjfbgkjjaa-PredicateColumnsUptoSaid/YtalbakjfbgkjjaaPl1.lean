/- Plain laws: values, comparisons, and when a predicate holds. No condition but the sizes named in each statement. -/
import Derived.Test.YtalbakjfbgkjjaaFun6
import Derived.IntWalk
set_option linter.all false
namespace Go.Proofs.Ytalbakjfbgkjjaa
open Go.Abs

theorem w64_id {x : Int} (h1 : -9223372036854775808 ≤ x) (h2 : x ≤ 9223372036854775807) : w64 x = x := IntWalk.i64_in x ⟨h1, h2⟩

theorem idx_nat {α : Type} (xs : List α) (i : Nat) : idx xs (i : Int) = xs[i]? := by simp [idx]


mutual
def szP : TPredicate → Nat
  | ⟨_, _, _, _, args⟩ => 2 + szL args
def szL : List TPredicate → Nat
  | [] => 0
  | x :: xs => 1 + szP x + szL xs
end
theorem szL_len (xs : List TPredicate) : xs.length ≤ szL xs := by
  induction xs with
  | nil => simp [szL]
  | cons x xs ih => simp [szL]; omega
theorem szL_drop (xs : List TPredicate) (i : Nat) : szL (xs.drop i) ≤ szL xs := by
  induction xs generalizing i with
  | nil => simp
  | cons x xs ih => cases i with
    | zero => simp
    | succ i => simp only [List.drop_succ_cons, szL]; have := ih i; omega

def zv : TValue := TValue.mk 0 0 ByteArray.empty

/-- Whether a value is valid. -/
def vValid (v : TValue) : Bool :=
  if v.fKind == 1 || v.fKind == 2 then v.fInt == 0 && decide (v.fText = ByteArray.empty)
  else if v.fKind == 3 then (v.fInt == 0 || v.fInt == 1) && decide (v.fText = ByteArray.empty)
  else if v.fKind == 4 then decide (v.fText = ByteArray.empty)
  else if v.fKind == 5 then v.fInt == 0 && decide ((v.fText.size : Int) ≤ 64)
  else false
def vReal (v : TValue) : Bool := vValid v && decide (3 ≤ v.fKind)

theorem F73_eq (n : Nat) (v : TValue) : F73 n v = some (vValid v) := by
  unfold F73 B73_0 vValid
  by_cases h1 : v.fKind = 1 <;> by_cases h2 : v.fKind = 2 <;> by_cases h3 : v.fKind = 3 <;> by_cases h4 : v.fKind = 4 <;> by_cases h5 : v.fKind = 5 <;> by_cases h6 : v.fInt = 0 <;> by_cases h7 : v.fInt = 1 <;> simp_all
theorem F63_eq (n : Nat) (v : TValue) : F63 n v = some (vValid v) := by
  have := F73_eq n v
  exact this
theorem vValid_kind {v : TValue} (h : vValid v = true) : 1 ≤ v.fKind ∧ v.fKind ≤ 5 := by
  unfold vValid at h
  split at h
  · rename_i h1; simp at h1; omega
  · split at h
    · rename_i h1; simp at h1; omega
    · split at h
      · rename_i h1; simp at h1; omega
      · split at h
        · rename_i h1; simp at h1; omega
        · simp at h
theorem F49_eq (n : Nat) (v : TValue) : F49 n v = some (vReal v) := by
  unfold F49 B49_0
  rw [F73_eq]
  simp only [Option.bind_some, vReal]
  cases vValid v <;> simp
theorem F43_eq (n : Nat) (v : TValue) : F43 n v = some (vReal v) := by
  unfold F43 B43_0
  rw [F63_eq]
  simp only [Option.bind_some, vReal]
  cases h : vValid v with
  | false => simp
  | true =>
    have := vValid_kind h
    by_cases h1 : v.fKind = 1
    · simp [h1]
    · by_cases h2 : v.fKind = 2
      · simp [h2]
      · have : 3 ≤ v.fKind := by omega
        simp [h1, h2, this]

theorem bytes_cmp : ∀ a b : List UInt8, Lib.compareBytes a b = if Op.bytesLess a b then -1 else if a = b then 0 else 1
  | [], [] => by simp [Lib.compareBytes, Op.bytesLess]
  | [], _ :: _ => by simp [Lib.compareBytes, Op.bytesLess]
  | _ :: _, [] => by simp [Lib.compareBytes, Op.bytesLess]
  | a :: l, b :: m => by
    rw [Lib.compareBytes, Op.bytesLess, bytes_cmp l m]
    by_cases h : a < b
    · simp [h]
    · by_cases h2 : b < a
      · have hne : a ≠ b := fun e => by subst e; exact absurd h2 (UInt8.lt_irrefl _)
        simp [h, h2, hne]
      · have he : a = b := UInt8.le_antisymm (UInt8.not_lt.1 h2) (UInt8.not_lt.1 h)
        subst he
        simp [UInt8.lt_irrefl]

/-- The order of two values. -/
def vCmp (a b : TValue) : Int :=
  if a.fKind < b.fKind then -1 else if b.fKind < a.fKind then 1
  else if a.fInt < b.fInt then -1 else if b.fInt < a.fInt then 1
  else if Op.bytesLess a.fText.toList b.fText.toList then -1 else if a.fText = b.fText then 0 else 1

theorem bytesLess_irrefl : ∀ a : List UInt8, Op.bytesLess a a = false
  | [] => by simp [Op.bytesLess]
  | a :: l => by simp [Op.bytesLess, bytesLess_irrefl l, UInt8.lt_irrefl]

theorem F50_eq (n : Nat) (a b : TValue) : F50 n a b = some (vCmp a b) := by
  unfold F50 B50_0 vCmp
  by_cases h1 : a.fKind < b.fKind
  · simp [h1]
  · by_cases h2 : b.fKind < a.fKind
    · simp [h1, h2]
    · by_cases h3 : a.fInt < b.fInt
      · simp [h1, h2, h3]
      · by_cases h4 : b.fInt < a.fInt
        · simp [h1, h2, h3, h4]
        · by_cases h5 : Op.bytesLess a.fText.toList b.fText.toList = true
          · simp [h1, h2, h3, h4, h5]
          · by_cases h6 : a.fText = b.fText
            · simp [h1, h2, h3, h4, h6, bytesLess_irrefl]
            · simp [h1, h2, h3, h4, h5, h6]

theorem ba_toList_inj {a b : ByteArray} (h : a.data.toList = b.data.toList) : a = b := by
  cases a; cases b; simp at h; simp [h]

theorem ba_toList (a : ByteArray) : a.toList = a.data.toList := by
  exact ByteArray.toList_eq a

theorem F79_cmp (n : Nat) (a b : ByteArray) : F79 n a b = some (if Op.bytesLess a.toList b.toList then -1 else if a = b then 0 else 1) := by
  unfold F79
  rw [bytes_cmp, ba_toList, ba_toList]
  by_cases h : a = b
  · subst h; simp
  · have : a.data.toList ≠ b.data.toList := fun e => h (ba_toList_inj e)
    simp [h, this]

theorem F70_eq (n : Nat) (a b : Int) : F70 n a b = some (if a < b then -1 else if b < a then 1 else 0) := by
  unfold F70 B70_0 F77 B77_0
  by_cases h1 : a < b
  · simp [h1]
  · by_cases h2 : b < a <;> simp [h1, h2]
theorem F71_eq (n : Nat) (a b : Int) : F71 n a b = some (if a < b then -1 else if b < a then 1 else 0) := by
  unfold F71 B71_0 F78 B78_0
  by_cases h1 : a < b
  · simp [h1]
  · by_cases h2 : b < a <;> simp [h1, h2]

theorem F45_eq (n : Nat) (a b : TValue) : F45 n a b = some (vCmp a b) := by
  unfold F45 B45_0 F72 B72_0
  rw [F70_eq, F71_eq, F79_cmp]
  obtain ⟨k, i, t⟩ := a
  obtain ⟨k', i', t'⟩ := b
  unfold vCmp
  simp only [Option.bind_some]
  by_cases h1 : k < k'
  · have : k ≠ k' := by omega
    simp [h1, this]
  · by_cases h2 : k' < k
    · have : k ≠ k' := by omega
      simp [h1, h2, this]
    · have hk : k = k' := by omega
      subst hk
      by_cases h3 : i < i'
      · have : i ≠ i' := by omega
        simp [h3, this]
      · by_cases h4 : i' < i
        · have : i ≠ i' := by omega
          simp [h3, h4, this]
        · have hi : i = i' := by omega
          subst hi
          by_cases h5 : t = t'
          · subst h5; simp [bytesLess_irrefl]
          · simp [h5]

/-- The tests. -/
def vTest (c o : Int) : Bool :=
  if c == 1 then o == 0 else if c == 2 then o != 0 else if c == 3 then decide (o < 0) else if c == 4 then decide (o ≤ 0) else if c == 5 then decide (o > 0) else if c == 6 then decide (o ≥ 0) else false
/-- Whether a comparison of two values holds. -/
def vHold (c : Int) (a b : TValue) : Bool := vReal a && vReal b && a.fKind == b.fKind && vTest c (vCmp a b)

theorem F24_eq (n : Nat) (c : Int) (a b : TValue) : F24 n c a b = some (vHold c a b) := by
  unfold F24 B24_0
  rw [F49_eq, F49_eq, F50_eq]
  simp only [Option.bind_some, vHold]
  cases vReal a <;> cases vReal b <;> simp
  by_cases h : a.fKind = b.fKind
  · simp only [h, bne_self_eq_false, Bool.false_eq_true, if_false, vTest, beq_self_eq_true]
    by_cases h1 : c = 1
    · simp [h1]
    · by_cases h2 : c = 2
      · simp [h2]
      · by_cases h3 : c = 3
        · simp [h3]
        · by_cases h4 : c = 4
          · simp [h4]
          · by_cases h5 : c = 5
            · simp [h5]
            · by_cases h6 : c = 6
              · simp [h6]
              · simp [h1, h2, h3, h4, h5, h6]
  · simp [h]

/-- What an operand denotes. -/
def vAt (l : List TValue) (i : Int) : TValue := if 0 ≤ i then (l[i.toNat]?).getD zv else zv
def vDen (o : TOperand) (row params : List TValue) : TValue :=
  if o.fKind == 3 then o.fValue else if o.fKind == 2 then vAt params o.fIndex else if o.fKind == 1 then vAt row o.fIndex else zv

theorem idx_some {l : List TValue} {i : Int} (h1 : 0 ≤ i) (h2 : i < l.length) : idx l i = some (vAt l i) := by
  have : i.toNat < l.length := by omega
  simp [idx, vAt, h1, this]
theorem vAt_out {l : List TValue} {i : Int} (h : i < 0 ∨ (l.length : Int) ≤ i) : vAt l i = zv := by
  unfold vAt
  split
  · have : l.length ≤ i.toNat := by omega
    simp [this]
  · rfl

theorem F42_eq (n : Nat) (o : TOperand) (row params : List TValue) : F42 n o row params = some (vDen o row params) := by
  have key : ∀ l, B42_0 n l o = some (vAt l o.fIndex) := by
    intro l
    unfold B42_0
    by_cases h1 : o.fIndex < 0
    · simp [h1, vAt_out (Or.inl h1), zv]
    · by_cases h2 : (l.length : Int) ≤ o.fIndex
      · simp [h1, h2, vAt_out (Or.inr h2), zv]
      · have := idx_some (l := l) (i := o.fIndex) (by omega) (by omega)
        simp [h1, h2, this]
  unfold F42 B42_1 vDen
  rw [key, key]
  by_cases h3 : o.fKind = 3
  · simp [h3]
  · by_cases h2 : o.fKind = 2
    · simp [h2]
    · by_cases h1 : o.fKind = 1 <;> simp [h1, h2, h3, zv]

theorem zv_real : vReal zv = false := by decide

/-- The reference's reading: a value, or none. -/
theorem F46_eq (n : Nat) (o : TOperand) (row params : List TValue) : ∃ b, F46 n o row params = some (vDen o row params, b) ∧ (b = false → vDen o row params = zv) := by
  unfold F46 B46_1
  have key : ∀ t : Bool, (t = true → 0 ≤ o.fIndex ∧ o.fIndex < params.length ∧ o.fKind = 2) → (t = false → (o.fKind = 2 → vAt params o.fIndex = zv) ∧ (o.fKind = 1 → vAt row o.fIndex = zv)) →
      ∃ b, B46_0 n params t o = some (vDen o row params, b) ∧ (b = false → vDen o row params = zv) := by
    intro t h1 h0
    unfold B46_0
    cases t with
    | true =>
      obtain ⟨q1, q2, q3⟩ := h1 rfl
      simp only [if_true]
      rw [idx_some q1 q2]
      exact ⟨true, by simp [vDen, q3], by simp⟩
    | false =>
      obtain ⟨q1, q2⟩ := h0 rfl
      simp only [Bool.false_eq_true, if_false]
      by_cases h3 : o.fKind = 3
      · exact ⟨true, by simp [vDen, h3], by simp⟩
      · have : vDen o row params = zv := by
          unfold vDen
          by_cases h2 : o.fKind = 2
          · simp [h2, q1 h2]
          · by_cases h1 : o.fKind = 1
            · simp [h1, q2 h1]
            · simp [h1, h2, h3]
        exact ⟨false, by simp [h3, this, zv], fun _ => this⟩
  by_cases h1 : o.fKind = 1
  · by_cases h2 : 0 ≤ o.fIndex
    · by_cases h3 : o.fIndex < row.length
      · simp only [h1, h2, h3, beq_self_eq_true, if_true, ge_iff_le, decide_true]
        rw [idx_some h2 h3]
        exact ⟨true, by simp [vDen, h1], by simp⟩
      · simpa [h1, h2, h3] using key false (by simp) (fun _ => ⟨by simp [h1], fun _ => vAt_out (Or.inr (by omega))⟩)
    · simpa [h1, h2] using key false (by simp) (fun _ => ⟨by simp [h1], fun _ => vAt_out (Or.inl (by omega))⟩)
  · by_cases h2 : o.fKind = 2
    · by_cases h3 : 0 ≤ o.fIndex
      · by_cases h4 : o.fIndex < params.length
        · simpa [h1, h2, h3, h4] using key true (fun _ => ⟨h3, h4, h2⟩) (by simp)
        · simpa [h1, h2, h3, h4] using key false (by simp) (fun _ => ⟨fun _ => vAt_out (Or.inr (by omega)), by simp [h1]⟩)
      · simpa [h1, h2, h3] using key false (by simp) (fun _ => ⟨fun _ => vAt_out (Or.inl (by omega)), by simp [h1]⟩)
    · simpa [h1, h2] using key false (by simp) (fun _ => ⟨by simp [h2], by simp [h1]⟩)

mutual
/-- When a predicate holds. -/
def pH (row params : List TValue) : TPredicate → Bool
  | ⟨op, c, l, r, args⟩ =>
    if op == 1 then true else if op == 3 then vHold c (vDen l row params) (vDen r row params)
    else if op == 4 then pAll row params args else if op == 5 then pAny row params args else if op == 6 then pNot row params args else false
def pAll (row params : List TValue) : List TPredicate → Bool
  | [] => true
  | x :: xs => pH row params x && pAll row params xs
def pAny (row params : List TValue) : List TPredicate → Bool
  | [] => false
  | x :: xs => pH row params x || pAny row params xs
def pNot (row params : List TValue) : List TPredicate → Bool
  | [] => false
  | x :: _ => !pH row params x
end

theorem F44_test (n : Nat) (c : Int) (a b : TValue) (F : Option Bool)
    (h : F = (F44 n c).bind fun x40_ =>
            if x40_ == 0 then
              some false
            else
              if x40_ == 64 then
                (F45 n a b).bind fun x48_ =>
                (F64 n x48_).bind fun x49_ =>
                some x49_
              else
                if x40_ == 65 then
                  (F45 n a b).bind fun x48_ =>
                  (F65 n x48_).bind fun x49_ =>
                  some x49_
                else
                  if x40_ == 66 then
                    (F45 n a b).bind fun x48_ =>
                    (F66 n x48_).bind fun x49_ =>
                    some x49_
                  else
                    if x40_ == 67 then
                      (F45 n a b).bind fun x48_ =>
                      (F67 n x48_).bind fun x49_ =>
                      some x49_
                    else
                      if x40_ == 68 then
                        (F45 n a b).bind fun x48_ =>
                        (F68 n x48_).bind fun x49_ =>
                        some x49_
                      else
                        if x40_ == 69 then
                          (F45 n a b).bind fun x48_ =>
                          (F69 n x48_).bind fun x49_ =>
                          some x49_
                        else
                          none) : F = some (vTest c (vCmp a b)) := by
  subst h
  rw [F45_eq]
  unfold F44 B44_0 vTest
  by_cases h0 : c < 0
  · have e1 : c ≠ 1 := by omega
    have e2 : c ≠ 2 := by omega
    have e3 : c ≠ 3 := by omega
    have e4 : c ≠ 4 := by omega
    have e5 : c ≠ 5 := by omega
    have e6 : c ≠ 6 := by omega
    simp [h0, e1, e2, e3, e4, e5, e6]
  · by_cases h7 : 7 ≤ c
    · have e1 : c ≠ 1 := by omega
      have e2 : c ≠ 2 := by omega
      have e3 : c ≠ 3 := by omega
      have e4 : c ≠ 4 := by omega
      have e5 : c ≠ 5 := by omega
      have e6 : c ≠ 6 := by omega
      simp [h0, h7, e1, e2, e3, e4, e5, e6]
    · have : c = 0 ∨ c = 1 ∨ c = 2 ∨ c = 3 ∨ c = 4 ∨ c = 5 ∨ c = 6 := by omega
      rcases this with rfl | rfl | rfl | rfl | rfl | rfl | rfl <;> simp [F64, B64_0, F65, B65_0, F66, B66_0, F67, B67_0, F68, B68_0, F69, B69_0]

theorem get_drop {α : Type} {xs : List α} {i : Nat} {x : α} {l : List α} (h : xs.drop i = x :: l) : xs[i]? = some x ∧ xs.drop (i + 1) = l ∧ i < xs.length := by
  have h1 : i < xs.length := by
    by_cases hl : i < xs.length
    · exact hl
    · rw [List.drop_of_length_le (by omega)] at h; simp at h
  rw [List.drop_eq_getElem_cons h1] at h
  obtain ⟨q1, q2⟩ := List.cons.inj h
  exact ⟨by simp [h1, q1], q2, h1⟩

theorem L19_0_eq (s : TPredicate → List TValue → List TValue → Option Bool) (row params : List TValue) (xs : List TPredicate) (hl : xs.length < 4294967296) : ∀ (l : List TPredicate) (i n : Nat), xs.drop i = l →
    (∀ x ∈ l, s x row params = some (pH row params x)) → l.length < n → L19_0 s (some true) n row params xs (xs.length : Int) (i : Int) = some (pAll row params l)
  | [], i, n + 1, hd, hs, hn => by
    have : xs.length ≤ i := by simpa using hd
    have h : ¬ ((i : Int) < (xs.length : Int)) := by omega
    simp [L19_0, B19_0, h, pAll]
  | x :: l, i, n + 1, hd, hs, hn => by
    obtain ⟨h1, h2, h3⟩ := get_drop hd
    have h : ((i : Int) < (xs.length : Int)) := by omega
    have ih := L19_0_eq s row params xs hl l (i + 1) n h2 (fun y hy => hs y (by simp [hy])) (by simp at hn; omega)
    have hw : w64 ((i : Int) + 1) = ((i + 1 : Nat) : Int) := by rw [w64_id (by omega) (by omega)]; rfl
    simp only [L19_0, B19_0, h, decide_true, if_true, idx_nat, h1, Option.bind_some, hs x (by simp), hw, ih, pAll]
    cases pH row params x <;> simp
  | _, _, 0, _, _, hn => by simp at hn

theorem L19_2_eq (s : TPredicate → List TValue → List TValue → Option Bool) (row params : List TValue) (xs : List TPredicate) (hl : xs.length < 4294967296) : ∀ (l : List TPredicate) (i n : Nat), xs.drop i = l →
    (∀ x ∈ l, s x row params = some (pH row params x)) → l.length < n → L19_2 s (some false) n row params xs (xs.length : Int) (i : Int) = some (pAny row params l)
  | [], i, n + 1, hd, hs, hn => by
    have : xs.length ≤ i := by simpa using hd
    have h : ¬ ((i : Int) < (xs.length : Int)) := by omega
    simp [L19_2, B19_2, h, pAny]
  | x :: l, i, n + 1, hd, hs, hn => by
    obtain ⟨h1, h2, h3⟩ := get_drop hd
    have h : ((i : Int) < (xs.length : Int)) := by omega
    have ih := L19_2_eq s row params xs hl l (i + 1) n h2 (fun y hy => hs y (by simp [hy])) (by simp at hn; omega)
    have hw : w64 ((i : Int) + 1) = ((i + 1 : Nat) : Int) := by rw [w64_id (by omega) (by omega)]; rfl
    simp only [L19_2, B19_2, h, decide_true, if_true, idx_nat, h1, Option.bind_some, hs x (by simp), hw, ih, pAny]
    cases pH row params x <;> simp
  | _, _, 0, _, _, hn => by simp at hn

theorem szL_mem {x : TPredicate} {xs : List TPredicate} (h : x ∈ xs) : szP x + xs.length ≤ szL xs := by
  induction xs with
  | nil => simp at h
  | cons y ys ih =>
    have hl := szL_len ys
    simp only [szL, List.length_cons]
    rcases List.mem_cons.1 h with rfl | h
    · omega
    · have := ih h; omega

theorem F19_eq (row params : List TValue) : ∀ (n : Nat) (p : TPredicate), szP p ≤ n → szP p < 4294967296 → F19 n p row params = some (pH row params p)
  | 0, ⟨_, _, _, _, _⟩, h, _ => by simp [szP] at h
  | n + 1, ⟨op, c, l, r, args⟩, h, hb => by
    simp only [szP] at h hb
    have ih : ∀ x ∈ args, F19 n x row params = some (pH row params x) := fun x hx => F19_eq row params n x (by have := szL_mem hx; omega) (by have := szL_mem hx; omega)
    have hlen := szL_len args
    unfold F19 B19_4
    simp only [F42_eq, Option.bind_some, F43_eq]
    unfold pH
    by_cases h1 : op = 1
    · simp [h1]
    · by_cases h3 : op = 3
      · simp only [h3, vHold]
        have ht := F44_test n c (vDen l row params) (vDen r row params) _ rfl
        rw [ht]
        cases vReal (vDen l row params) <;> cases vReal (vDen r row params) <;> simp
        by_cases hk : (vDen l row params).fKind = (vDen r row params).fKind <;> simp [hk]
      · by_cases h4 : op = 4
        · have := L19_0_eq (F19 n) row params args (by omega) args 0 n rfl ih (by omega)
          simpa [h1, h3, h4, B19_1] using this
        · by_cases h5 : op = 5
          · have := L19_2_eq (F19 n) row params args (by omega) args 0 n rfl ih (by omega)
            simpa [h1, h3, h4, h5, B19_3] using this
          · by_cases h6 : op = 6
            · cases args with
              | nil => simp [h1, h3, h4, h5, h6, pNot]
              | cons a l =>
                have := ih a (by simp)
                have h0 : (0 : Int) < (l.length : Int) + 1 := by omega
                simp [h1, h3, h4, h5, h6, pNot, idx, this, h0]
            · simp [h1, h3, h4, h5, h6, B19_3]

/-- The reference. -/
theorem L20_0_eq (s : TPredicate → List TValue → List TValue → Option Bool) (row params : List TValue) (p : TPredicate) (hl : p.fArgs.length < 4294967296) : ∀ (l : List TPredicate) (i n : Nat), p.fArgs.drop i = l →
    (∀ x ∈ l, s x row params = some (pH row params x)) → l.length < n → L20_0 s (some true) n row params (p.fArgs.length : Int) (i : Int) p = some (pAll row params l)
  | [], i, n + 1, hd, hs, hn => by
    have : p.fArgs.length ≤ i := by simpa using hd
    have h : ¬ ((i : Int) < (p.fArgs.length : Int)) := by omega
    simp [L20_0, B20_0, h, pAll]
  | x :: l, i, n + 1, hd, hs, hn => by
    obtain ⟨h1, h2, h3⟩ := get_drop hd
    have h : ((i : Int) < (p.fArgs.length : Int)) := by omega
    have ih := L20_0_eq s row params p hl l (i + 1) n h2 (fun y hy => hs y (by simp [hy])) (by simp at hn; omega)
    have hw : w64 ((i : Int) + 1) = ((i + 1 : Nat) : Int) := by rw [w64_id (by omega) (by omega)]; rfl
    simp only [L20_0, B20_0, h, decide_true, if_true, idx_nat, h1, Option.bind_some, hs x (by simp), hw, ih, pAll]
    cases pH row params x <;> simp
  | _, _, 0, _, _, hn => by simp at hn
theorem L20_2_eq (s : TPredicate → List TValue → List TValue → Option Bool) (row params : List TValue) (p : TPredicate) (hl : p.fArgs.length < 4294967296) : ∀ (l : List TPredicate) (i n : Nat), p.fArgs.drop i = l →
    (∀ x ∈ l, s x row params = some (pH row params x)) → l.length < n → L20_2 s (some false) n row params (p.fArgs.length : Int) (i : Int) p = some (pAny row params l)
  | [], i, n + 1, hd, hs, hn => by
    have : p.fArgs.length ≤ i := by simpa using hd
    have h : ¬ ((i : Int) < (p.fArgs.length : Int)) := by omega
    simp [L20_2, B20_2, h, pAny]
  | x :: l, i, n + 1, hd, hs, hn => by
    obtain ⟨h1, h2, h3⟩ := get_drop hd
    have h : ((i : Int) < (p.fArgs.length : Int)) := by omega
    have ih := L20_2_eq s row params p hl l (i + 1) n h2 (fun y hy => hs y (by simp [hy])) (by simp at hn; omega)
    have hw : w64 ((i : Int) + 1) = ((i + 1 : Nat) : Int) := by rw [w64_id (by omega) (by omega)]; rfl
    simp only [L20_2, B20_2, h, decide_true, if_true, idx_nat, h1, Option.bind_some, hs x (by simp), hw, ih, pAny]
    cases pH row params x <;> simp
  | _, _, 0, _, _, hn => by simp at hn

theorem F20_eq (row params : List TValue) : ∀ (n : Nat) (p : TPredicate), szP p ≤ n → szP p < 4294967296 → F20 n p row params = some (pH row params p)
  | 0, ⟨_, _, _, _, _⟩, h, _ => by simp [szP] at h
  | n + 1, ⟨op, c, l, r, args⟩, h, hb => by
    simp only [szP] at h hb
    have ih : ∀ x ∈ args, F20 n x row params = some (pH row params x) := fun x hx => F20_eq row params n x (by have := szL_mem hx; omega) (by have := szL_mem hx; omega)
    have hlen := szL_len args
    obtain ⟨b1, e1, z1⟩ := F46_eq n l row params
    obtain ⟨b2, e2, z2⟩ := F46_eq n r row params
    unfold F20 B20_4
    simp only [e1, e2, Option.bind_some, F24_eq]
    unfold pH
    by_cases h1 : op = 1
    · simp [h1]
    · by_cases h3 : op = 3
      · cases b1 with
        | false => simp [h3, z1 rfl, vHold, zv_real]
        | true =>
          cases b2 with
          | false => simp [h3, z2 rfl, vHold, zv_real]
          | true => simp [h3]
      · by_cases h4 : op = 4
        · have := L20_0_eq (F20 n) row params ⟨op, c, l, r, args⟩ (by simp; omega) args 0 n rfl ih (by omega)
          simpa [h1, h3, h4, B20_1] using this
        · by_cases h5 : op = 5
          · have := L20_2_eq (F20 n) row params ⟨op, c, l, r, args⟩ (by simp; omega) args 0 n rfl ih (by omega)
            simpa [h1, h3, h4, h5, B20_3] using this
          · by_cases h6 : op = 6
            · cases args with
              | nil => simp [h1, h3, h4, h5, h6, pNot]
              | cons a l =>
                have := ih a (by simp)
                have h0 : (0 : Int) < (l.length : Int) + 1 := by omega
                simp [h1, h3, h4, h5, h6, pNot, idx, this, h0]
            · simp [h1, h3, h4, h5, h6, B20_3]
end Go.Proofs.Ytalbakjfbgkjjaa
