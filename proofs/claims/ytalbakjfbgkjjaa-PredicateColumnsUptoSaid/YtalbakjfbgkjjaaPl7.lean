/- Plain laws: binding parameters; equality of predicates. Conditions: sizes below 2^31, enough steps. -/
import Derived.Test.YtalbakjfbgkjjaaPl4
import Derived.Test.YtalbakjfbgkjjaaRd2
import Derived.Test.YtalbakjfbgkjjaaFun7
set_option linter.all false
namespace Go.Proofs.Ytalbakjfbgkjjaa
open Go.Abs

mutual
theorem sz_bulkP : ∀ p : TPredicate, szP p + 5 ≤ bulkL (encR28 p)
  | ⟨_, _, l, r, args⟩ => by
    have := sz_bulkL args
    simp only [szP, encR28, bulkL, bulkV]
    omega
theorem sz_bulkL : ∀ xs : List TPredicate, szL xs ≤ bulkRows (rows28 xs)
  | [] => by simp [szL]
  | x :: xs => by
    have h1 := sz_bulkP x
    have h2 := sz_bulkL xs
    simp only [szL, rows28, bulkRows]
    omega
end
theorem sz_bulk (p : TPredicate) : szP p ≤ bulkL (enc28 p) := by
  have := sz_bulkP p
  rw [encR28_eq] at this
  omega

/-- Binding. -/
def bO (vs : List TValue) (o : TOperand) : TOperand := if o.fKind = 2 ∧ 0 ≤ o.fIndex ∧ o.fIndex < vs.length then ⟨3, 0, vAt vs o.fIndex⟩ else o
mutual
def bP (vs : List TValue) : TPredicate → TPredicate
  | ⟨op, c, l, r, args⟩ => ⟨op, c, bO vs l, bO vs r, bL vs args⟩
def bL (vs : List TValue) : List TPredicate → List TPredicate
  | [] => []
  | x :: xs => bP vs x :: bL vs xs
end

theorem F55_eq (n : Nat) (o : TOperand) (vs : List TValue) : F55 n o vs = some (bO vs o) := by
  unfold F55 B55_0 bO
  by_cases h2 : o.fKind = 2
  · by_cases h0 : o.fIndex < 0
    · have : ¬ 0 ≤ o.fIndex := by omega
      simp [h2, h0, this]
    · by_cases h1 : (vs.length : Int) ≤ o.fIndex
      · have : ¬ o.fIndex < vs.length := by omega
        simp [h2, h0, h1, this]
      · have e0 : 0 ≤ o.fIndex := by omega
        have e1 : o.fIndex < vs.length := by omega
        simp [h2, h0, h1, e0, e1, idx_some e0 e1]
  · simp [h2]
theorem F56_eq (n : Nat) (o : TOperand) (vs : List TValue) : F56 n o vs = some (bO vs o) := by
  unfold F56 B56_0 bO
  by_cases h2 : o.fKind = 2
  · by_cases h0 : 0 ≤ o.fIndex
    · by_cases h1 : o.fIndex < (vs.length : Int)
      · simp [h2, h0, h1, idx_some h0 h1]
      · simp [h2, h0, h1]
    · simp [h2, h0]
  · simp [h2]

theorem L28_eq (s : TPredicate → List TValue → Option TPredicate) (vs : List TValue) (xs : List TPredicate) (hl : xs.length < 2147483648) (op c : Int) (l r : TOperand) : ∀ (ys : List TPredicate) (i n : Nat) (out : List TPredicate), xs.drop i = ys → out.length = i → i ≤ xs.length →
    (∀ x ∈ ys, s x vs = some (bP vs x)) → ys.length < n → L28_0 s (fun b => some b) n vs xs (xs.length : Int) (i : Int) ⟨op, c, l, r, out⟩ = some ⟨op, c, l, r, out ++ bL vs ys⟩
  | [], i, n + 1, out, hd, ho, hi, hs, hn => by
    have : xs.length ≤ i := by simpa using hd
    have h : ¬ ((i : Int) < (xs.length : Int)) := by omega
    simp [L28_0, B28_0, h, bL]
  | x :: ys, i, n + 1, out, hd, ho, hi, hs, hn => by
    obtain ⟨h1, h2, h3⟩ := get_drop hd
    have h : ((i : Int) < (xs.length : Int)) := by omega
    have ih := L28_eq s vs xs hl op c l r ys (i + 1) n (out ++ [bP vs x]) h2 (by simp; omega) (by omega) (fun y hy => hs y (by simp [hy])) (by simp at hn; omega)
    simp only [L28_0, B28_0, h, decide_true, if_true, idx_nat, h1, Option.bind_some, hs x (by simp), next_i h3 (by omega : xs.length < 4294967296), app_ok out [bP vs x] (by simp; omega)]
    rw [ih]
    simp [bL]
  | _, _, 0, _, _, _, _, _, hn => by simp at hn
theorem F28_eq (vs : List TValue) : ∀ (n : Nat) (p : TPredicate), szP p ≤ n → szP p < 2147483648 → F28 n p vs = some (bP vs p)
  | 0, ⟨_, _, _, _, _⟩, h, _ => by simp [szP] at h
  | n + 1, ⟨op, c, l, r, args⟩, h, hb => by
    simp only [szP] at h hb
    have hlen := szL_len args
    have ih : ∀ x ∈ args, F28 n x vs = some (bP vs x) := fun x hx => F28_eq vs n x (by have := szL_mem hx; omega) (by have := szL_mem hx; omega)
    have := L28_eq (F28 n) vs args (by omega) op c (bO vs l) (bO vs r) args 0 n [] rfl rfl (by omega) ih (by omega)
    have e : B28_1 (F28 n) n = fun b => some b := rfl
    simp only [F28, B28_2, F55_eq, Option.bind_some, e]
    simpa [bP] using this

theorem L30_eq (s : TPredicate → List TValue → Option TPredicate) (vs : List TValue) (p : TPredicate) (hl : p.fArgs.length < 2147483648) (op c : Int) (l r : TOperand) : ∀ (ys : List TPredicate) (i n : Nat) (out : List TPredicate), p.fArgs.drop i = ys → out.length = i → i ≤ p.fArgs.length →
    (∀ x ∈ ys, s x vs = some (bP vs x)) → ys.length < n → L30_0 s (fun b => some b) n vs (p.fArgs.length : Int) (i : Int) p ⟨op, c, l, r, out⟩ = some ⟨op, c, l, r, out ++ bL vs ys⟩
  | [], i, n + 1, out, hd, ho, hi, hs, hn => by
    have : p.fArgs.length ≤ i := by simpa using hd
    have h : ¬ ((i : Int) < (p.fArgs.length : Int)) := by omega
    simp [L30_0, B30_0, h, bL]
  | x :: ys, i, n + 1, out, hd, ho, hi, hs, hn => by
    obtain ⟨h1, h2, h3⟩ := get_drop hd
    have h : ((i : Int) < (p.fArgs.length : Int)) := by omega
    have ih := L30_eq s vs p hl op c l r ys (i + 1) n (out ++ [bP vs x]) h2 (by simp; omega) (by omega) (fun y hy => hs y (by simp [hy])) (by simp at hn; omega)
    simp only [L30_0, B30_0, h, decide_true, if_true, idx_nat, h1, Option.bind_some, hs x (by simp), next_i h3 (by omega : p.fArgs.length < 4294967296), app_ok out [bP vs x] (by simp; omega)]
    rw [ih]
    simp [bL]
  | _, _, 0, _, _, _, _, _, hn => by simp at hn
theorem F30_eq (vs : List TValue) : ∀ (n : Nat) (p : TPredicate), szP p ≤ n → szP p < 2147483648 → F30 n p vs = some (bP vs p)
  | 0, ⟨_, _, _, _, _⟩, h, _ => by simp [szP] at h
  | n + 1, ⟨op, c, l, r, args⟩, h, hb => by
    simp only [szP] at h hb
    have hlen := szL_len args
    have ih : ∀ x ∈ args, F30 n x vs = some (bP vs x) := fun x hx => F30_eq vs n x (by have := szL_mem hx; omega) (by have := szL_mem hx; omega)
    have := L30_eq (F30 n) vs ⟨op, c, l, r, args⟩ (by simp; omega) op c (bO vs l) (bO vs r) args 0 n [] rfl rfl (by simp) ih (by omega)
    have e : B30_1 (F30 n) n = fun b => some b := rfl
    simp only [F30, B30_2, F56_eq, Option.bind_some, e]
    simpa [bP] using this

/-- Equality. -/
def vEq (a b : TValue) : Bool := a.fKind == b.fKind && (a.fInt == b.fInt && (decide (a.fText = b.fText) && true))
def oEq (a b : TOperand) : Bool := a.fKind == b.fKind && (a.fIndex == b.fIndex && (vEq a.fValue b.fValue && true))
mutual
def eqP : TPredicate → TPredicate → Bool
  | ⟨op, c, l, r, args⟩, q => op == q.fOp && c == q.fCmp && oEq l q.fLeft && oEq r q.fRight && eqL args q.fArgs
def eqL : List TPredicate → List TPredicate → Bool
  | [], [] => true
  | x :: xs, y :: ys => eqP x y && eqL xs ys
  | _, _ => false
end
theorem oEq_refl (o : TOperand) : oEq o o = true := by simp [oEq, vEq]
mutual
theorem eqP_refl : ∀ p : TPredicate, eqP p p = true
  | ⟨op, c, l, r, args⟩ => by simp [eqP, oEq_refl, eqL_refl args]
theorem eqL_refl : ∀ xs : List TPredicate, eqL xs xs = true
  | [] => by simp [eqL]
  | x :: xs => by simp [eqL, eqP_refl x, eqL_refl xs]
end
theorem eqL_len : ∀ xs ys : List TPredicate, xs.length ≠ ys.length → eqL xs ys = false
  | [], [], h => by simp at h
  | [], _ :: _, _ => by simp [eqL]
  | _ :: _, [], _ => by simp [eqL]
  | x :: xs, y :: ys, h => by simp [eqL, eqL_len xs ys (by simpa using h)]

theorem F29_eq : ∀ (n : Nat) (p q : TPredicate), szP p ≤ n → szP p < 4294967296 → F29 n p q = some (eqP p q)
  | 0, ⟨_, _, _, _, _⟩, _, h, _ => by simp [szP] at h
  | n + 1, ⟨op, c, l, r, args⟩, ⟨op', c', l', r', args'⟩, h, hb => by
    simp only [szP] at h hb
    have hlen := szL_len args
    have loop : args.length = args'.length → ∀ (xs ys : List TPredicate) (i k : Nat), args.drop i = xs → args'.drop i = ys → xs.length < k →
        L29_0 (F29 n) (some true) k (args.length : Int) (i : Int) ⟨op, c, l, r, args⟩ ⟨op', c', l', r', args'⟩ = some (eqL xs ys) := by
      intro hll xs
      induction xs with
      | nil =>
        intro ys i k hd hd' hk
        have : args.length ≤ i := by simpa using hd
        have hq : ¬ ((i : Int) < (args.length : Int)) := by omega
        have hy : ys = [] := by rw [← hd']; exact List.drop_of_length_le (by omega)
        cases k with
        | zero => simp at hk
        | succ k => simp [L29_0, B29_0, hq, hy, eqL]
      | cons x xs ih =>
        intro ys i k hd hd' hk
        obtain ⟨g1, g2, g3⟩ := get_drop hd
        have hq : ((i : Int) < (args.length : Int)) := by omega
        cases ys with
        | nil =>
          have : args'.length ≤ i := by simpa using hd'
          omega
        | cons y ys =>
          obtain ⟨g1', g2', g3'⟩ := get_drop hd'
          cases k with
          | zero => simp at hk
          | succ k =>
            have hx : x ∈ args := List.mem_of_getElem? g1
            have hs := szL_mem hx
            simp only [L29_0, B29_0, hq, decide_true, if_true, idx_nat, g1, g1', Option.bind_some, F29_eq n x y (by omega) (by omega), next_i g3 (by omega : args.length < 4294967296),
              ih ys (i + 1) k g2 g2' (by simp at hk; omega), eqL]
            cases eqP x y <;> simp
    unfold F29 B29_2
    show (if op != op' then some false else if c != c' then some false else if !(oEq l l') then some false else if !(oEq r r') then some false else if (args.length : Int) != (args'.length : Int) then some false else L29_0 (F29 n) (some true) n (args.length : Int) 0 ⟨op, c, l, r, args⟩ ⟨op', c', l', r', args'⟩) = some (eqP ⟨op, c, l, r, args⟩ ⟨op', c', l', r', args'⟩)
    unfold eqP
    by_cases h1 : op = op'
    · by_cases h2 : c = c'
      · cases h3 : oEq l l' with
        | false => simp [h1, h2, h3]
        | true =>
          cases h4 : oEq r r' with
          | false => simp [h1, h2, h3, h4]
          | true =>
            by_cases h5 : args.length = args'.length
            · have := loop h5 args args' 0 n rfl rfl (by omega)
              have h5' : (args.length : Int) = (args'.length : Int) := by omega
              simp only [h1, h2, bne_self_eq_false, Bool.false_eq_true, if_false, Bool.not_true, beq_self_eq_true, Bool.true_and, Bool.and_true, h3, h4, h5']
              rw [h1, h2, h5'] at this
              exact this
            · have : ¬ (args.length : Int) = (args'.length : Int) := by omega
              simp [h1, h2, h3, h4, this, eqL_len _ _ h5]
      · simp [h1, h2]
    · simp [h1]

mutual
theorem bP_size (vs : List TValue) : ∀ p : TPredicate, szP (bP vs p) = szP p ∧ ndP (bP vs p) = ndP p ∧ dpP (bP vs p) = dpP p
  | ⟨op, c, l, r, args⟩ => by
    obtain ⟨h1, h2, h3, _⟩ := bL_size vs args
    simp [bP, szP, ndP, dpP, h1, h2, h3]
theorem bL_size (vs : List TValue) : ∀ xs : List TPredicate, szL (bL vs xs) = szL xs ∧ ndL (bL vs xs) = ndL xs ∧ dpL (bL vs xs) = dpL xs ∧ (bL vs xs).length = xs.length
  | [] => by simp [bL]
  | x :: xs => by
    obtain ⟨h1, h2, h3⟩ := bP_size vs x
    obtain ⟨g1, g2, g3, g4⟩ := bL_size vs xs
    simp [bL, szL, ndL, dpL, h1, h2, h3, g1, g2, g3, g4]
end

theorem kAt_range {l : List Int} {o : TOperand} (h : kAt l o ≠ 0) : 0 ≤ o.fIndex ∧ o.fIndex < l.length ∧ oNone o.fValue = true ∧ l[o.fIndex.toNat]? = some (kAt l o) := by
  by_cases hc : 0 ≤ o.fIndex ∧ o.fIndex < l.length ∧ oNone o.fValue = true
  · refine ⟨hc.1, hc.2.1, hc.2.2, ?_⟩
    have : o.fIndex.toNat < l.length := by omega
    simp [kAt, hc, this]
  · exact absurd (by unfold kAt; rw [if_neg hc]) h

theorem bO_kind {cols ms : List Int} {vs : List TValue} (hv : vsOK ms vs) {o : TOperand} (h : oKind cols ms o ≠ 0) : oKind cols [] (bO vs o) = oKind cols ms o := by
  unfold bO
  by_cases h3 : o.fKind = 3
  · rw [if_neg (by omega)]
    simp [oKind, h3]
  · by_cases h2 : o.fKind = 2
    · have hk : oKind cols ms o = kAt ms o := by simp [oKind, h2]
      rw [hk] at h ⊢
      obtain ⟨q0, q1, q2, q3⟩ := kAt_range h
      rw [if_pos ⟨h2, q0, by rw [hv.1]; exact q1⟩]
      obtain ⟨v, e1, e2, e3⟩ := hv.2 _ _ q3
      have : vAt vs o.fIndex = v := by simp [vAt, q0, e1]
      rw [this]
      simp [oKind, e3, e2]
    · rw [if_neg (by omega)]
      simp [oKind, h2, h3]
theorem bO_den {cols ms : List Int} {vs : List TValue} (hv : vsOK ms vs) {o : TOperand} (h : oKind cols ms o ≠ 0) (row others : List TValue) : vDen (bO vs o) row others = vDen o row vs := by
  unfold bO
  by_cases h3 : o.fKind = 3
  · rw [if_neg (by omega)]
    simp [vDen, h3]
  · by_cases h2 : o.fKind = 2
    · have hk : oKind cols ms o = kAt ms o := by simp [oKind, h2]
      rw [hk] at h
      obtain ⟨q0, q1, q2, q3⟩ := kAt_range h
      rw [if_pos ⟨h2, q0, by rw [hv.1]; exact q1⟩]
      simp [vDen, h2]
    · rw [if_neg (by omega)]
      simp [vDen, h2, h3]

theorem oZero_kind {o : TOperand} (h : oZero o = true) (vs : List TValue) : bO vs o = o := by
  have : o.fKind = 0 := by simp [oZero] at h; exact h.1
  unfold bO
  rw [if_neg (by omega)]

mutual
theorem bP_valid {cols ms : List Int} {vs : List TValue} (hv : vsOK ms vs) (row others : List TValue) : ∀ p : TPredicate, pV cols ms p = true → pV cols [] (bP vs p) = true ∧ pH row others (bP vs p) = pH row vs p
  | ⟨op, c, l, r, args⟩, h => by
    have hargs := bL_valid (cols := cols) hv row others args
    have hlen := (bL_size vs args).2.2.2
    have hpl : nPlain c l r = true → bO vs l = l ∧ bO vs r = r := by
      intro hp
      simp only [nPlain, Bool.and_eq_true] at hp
      exact ⟨oZero_kind hp.1.2 vs, oZero_kind hp.2 vs⟩
    simp only [pV] at h
    simp only [bP, pV, pH]
    by_cases h1 : op = 1
    · simp only [h1] at h ⊢
      simp at h
      obtain ⟨e1, e2⟩ := hpl h.1
      simp [e1, e2, h.1, hlen, h.2, bL]
    · by_cases h2 : op = 2
      · simp only [h2] at h ⊢
        simp at h
        obtain ⟨e1, e2⟩ := hpl h.1
        simp [e1, e2, h.1, hlen, h.2, bL]
      · by_cases h3 : op = 3
        · simp only [h3] at h ⊢
          simp at h
          obtain ⟨⟨⟨⟨q1, q2⟩, q3⟩, q4⟩, q5⟩ := h
          have k1 := bO_kind hv q4
          have k2 := bO_kind hv (o := r) (by rw [← q5]; exact q4)
          have d1 := bO_den hv q4 row others
          have d2 := bO_den hv (o := r) (by rw [← q5]; exact q4) row others
          rw [k1, k2, d1, d2]
          simp [q1, q2, q3, q4, q5, hlen, bL]
          rw [← q5]; exact q4
        · by_cases h4 : op = 4
          · simp only [h4] at h ⊢
            simp at h
            obtain ⟨e1, e2⟩ := hpl h.1
            obtain ⟨a1, a2, a3, a4⟩ := hargs h.2
            simp [e1, e2, h.1, a1, a2]
          · by_cases h5 : op = 5
            · simp only [h5] at h ⊢
              simp at h
              obtain ⟨e1, e2⟩ := hpl h.1
              obtain ⟨a1, a2, a3, a4⟩ := hargs h.2
              simp [e1, e2, h.1, a1, a3]
            · by_cases h6 : op = 6
              · simp only [h6] at h ⊢
                simp at h
                obtain ⟨q1, q2, q3⟩ := h
                obtain ⟨e1, e2⟩ := hpl q2
                obtain ⟨a1, a2, a3, a4⟩ := hargs q3
                simp [e1, e2, q2, a1, a4, hlen, q1]
              · simp [h1, h2, h3, h4, h5, h6] at h
theorem bL_valid {cols ms : List Int} {vs : List TValue} (hv : vsOK ms vs) (row others : List TValue) : ∀ xs : List TPredicate, pVs cols ms xs = true →
    pVs cols [] (bL vs xs) = true ∧ pAll row others (bL vs xs) = pAll row vs xs ∧ pAny row others (bL vs xs) = pAny row vs xs ∧ pNot row others (bL vs xs) = pNot row vs xs
  | [], h => by simp [bL, pVs, pAll, pAny, pNot]
  | x :: xs, h => by
    simp only [pVs, Bool.and_eq_true] at h
    obtain ⟨h1, h2⟩ := bP_valid hv row others x h.1
    obtain ⟨g1, g2, g3, g4⟩ := bL_valid hv row others xs h.2
    simp [bL, pVs, pAll, pAny, pNot, h1, h2, g1, g2, g3]
end
end Go.Proofs.Ytalbakjfbgkjjaa
