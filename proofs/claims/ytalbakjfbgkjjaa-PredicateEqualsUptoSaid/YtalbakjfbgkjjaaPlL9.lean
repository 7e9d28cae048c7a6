/- Plain law: PredicateEquals. -/
import Derived.Test.YtalbakjfbgkjjaaLaw9
import Derived.Test.YtalbakjfbgkjjaaBeg
import Derived.Test.YtalbakjfbgkjjaaPlS
set_option linter.all false
namespace Go.Proofs.Ytalbakjfbgkjjaa
open Go.Abs

theorem bO_nil (o : TOperand) : bO [] o = o := by
  unfold bO
  rw [if_neg]
  rintro ⟨_, h1, h2⟩
  simp at h2
  omega
mutual
theorem bP_nil : ∀ p : TPredicate, bP [] p = p
  | ⟨op, c, l, r, args⟩ => by simp [bP, bO_nil, bL_nil args]
theorem bL_nil : ∀ xs : List TPredicate, bL [] xs = xs
  | [] => by simp [bL]
  | x :: xs => by simp [bL, bP_nil x, bL_nil xs]
end

theorem L57_eq (s : TPredicate → TPredicate → Option Bool) (xs ys : List TPredicate) (hll : xs.length = ys.length) (hl : xs.length < 4294967296) (hs : ∀ x ∈ xs, ∀ y, s x y = some (eqP x y)) : ∀ (us vs : List TPredicate) (i k : Nat), xs.drop i = us → ys.drop i = vs → us.length < k →
    L57_0 s (some true) k ys xs (xs.length : Int) (i : Int) = some (eqL us vs)
  | [], vs, i, k + 1, hd, hd', _ => by
    have : xs.length ≤ i := by simpa using hd
    have hq : ¬ ((i : Int) < (xs.length : Int)) := by omega
    have hy : vs = [] := by rw [← hd']; exact List.drop_of_length_le (by omega)
    simp [L57_0, B57_0, hq, hy, eqL]
  | u :: us, [], i, k + 1, hd, hd', _ => by
    obtain ⟨g1, g2, g3⟩ := get_drop hd
    have : ys.length ≤ i := by simpa using hd'
    omega
  | u :: us, v :: vs, i, k + 1, hd, hd', hk => by
    obtain ⟨g1, g2, g3⟩ := get_drop hd
    obtain ⟨g1', g2', g3'⟩ := get_drop hd'
    have hq : ((i : Int) < (xs.length : Int)) := by omega
    simp only [L57_0, B57_0, hq, decide_true, if_true, idx_nat, g1, g1', Option.bind_some, hs u (List.mem_of_getElem? g1) v, next_i g3 hl, L57_eq s xs ys hll hl hs us vs (i + 1) k g2 g2' (by simp at hk; omega), eqL]
    cases eqP u v <;> simp
  | _, _, _, 0, _, _, hk => by simp at hk

theorem F57_eq (s : TPredicate → TPredicate → Option Bool) (n : Nat) (xs ys : List TPredicate) (hl : xs.length < 4294967296) (hn : xs.length < n) (hs : ∀ x ∈ xs, ∀ y, s x y = some (eqP x y)) : F57 s n xs ys = some (eqL xs ys) := by
  unfold F57 B57_2
  by_cases h : xs.length = ys.length
  · have h' : (xs.length : Int) = (ys.length : Int) := by omega
    have := L57_eq s xs ys h hl hs xs ys 0 n rfl rfl hn
    simp only [h', bne_self_eq_false, Bool.false_eq_true, if_false, B57_1]
    rw [h'] at this
    exact this
  · have h' : ¬ (xs.length : Int) = (ys.length : Int) := by omega
    simp [h', eqL_len xs ys h]

theorem F31_eq : ∀ (n : Nat) (p q : TPredicate), szP p ≤ n → szP p < 4294967296 → F31 n p q = some (eqP p q)
  | 0, ⟨_, _, _, _, _⟩, _, h, _ => by simp [szP] at h
  | n + 1, ⟨op, c, l, r, args⟩, ⟨op', c', l', r', args'⟩, h, hb => by
    simp only [szP] at h hb
    have hlen := szL_len args
    have e := F57_eq (F31 n) n args args' (by omega) (by omega) fun x hx y => by
      have := szL_mem hx
      exact F31_eq n x y (by omega) (by omega)
    unfold F31 B31_0
    show (if op == op' then if c == c' then if oEq l l' then if oEq r r' then (F57 (F31 n) n args args').bind fun x => some x else some false else some false else some false else some false) = some (eqP ⟨op, c, l, r, args⟩ ⟨op', c', l', r', args'⟩)
    rw [e]
    unfold eqP
    cases h1 : op == op' <;> cases h2 : c == c' <;> cases h3 : oEq l l' <;> cases h4 : oEq r r' <;> simp [h1, h2, h3, h4]

theorem equals (codes : List Int) (hb : ∀ x ∈ codes, 0 ≤ x ∧ x ≤ 255) (raw : TPredicate) (hraw : szP raw ≤ 1100000) : F9 2000000 codes raw = some true := by
  have key : Ok (F9 2000000 codes raw) (fun r => r = true) := by
    unfold F9 B9_0
    refine Ok.bind (F10_ok 2000000 codes 160 hb (by omega) (by omega)) fun c hc => ?_
    refine Ok.bind (F11_ok 2000000 (by omega) c 4 (by omega) hc) fun k ⟨hk, ok, lk⟩ => ?_
    refine Ok.bind (F12_ok k.1 [] ok rfl (by omega) (by simp) 3 2000000 k.2 hk (by omega) (by omega) (by omega) (by omega)) fun p ⟨hp, vp, sp⟩ => ?_
    refine Ok.bind (F13_ok 2000000 p.2 p.1 hp (by omega) (by omega)) fun q ⟨hq, sq⟩ => ?_
    rw [show F14 2000000 = some true from begun_ok 1999940]
    simp only [F30_eq [] 2000000 p.1 (by omega) (by omega), bP_nil, F31_eq 2000000 p.1 p.1 (by omega) (by omega), F31_eq 2000000 p.1 q.1 (by omega) (by omega), F29_eq 2000000 p.1 q.1 (by omega) (by omega),
      F31_eq 2000000 raw p.1 (by omega) (by omega), F29_eq 2000000 raw p.1 (by omega) (by omega), F31_eq 2000000 raw raw (by omega) (by omega), Option.bind_some, if_true, eqP_refl, beq_self_eq_true]
    exact Ok.pure rfl
  obtain ⟨r, h, rfl⟩ := key
  exact h

theorem plain9 (codes : List Int) (raw : TPredicate) (h0 : okL [.slice .sh (rows5 codes)]) (h1 : okL (enc28 raw)) (hb : bulkL [.slice .sh (rows5 codes)] + bulkL (enc28 raw) ≤ 1048576) :
    CallOK Try.prog ann 9 [.slice .sh (rows5 codes), .agg (enc28 raw)] (.bool true) [] :=
  ev9 2000000 codes raw true (equals codes (bytes_ok h0.1) raw (by have := sz_bulk raw; omega))
end Go.Proofs.Ytalbakjfbgkjjaa
