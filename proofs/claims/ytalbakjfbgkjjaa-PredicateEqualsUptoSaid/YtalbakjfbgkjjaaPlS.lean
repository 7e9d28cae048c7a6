/- Plain laws: SpoilPredicate answers, and what it answers is not much larger. Condition: a valid case, enough steps. -/
import Derived.Test.YtalbakjfbgkjjaaPl4
import Derived.Test.YtalbakjfbgkjjaaPl7
set_option linter.all false
namespace Go.Proofs.Ytalbakjfbgkjjaa
open Go.Abs

theorem szL_append (a b : List TPredicate) : szL (a ++ b) = szL a + szL b := by
  induction a with
  | nil => simp [szL]
  | cons x a ih => simp only [List.cons_append, szL, ih]; omega
theorem szL_set {x y : TPredicate} : ∀ {xs : List TPredicate} {i : Nat}, xs[i]? = some x → szL (xs.set i y) + szP x = szL xs + szP y
  | [], i, h => by simp at h
  | z :: xs, 0, h => by simp at h; subst h; simp only [List.set_cons_zero, szL]; omega
  | z :: xs, i + 1, h => by
    have := szL_set (y := y) (xs := xs) (i := i) (by simpa using h)
    simp only [List.set_cons_succ, szL]
    omega
theorem szP_args (p : TPredicate) : szP p = 2 + szL p.fArgs := by obtain ⟨_, _, _, _, _⟩ := p; simp [szP]

theorem F34_ok (n : Nat) (c : TCase) (h : CaseOK c) : Ok (F34 n c) fun r => CaseOK r.2 := by
  unfold F34 B34_0
  refine Ok.bind (F21_ok n c 6 h) fun r ⟨hr, _⟩ => ?_
  refine Ok.ite (fun _ => Ok.pure hr) fun _ => Ok.ite (fun _ => Ok.pure hr) fun _ => Ok.ite (fun _ => Ok.pure hr) fun _ => Ok.ite (fun _ => ?_) fun _ => ?_
  · exact Ok.bind (F21_ok n r.2 3 hr) fun x ⟨hx, _⟩ => Ok.pure hx
  · exact Ok.bind (F21_ok n r.2 6 hr) fun x ⟨hx, _⟩ => Ok.pure hx

theorem L13_0_ok (s : TCase → TPredicate → Option (TPredicate × TCase)) (k : Nat) (c : TCase) (hc : CaseOK c) : ∀ (j n : Nat) (p : TPredicate), j ≤ 8 → j < n → Ok (L13_0 s (B13_2 s k) n (8 - (j : Int)) c p) fun r => CaseOK r.2 ∧ szP r.1 = szP p + 3 * j
  | 0, n + 1, p, _, _ => by
    have : ¬ ((8 : Int) - ((0 : Nat) : Int) < 8) := by omega
    simp only [L13_0, B13_0, this, decide_false, Bool.false_eq_true, if_false, B13_2]
    exact Ok.pure ⟨hc, by simp⟩
  | j + 1, n + 1, p, hj, hn => by
    have : ((8 : Int) - ((j + 1 : Nat) : Int) < 8) := by omega
    simp only [L13_0, B13_0, this, decide_true, if_true]
    have hw : w64 ((8 : Int) - ((j + 1 : Nat) : Int) + 1) = 8 - (j : Int) := by rw [w64_id (by omega) (by omega)]; omega
    rw [hw]
    refine (L13_0_ok s k c hc j n _ (by omega) (by omega)).mono fun r ⟨h1, h2⟩ => ⟨h1, ?_⟩
    rw [h2]
    simp only [szP, szL]
    omega
  | _, 0, _, _, hn => by simp at hn

theorem L13_1_ok (s : TCase → TPredicate → Option (TPredicate × TCase)) (k : Nat) (c : TCase) (hc : CaseOK c) : ∀ (j n : Nat) (p : TPredicate), j ≤ 24 → j < n → szP p + 3 * j ≤ 2000000 → Ok (L13_1 s (B13_2 s k) n (24 - (j : Int)) c p) fun r => CaseOK r.2 ∧ szP r.1 = szP p + 3 * j
  | 0, n + 1, p, _, _, _ => by
    have : ¬ ((24 : Int) - ((0 : Nat) : Int) < 24) := by omega
    simp only [L13_1, B13_1, this, decide_false, Bool.false_eq_true, if_false, B13_2]
    exact Ok.pure ⟨hc, by simp⟩
  | j + 1, n + 1, p, hj, hn, hs => by
    have : ((24 : Int) - ((j + 1 : Nat) : Int) < 24) := by omega
    simp only [L13_1, B13_1, this, decide_true, if_true]
    have hw : w64 ((24 : Int) - ((j + 1 : Nat) : Int) + 1) = 24 - (j : Int) := by rw [w64_id (by omega) (by omega)]; omega
    rw [hw]
    have e1 := szP_args p
    have e2 := szL_len p.fArgs
    have e3 : cut3 p.fArgs (p.fArgs.length : Int) (p.fArgs.length : Int) = some p.fArgs := by simp [cut3]
    rw [e3, Option.bind_some, app_ok _ _ (by simp; omega), Option.bind_some]
    have e4 : szP (TPredicate.mk p.fOp p.fCmp p.fLeft p.fRight (p.fArgs ++ [(TPredicate.mk 2 0 (TOperand.mk 0 0 (TValue.mk 0 0 ByteArray.empty)) (TOperand.mk 0 0 (TValue.mk 0 0 ByteArray.empty)) [])])) = szP p + 3 := by
      rw [szP, szL_append, e1]; simp only [szL, szP]; omega
    refine (L13_1_ok s k c hc j n _ (by omega) (by omega) (by rw [e4]; omega)).mono fun r ⟨h1, h2⟩ => ⟨h1, ?_⟩
    rw [h2, e4]
    omega
  | _, 0, _, _, hn, _ => by simp at hn

theorem B13_3_ok (s : TCase → TPredicate → Option (TPredicate × TCase)) (n : Nat) (hn : 100 ≤ n) (c : TCase) (hc : CaseOK c) (p : TPredicate) (hp : szP p ≤ 1000000) : Ok (B13_3 s n c p) fun r => CaseOK r.2 ∧ szP r.1 ≤ szP p + 100 := by
  have e1 := szP_args p
  have e2 := szL_len p.fArgs
  have num : ∀ (c : TCase) (f : Int → TPredicate), CaseOK c → (∀ i, szP (f i) = szP p) → Ok ((F34 n c).bind fun x => B13_2 s n x.2 (f x.1)) fun r => CaseOK r.2 ∧ szP r.1 ≤ szP p + 100 := fun c f hc hf =>
    Ok.bind (F34_ok n c hc) fun x hx => Ok.pure ⟨hx, by rw [hf]; omega⟩
  unfold B13_3
  refine Ok.bind (F21_ok n c 9 hc) fun r ⟨hr, _⟩ => ?_
  refine Ok.ite (fun _ => num _ (fun i => TPredicate.mk i p.fCmp p.fLeft p.fRight p.fArgs) hr fun i => by rw [szP, e1]) fun _ => ?_
  refine Ok.ite (fun _ => num _ (fun i => TPredicate.mk p.fOp i p.fLeft p.fRight p.fArgs) hr fun i => by rw [szP, e1]) fun _ => ?_
  refine Ok.ite (fun _ => num _ (fun i => TPredicate.mk p.fOp p.fCmp (TOperand.mk i p.fLeft.fIndex p.fLeft.fValue) p.fRight p.fArgs) hr fun i => by rw [szP, e1]) fun _ => ?_
  refine Ok.ite (fun _ => num _ (fun i => TPredicate.mk p.fOp p.fCmp (TOperand.mk p.fLeft.fKind i p.fLeft.fValue) p.fRight p.fArgs) hr fun i => by rw [szP, e1]) fun _ => ?_
  refine Ok.ite (fun _ => Ok.bind (F23_ok n hn r.2 hr) fun x ⟨hx, _⟩ => Ok.pure ⟨hx, by rw [szP, e1]; omega⟩) fun _ => ?_
  refine Ok.ite (fun _ => num _ (fun i => TPredicate.mk p.fOp p.fCmp p.fLeft (TOperand.mk p.fRight.fKind i p.fRight.fValue) p.fArgs) hr fun i => by rw [szP, e1]) fun _ => ?_
  refine Ok.ite (fun _ => ?_) fun _ => ?_
  · rw [app_ok _ _ (by simp; omega), Option.bind_some, app_ok _ _ (by simp; omega), Option.bind_some]
    refine Ok.pure ⟨hr, ?_⟩
    simp only [szP, List.nil_append, szL_append, szL, e1]
    omega
  · refine Ok.ite (fun _ => ?_) fun _ => ?_
    · exact (L13_0_ok s n r.2 hr 8 n p (by omega) (by omega)).mono fun x ⟨h1, h2⟩ => ⟨h1, by omega⟩
    · exact (L13_1_ok s n r.2 hr 24 n p (by omega) (by omega) (by omega)).mono fun x ⟨h1, h2⟩ => ⟨h1, by omega⟩

theorem F13_ok : ∀ (n : Nat) (c : TCase) (p : TPredicate), CaseOK c → szP p + 200 ≤ n → szP p ≤ 1000000 → Ok (F13 n c p) fun r => CaseOK r.2 ∧ szP r.1 ≤ szP p + 100
  | 0, _, p, _, h, _ => by omega
  | n + 1, c, p, hc, hn, hp => by
    have e1 := szP_args p
    have e2 := szL_len p.fArgs
    simp only [F13, B13_4]
    refine Ok.ite (fun hl => ?_) fun _ => B13_3_ok _ n (by omega) c hc p hp
    have hl : p.fArgs.length > 0 := by simpa using hl
    refine Ok.bind (F33_ok n c 2 hc) fun b hb => ?_
    refine Ok.ite (fun _ => ?_) fun _ => B13_3_ok _ n (by omega) b.2 hb p hp
    rw [app_ok _ _ (by simp; omega), Option.bind_some, List.nil_append]
    refine Ok.bind (F21_ok n b.2 (p.fArgs.length : Int) hb) fun r ⟨hr, r0, r1, _⟩ => ?_
    have r1 := r1 (by omega)
    have hlt : r.1.toNat < p.fArgs.length := by omega
    have hbn : bnd p.fArgs.length r.1 = some r.1.toNat := by simp [bnd, r0, hlt]
    have hg : p.fArgs[r.1.toNat]? = some p.fArgs[r.1.toNat] := List.getElem?_eq_getElem hlt
    have hm := szL_mem (List.getElem_mem hlt)
    simp only [hbn, hg, Option.bind_some]
    refine Ok.bind (F13_ok n r.2 p.fArgs[r.1.toNat] hr (by omega) (by omega)) fun x ⟨hx, sx⟩ => ?_
    have hset : setAt p.fArgs r.1.toNat x.1 = some (p.fArgs.set r.1.toNat x.1) := by simp [setAt, hlt]
    rw [hset, Option.bind_some]
    refine Ok.pure ⟨hx, ?_⟩
    have := szL_set (y := x.1) hg
    simp only [szP]
    omega
end Go.Proofs.Ytalbakjfbgkjjaa
