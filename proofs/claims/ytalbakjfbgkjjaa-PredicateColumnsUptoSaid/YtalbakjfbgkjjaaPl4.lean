/- Plain laws: the makers of kinds, predicates, rows and values: what they make is valid and small. Condition: codes of at most 1000 bytes, enough steps. -/
import Derived.Test.YtalbakjfbgkjjaaPl3
set_option linter.all false
namespace Go.Proofs.Ytalbakjfbgkjjaa
open Go.Abs

theorem kOK_range {k : Int} (h : kOK k = true) : 3 ≤ k ∧ k ≤ 5 := by simp [kOK] at h; omega
theorem ksOK_append {a b : List Int} (h : ksOK a = true) (k : ksOK b = true) : ksOK (a ++ b) = true := by simp_all [ksOK]
theorem ksOK_get {l : List Int} {i : Nat} {x : Int} (h : ksOK l = true) (hx : l[i]? = some x) : kOK x = true := by
  simp only [ksOK, List.all_eq_true] at h
  exact h x (List.mem_of_getElem? hx)

theorem L11_ok : ∀ (j n : Nat) (out : List Int) (c : TCase), CaseOK c → j < n → out.length + j ≤ 1000 → ksOK out = true → Ok (L11_0 (fun l b => some (l, b)) n out (j : Int) c) fun r => CaseOK r.2 ∧ ksOK r.1 = true ∧ r.1.length = out.length + j
  | 0, n + 1, out, c, hc, _, _, ho => by
    simp only [L11_0, B11_0]
    exact Ok.pure ⟨hc, ho, by simp⟩
  | j + 1, n + 1, out, c, hc, hn, hl, ho => by
    have h : ((j + 1 : Nat) : Int) > 0 := by omega
    simp only [L11_0, B11_0, h, decide_true, if_true]
    refine Ok.bind (F21_ok n c 3 hc) fun r ⟨hr, r0, r1, _⟩ => ?_
    have r1 := r1 (by omega)
    rw [w64_id (x := 3 + r.1) (by omega) (by omega), app_ok _ _ (by simp; omega), Option.bind_some]
    have hw : w64 (((j + 1 : Nat) : Int) - 1) = (j : Int) := by rw [w64_id (by omega) (by omega)]; omega
    rw [hw]
    have hk : kOK (3 + r.1) = true := by simp [kOK]; omega
    refine (L11_ok j n _ r.2 hr (by omega) (by simp; omega) (ksOK_append ho (by simp [ksOK, hk]))).mono fun x ⟨h1, h2, h3⟩ => ⟨h1, h2, by rw [h3]; simp; omega⟩
  | _, 0, _, _, _, hn, _, _ => by simp at hn

theorem F11_ok (n : Nat) (hn : 300 ≤ n) (c : TCase) (m : Nat) (hm : m ≤ 10) (h : CaseOK c) : Ok (F11 n c (m : Int)) fun r => CaseOK r.2 ∧ ksOK r.1 = true ∧ r.1.length ≤ 10 := by
  unfold F11 B11_2
  rw [w64_id (by omega) (by omega)]
  refine Ok.bind (F21_ok n c ((m : Int) + 1) h) fun r ⟨hr, r0, r1, _, r2⟩ => ?_
  have r1 := r1 (by omega)
  obtain ⟨j, hj⟩ : ∃ j : Nat, r.1 = (j : Int) := ⟨r.1.toNat, by omega⟩
  rw [hj]
  refine (L11_ok j n [] r.2 hr (by omega) (by simp; omega) rfl).mono fun x ⟨h1, h2, h3⟩ => ⟨h1, h2, by simp at h3; omega⟩

/-- operands of a kind -/
def osOK (cols params : List Int) (k : Int) (l : List TOperand) : Prop := ∀ o ∈ l, oKind cols params o = k

theorem oKind_col {cols params : List Int} {i : Nat} {k : Int} (h : cols[i]? = some k) : oKind cols params ⟨1, (i : Int), ⟨0, 0, ByteArray.empty⟩⟩ = k := by
  have hi : i < cols.length := (List.getElem?_eq_some_iff.1 h).1
  have : (i : Int) < (cols.length : Int) := by omega
  simp [oKind, kAt, oNone, this, h]
theorem oKind_par {cols params : List Int} {i : Nat} {k : Int} (h : params[i]? = some k) : oKind cols params ⟨2, (i : Int), ⟨0, 0, ByteArray.empty⟩⟩ = k := by
  have hi : i < params.length := (List.getElem?_eq_some_iff.1 h).1
  have : (i : Int) < (params.length : Int) := by omega
  simp [oKind, kAt, oNone, this, h]

theorem B58_2_ok (n : Nat) (hn : 300 ≤ n) (cols params : List Int) (k : Int) (hk : kOK k = true) (l : List TOperand) (c : TCase) (hc : CaseOK c) (hl : l.length ≤ 300) (ho : osOK cols params k l) :
    Ok (B58_2 n k l c) fun r => CaseOK r.2 ∧ oKind cols params r.1 = k := by
  have hkr := kOK_range hk
  unfold B58_2
  rw [w64_id (by omega) (by omega)]
  refine Ok.bind (F21_ok n c ((l.length : Int) + 1) hc) fun r ⟨hr, r0, r1, _⟩ => ?_
  have r1 := r1 (by omega)
  refine Ok.ite (fun h => ?_) fun h => ?_
  · simp at h
    have hlt : r.1.toNat < l.length := by omega
    have : idx l r.1 = some (l[r.1.toNat]) := by simp [idx, r0, hlt]
    rw [this, Option.bind_some]
    exact Ok.pure ⟨hr, ho _ (List.getElem_mem _)⟩
  · refine Ok.bind (F22_ok n (by omega) r.2 k hr hkr.1 hkr.2) fun x ⟨hx, kx, rx⟩ => Ok.pure ⟨hx, ?_⟩
    simp [oKind, rx, kx]

theorem L58_1_ok (n : Nat) (hn : 300 ≤ n) (cols params : List Int) (k : Int) (hk : kOK k = true) (hp : params.length ≤ 100) : ∀ (xs : List Int) (i m : Nat) (l : List TOperand) (c : TCase), params.drop i = xs → xs.length < m → CaseOK c → l.length + xs.length ≤ 300 → osOK cols params k l →
    Ok (L58_1 (B58_2 n) m k l params (params.length : Int) (i : Int) c) fun r => CaseOK r.2 ∧ oKind cols params r.1 = k
  | [], i, m + 1, l, c, hd, hm, hc, hl, ho => by
    have : params.length ≤ i := by simpa using hd
    have hq : ¬ ((i : Int) < (params.length : Int)) := by omega
    simp only [L58_1, B58_1, hq, decide_false, Bool.false_eq_true, if_false]
    exact B58_2_ok n hn cols params k hk l c hc (by simp at hl; omega) ho
  | x :: xs, i, m + 1, l, c, hd, hm, hc, hl, ho => by
    obtain ⟨g1, g2, g3⟩ := get_drop hd
    have hq : ((i : Int) < (params.length : Int)) := by omega
    simp only [L58_1, B58_1, hq, decide_true, if_true, idx_nat, g1, Option.bind_some]
    simp at hm hl
    refine Ok.ite (fun h => ?_) fun h => ?_
    · simp at h
      subst h
      rw [app_ok _ _ (by simp; omega), Option.bind_some, next_i g3 (by omega)]
      refine L58_1_ok n hn cols params x hk hp xs (i + 1) m _ c g2 (by omega) hc (by simp; omega) fun o hx => ?_
      rcases List.mem_append.1 hx with hx | hx
      · exact ho o hx
      · simp at hx; subst hx; exact oKind_par g1
    · rw [next_i g3 (by omega)]
      exact L58_1_ok n hn cols params k hk hp xs (i + 1) m l c g2 (by omega) hc (by omega) ho
  | _, _, 0, _, _, _, hm, _, _, _ => by simp at hm

theorem L58_0_ok (n : Nat) (hn : 300 ≤ n) (cols params : List Int) (k : Int) (hk : kOK k = true) (hp : params.length ≤ 100) (hcl : cols.length ≤ 100) : ∀ (xs : List Int) (i m : Nat) (l : List TOperand) (c : TCase), cols.drop i = xs → xs.length < m → CaseOK c → l.length + xs.length ≤ 100 → osOK cols params k l →
    Ok (L58_0 (B58_3 n) m params k l cols (cols.length : Int) (i : Int) c) fun r => CaseOK r.2 ∧ oKind cols params r.1 = k
  | [], i, m + 1, l, c, hd, hm, hc, hl, ho => by
    have : cols.length ≤ i := by simpa using hd
    have hq : ¬ ((i : Int) < (cols.length : Int)) := by omega
    simp only [L58_0, B58_0, hq, decide_false, Bool.false_eq_true, if_false, B58_3]
    exact L58_1_ok n hn cols params k hk hp params 0 n l c rfl (by omega) hc (by simp at hl; omega) ho
  | x :: xs, i, m + 1, l, c, hd, hm, hc, hl, ho => by
    obtain ⟨g1, g2, g3⟩ := get_drop hd
    have hq : ((i : Int) < (cols.length : Int)) := by omega
    simp only [L58_0, B58_0, hq, decide_true, if_true, idx_nat, g1, Option.bind_some]
    simp at hm hl
    refine Ok.ite (fun h => ?_) fun h => ?_
    · simp at h
      subst h
      rw [app_ok _ _ (by simp; omega), Option.bind_some, next_i g3 (by omega)]
      refine L58_0_ok n hn cols params x hk hp hcl xs (i + 1) m _ c g2 (by omega) hc (by simp; omega) fun o hx => ?_
      rcases List.mem_append.1 hx with hx | hx
      · exact ho o hx
      · simp at hx; subst hx; exact oKind_col g1
    · rw [next_i g3 (by omega)]
      exact L58_0_ok n hn cols params k hk hp hcl xs (i + 1) m l c g2 (by omega) hc (by omega) ho
  | _, _, 0, _, _, _, hm, _, _, _ => by simp at hm

theorem F58_ok (n : Nat) (hn : 300 ≤ n) (c : TCase) (cols params : List Int) (k : Int) (hk : kOK k = true) (hc : CaseOK c) (hcl : cols.length ≤ 100) (hp : params.length ≤ 100) : Ok (F58 n c cols params k) fun r => CaseOK r.2 ∧ oKind cols params r.1 = k :=
  L58_0_ok n hn cols params k hk hp hcl cols 0 n [] c rfl (by omega) hc (by simp; omega) (fun o h => by simp at h)

def nB : Nat → Nat
  | 0 => 1
  | d + 1 => 1 + 3 * nB d
def sB : Nat → Nat
  | 0 => 2
  | d + 1 => 2 + 3 * (1 + sB d)
theorem nB_pos (d : Nat) : 1 ≤ nB d := by cases d <;> simp [nB]
theorem sB_pos (d : Nat) : 2 ≤ sB d := by cases d <;> simp [sB]

/-- What a made predicate is. -/
structure TreeOK (cols params : List Int) (d : Nat) (r : TPredicate × TCase) : Prop where
  case : CaseOK r.2
  val : pV cols params r.1 = true
  dp : dpP r.1 ≤ d + 1
  nd : ndP r.1 ≤ nB d
  sz : szP r.1 ≤ sB d

theorem leafOK {cols params : List Int} {d : Nat} {op c : Int} {l r : TOperand} {x : TCase} (hx : CaseOK x) (hv : pV cols params ⟨op, c, l, r, []⟩ = true) : TreeOK cols params d (⟨op, c, l, r, []⟩, x) :=
  ⟨hx, hv, by simp [dpP, dpL], by simp [ndP, ndL]; exact nB_pos d, by simp [szP, szL]; exact sB_pos d⟩

def zo : TOperand := ⟨0, 0, ⟨0, 0, ByteArray.empty⟩⟩
theorem plain_zo : nPlain 0 zo zo = true := by decide

theorem B32_0_ok (s : TCase → List Int → List Int → Int → Option (TPredicate × TCase)) (n : Nat) (cols params : List Int) (d : Nat) (x : TCase) (hx : CaseOK x) (c : Int) (l r : TOperand) (h1 : 1 ≤ c) (h2 : c ≤ 6) (h3 : oKind cols params l ≠ 0) (h4 : oKind cols params l = oKind cols params r) :
    Ok (B32_0 s n x ⟨3, c, l, r, []⟩) (TreeOK cols params d) := by
  unfold B32_0
  refine Ok.bind (F33_ok n x 6 hx) fun b hb => ?_
  refine Ok.ite (fun _ => Ok.pure (leafOK hb ?_)) fun _ => Ok.pure (leafOK hb ?_)
  · simp [pV, h1, h2, ← h4, h3]
  · simp [pV, h1, h2, ← h4, h3]

theorem B32_1_ok (s : TCase → List Int → List Int → Int → Option (TPredicate × TCase)) (n : Nat) (hn : 300 ≤ n) (cols params : List Int) (hcl : cols.length ≤ 100) (hp : params.length ≤ 100) (d : Nat) (k : Int) (hk : kOK k = true) (x : TCase) (hx : CaseOK x) :
    Ok (B32_1 s n cols params k x) (TreeOK cols params d) := by
  have hkr := kOK_range hk
  unfold B32_1
  refine Ok.bind (F21_ok n x 6 hx) fun r ⟨hr, r0, r1, _⟩ => ?_
  have r1 := r1 (by omega)
  rw [w64_id (by omega) (by omega)]
  refine Ok.bind (F58_ok n hn r.2 cols params k hk hr hcl hp) fun l ⟨hl, kl⟩ => ?_
  refine Ok.bind (F22_ok n (by omega) l.2 k hl hkr.1 hkr.2) fun v ⟨hv, kv, rv⟩ => ?_
  refine Ok.bind (F33_ok n v.2 3 hv) fun b hb => ?_
  refine Ok.ite (fun _ => ?_) fun _ => ?_
  · refine Ok.bind (F58_ok n hn b.2 cols params k hk hb hcl hp) fun o ⟨ho, ko⟩ => ?_
    exact B32_0_ok s n cols params d o.2 ho _ _ _ (by omega) (by omega) (by omega) (by omega)
  · refine B32_0_ok s n cols params d b.2 hb _ _ _ (by omega) (by omega) (by omega) ?_
    simp [oKind, rv, kv] at kl ⊢
    exact kl

theorem L32_2_ok (s : TCase → List Int → List Int → Int → Option (TPredicate × TCase)) (cols params : List Int) (d : Nat) (hd : d ≤ 1000)
    (hs : ∀ c, CaseOK c → Ok (s c cols params (d : Int)) (TreeOK cols params d)) : ∀ (j n : Nat) (op : Int) (args : List TPredicate) (c : TCase), CaseOK c → j < n → args.length + j ≤ 3 → pVs cols params args = true → dpL args ≤ d + 1 → ndL args ≤ args.length * nB d → szL args ≤ args.length * (1 + sB d) → (op = 4 ∨ op = 5) →
    Ok (L32_2 s (fun b p => some (p, b)) n cols params ((d + 1 : Nat) : Int) ((j : Int) - 1) c ⟨op, 0, zo, zo, args⟩) (TreeOK cols params (d + 1))
  | 0, n + 1, op, args, c, hc, _, hj, h1, h2, h3, h4, hop => by
    have : ¬ (((0 : Nat) : Int) - 1 ≥ 0) := by omega
    simp only [L32_2, B32_2, this, decide_false, Bool.false_eq_true, if_false]
    have e3 : args.length * nB d ≤ 3 * nB d := Nat.mul_le_mul_right _ (by omega)
    have e4 : args.length * (1 + sB d) ≤ 3 * (1 + sB d) := Nat.mul_le_mul_right _ (by omega)
    refine Ok.pure ⟨hc, ?_, by simp only [dpP]; omega, by simp only [ndP, nB]; omega, by simp only [szP, sB]; omega⟩
    rcases hop with rfl | rfl <;> simp [pV, plain_zo, h1]
  | j + 1, n + 1, op, args, c, hc, hn, hj, h1, h2, h3, h4, hop => by
    have : (((j + 1 : Nat) : Int) - 1 ≥ 0) := by omega
    simp only [L32_2, B32_2, this, decide_true, if_true]
    have hw : w64 (((d + 1 : Nat) : Int) - 1) = (d : Int) := by rw [w64_id (by omega) (by omega)]; omega
    have hw2 : w64 (((j + 1 : Nat) : Int) - 1 - 1) = (j : Int) - 1 := by rw [w64_id (by omega) (by omega)]; omega
    rw [hw, hw2]
    refine Ok.bind (hs c hc) fun x hx => ?_
    rw [app_ok _ _ (by simp; omega), Option.bind_some]
    have key : ∀ (l : List TPredicate) (y : TPredicate), pVs cols params (l ++ [y]) = (pVs cols params l && pV cols params y) ∧ dpL (l ++ [y]) = max (dpL l) (dpP y) ∧ ndL (l ++ [y]) = ndL l + ndP y ∧ szL (l ++ [y]) = szL l + (1 + szP y) := by
      intro l y
      induction l with
      | nil => simp [pVs, dpL, ndL, szL]
      | cons a l ih =>
        obtain ⟨i1, i2, i3, i4⟩ := ih
        simp only [List.cons_append, pVs, dpL, ndL, szL, i1, i2, i3, i4]
        refine ⟨by rw [Bool.and_assoc], by omega, by omega, by omega⟩
    obtain ⟨k1, k2, k3, k4⟩ := key args x.1
    refine L32_2_ok s cols params d hd hs j n op _ x.2 hx.case (by omega) (by simp; omega) (by rw [k1, h1, hx.val]; rfl) (by rw [k2]; have := hx.dp; omega) ?_ ?_ hop
    · rw [k3, List.length_append]
      have := hx.nd
      simp only [List.length_cons, List.length_nil, Nat.add_mul]
      omega
    · rw [k4, List.length_append]
      have := hx.sz
      simp only [List.length_cons, List.length_nil, Nat.add_mul]
      omega
  | _, 0, _, _, _, _, hn, _, _, _, _, _, _ => by simp at hn

theorem TreeOK.up {cols params : List Int} {r : TPredicate × TCase} {d e : Nat} (h : TreeOK cols params d r) (hd : d ≤ e) : TreeOK cols params e r := by
  have hn : ∀ k, nB d ≤ nB (d + k) := by
    intro k; induction k with
    | zero => simp
    | succ k ih => rw [← Nat.add_assoc]; simp only [nB]; omega
  have hs : ∀ k, sB d ≤ sB (d + k) := by
    intro k; induction k with
    | zero => simp
    | succ k ih => rw [← Nat.add_assoc]; simp only [sB]; omega
  have e1 : d + (e - d) = e := by omega
  have a := hn (e - d)
  have b := hs (e - d)
  rw [e1] at a b
  exact ⟨h.case, h.val, by have := h.dp; omega, by have := h.nd; omega, by have := h.sz; omega⟩

theorem F32_ok (cols params : List Int) (hk : ksOK cols = true) (hcl : cols.length ≤ 100) (hp : params.length ≤ 100) : ∀ (d n : Nat) (c : TCase), CaseOK c → 300 + d < n → d ≤ 100 → Ok (F32 n c cols params (d : Int)) (TreeOK cols params d)
  | d, 0, c, hc, hn, _ => by omega
  | d, n + 1, c, hc, hn, hd => by
    have leaf : ∀ (op : Int) (x : TCase), CaseOK x → Ok (B32_4 (F32 n) n cols params (d : Int) op true x) (TreeOK cols params d) := by
      intro op x hx
      unfold B32_4
      simp only [if_true]
      refine Ok.ite (fun h => ?_) fun h => ?_
      · simp at h
        refine Ok.bind (F21_ok n x (cols.length : Int) hx) fun r ⟨hr, r0, r1, _⟩ => ?_
        have r1 := r1 (by omega)
        have hlt : r.1.toNat < cols.length := by omega
        have hid : idx cols r.1 = some (cols[r.1.toNat]) := by simp [idx, r0, hlt]
        rw [hid, Option.bind_some]
        exact B32_1_ok (F32 n) n (by omega) cols params hcl hp d _ (ksOK_get hk (i := r.1.toNat) (by simp [hlt])) r.2 hr
      · exact B32_1_ok (F32 n) n (by omega) cols params hcl hp d 4 rfl x hx
    have inner : ∀ (op : Int) (x : TCase), 6 ≤ op → op ≤ 8 → CaseOK x → Ok (B32_4 (F32 n) n cols params (d : Int) op (decide ((d : Int) < 1)) x) (TreeOK cols params d) := by
      intro op x o1 o2 hx
      cases d with
      | zero => simpa using leaf op x hx
      | succ d =>
        have hnd : ¬ (((d + 1 : Nat) : Int) < 1) := by omega
        have hw : w64 (((d + 1 : Nat) : Int) - 1) = (d : Int) := by rw [w64_id (by omega) (by omega)]; omega
        have ih := fun c hc => F32_ok cols params hk hcl hp d n c hc (by omega) (by omega)
        unfold B32_4
        simp only [hnd, decide_false, Bool.false_eq_true, if_false]
        refine Ok.ite (fun h6 => ?_) fun h6 => ?_
        · rw [hw]
          refine Ok.bind (ih x hx) fun r hr => Ok.pure ⟨hr.case, ?_, ?_, ?_, ?_⟩
          · have : nPlain 0 ⟨0, 0, ⟨0, 0, ByteArray.empty⟩⟩ ⟨0, 0, ⟨0, 0, ByteArray.empty⟩⟩ = true := plain_zo
            simp [pV, this, pVs, hr.val]
          · simp only [dpP, dpL]; have := hr.dp; omega
          · simp only [ndP, ndL, nB]; have := hr.nd; omega
          · simp only [szP, szL, sB]; have := hr.sz; omega
        · simp at h6
          refine Ok.bind (F21_ok n x 3 hx) fun r ⟨hr, r0, r1, _⟩ => ?_
          have r1 := r1 (by omega)
          rw [w64_id (x := 4 + op) (by omega) (by omega), w64_id (by omega) (by omega)]
          have e : r.1 = ((r.1.toNat + 1 : Nat) : Int) - 1 := by omega
          rw [e]
          exact L32_2_ok (F32 n) cols params d (by omega) ih (r.1.toNat + 1) n (4 + op - 7) [] r.2 hr (by omega) (by simp; omega) rfl (by simp [dpL]) (by simp [ndL]) (by simp [szL]) (by omega)
    unfold F32 B32_5
    refine Ok.bind (F21_ok n c 9 hc) fun r ⟨hr, r0, r1, _⟩ => ?_
    have r1 := r1 (by omega)
    refine Ok.ite (fun h0 => ?_) fun h0 => ?_
    · simp at h0
      refine Ok.bind (F33_ok n r.2 2 hr) fun b hb => ?_
      refine Ok.ite (fun _ => ?_) fun _ => ?_
      · refine Ok.bind (F21_ok n b.2 2 hb) fun q ⟨hq, q0, q1, _⟩ => ?_
        have q1 := q1 (by omega)
        rw [w64_id (by omega) (by omega)]
        refine Ok.pure (leafOK hq ?_)
        have hz : nPlain 0 ⟨0, 0, ⟨0, 0, ByteArray.empty⟩⟩ ⟨0, 0, ⟨0, 0, ByteArray.empty⟩⟩ = true := plain_zo
        have : q.1 = 0 ∨ q.1 = 1 := by omega
        rcases this with e | e <;> simp [pV, e, hz]
      · refine Ok.ite (fun _ => leaf _ _ hb) fun h6 => ?_
        simp at h6; omega
    · refine Ok.ite (fun _ => leaf _ _ hr) fun h6 => ?_
      simp at h6
      exact inner r.1 r.2 h6 (by omega) hr

theorem F12_ok (cols params : List Int) (hk : ksOK cols = true) (hk' : ksOK params = true) (hcl : cols.length ≤ 100) (hp : params.length ≤ 100) (d n : Nat) (c : TCase) (hc : CaseOK c) (hn : 1000 ≤ n) (hn' : n < 4294967296) (hd1 : 1 ≤ d) (hd : d ≤ 3) :
    Ok (F12 n c cols params (d : Int)) fun r => CaseOK r.2 ∧ pChk cols params r.1 = 0 ∧ szP r.1 ≤ 119 := by
  unfold F12 B12_0
  refine Ok.bind (F32_ok cols params hk hcl hp d n c hc (by omega) (by omega)) fun r hr => ?_
  have hs : szP r.1 ≤ 119 := (hr.up hd).sz
  rw [F16_eq n cols params r.1 (by omega) (by omega) (by omega) hn', Option.bind_some]
  refine Ok.ite (fun h2 => ?_) fun h2 => ?_
  · refine Ok.bind (F32_ok cols params hk hcl hp 1 n r.2 hr.case (by omega) (by omega)) fun q hq => Ok.pure ⟨hq.case, ?_, (hq.up (by omega : 1 ≤ 3)).sz⟩
    have h1 := hq.nd
    have h2 := hq.dp
    have e1 : ¬ 24 < ndP q.1 := by simp [nB] at h1; omega
    have e2 : ¬ 8 < dpP q.1 := by omega
    simp [pChk, hk, hk', e1, e2, hq.val]
  · refine Ok.pure ⟨hr.case, ?_, hs⟩
    have : pChk cols params r.1 = 2 ∨ pChk cols params r.1 = 0 := by
      unfold pChk
      cases decide (24 < ndP r.1) || decide (8 < dpP r.1) <;> simp [hk, hk', hr.val]
    simp at h2
    exact this.resolve_left h2

/-- rows -/
theorem B17_0_ok (kk : Int → Int → List TValue → List Int → Int → Int → TCase → Option (List TValue × TCase)) (n : Nat) (hn : 300 ≤ n) (key mode : Int) (out : List TValue) (k : Int) (hk : kOK k = true) (t12 : List Int) (t13 t14 : Int) (b : Bool) (c : TCase) (hc : CaseOK c) (ho : out.length ≤ 1000) (Q : List TValue × TCase → Prop)
    (h : ∀ x c', CaseOK c' → Ok (kk key mode (out ++ [x]) t12 t13 t14 c') Q) : Ok (B17_0 kk n key mode out k t12 t13 t14 b c) Q := by
  have hkr := kOK_range hk
  unfold B17_0
  refine Ok.ite (fun _ => ?_) fun _ => ?_
  · rw [app_ok _ _ (by simp; omega), Option.bind_some]
    exact h _ _ hc
  · refine Ok.bind (F22_ok n (by omega) c k hc hkr.1 hkr.2) fun r ⟨hr, _⟩ => ?_
    rw [app_ok _ _ (by simp; omega), Option.bind_some]
    exact h _ _ hr

theorem L17_ok (n : Nat) (hn : 300 ≤ n) (ks : List Int) (hk : ksOK ks = true) (hl : ks.length ≤ 100) (key mode : Int) : ∀ (xs : List Int) (i m : Nat) (out : List TValue) (c : TCase), ks.drop i = xs → xs.length < m → 300 + xs.length < m → CaseOK c → out.length + xs.length ≤ 100 →
    Ok (L17_2 (fun l b => some (l, b)) m key mode out ks (ks.length : Int) (i : Int) c) fun r => CaseOK r.2 ∧ r.1.length = out.length + xs.length
  | [], i, m + 1, out, c, hd, hm, _, hc, ho => by
    have : ks.length ≤ i := by simpa using hd
    have hq : ¬ ((i : Int) < (ks.length : Int)) := by omega
    simp only [L17_2, B17_2, hq, decide_false, Bool.false_eq_true, if_false]
    exact Ok.pure ⟨hc, by simp⟩
  | x :: xs, i, m + 1, out, c, hd, hm, hm', hc, ho => by
    obtain ⟨g1, g2, g3⟩ := get_drop hd
    have hq : ((i : Int) < (ks.length : Int)) := by omega
    have hx := ksOK_get hk g1
    simp only [L17_2, B17_2, hq, decide_true, if_true, idx_nat, g1, Option.bind_some]
    simp at hm hm' ho
    have step : ∀ y c', CaseOK c' → Ok (B17_1 (L17_2 (fun l b => some (l, b)) m) m key mode (out ++ [y]) ks (ks.length : Int) (i : Int) c') fun r => CaseOK r.2 ∧ r.1.length = out.length + (x :: xs).length := by
      intro y c' hc'
      unfold B17_1
      rw [next_i g3 (by omega)]
      refine (L17_ok n hn ks hk hl key mode xs (i + 1) m (out ++ [y]) c' g2 (by omega) (by omega) hc' (by simp; omega)).mono fun r ⟨h1, h2⟩ => ⟨h1, by rw [h2]; simp; omega⟩
    have cell : ∀ b c', CaseOK c' → Ok (B17_0 (B17_1 (L17_2 (fun l b => some (l, b)) m) m) m key mode out x ks (ks.length : Int) (i : Int) b c') fun r => CaseOK r.2 ∧ r.1.length = out.length + (x :: xs).length :=
      fun b c' hc' => B17_0_ok _ m (by omega) key mode out x hx ks _ _ b c' hc' (by omega) _ step
    refine Ok.ite (fun _ => ?_) fun _ => cell _ _ hc
    refine Ok.ite (fun _ => ?_) fun _ => ?_
    · refine Ok.bind (F33_ok m c 5 hc) fun b hb => ?_
      refine Ok.ite (fun _ => ?_) fun _ => ?_
      · rw [app_ok _ _ (by simp; omega), Option.bind_some]
        exact step _ _ hb
      · refine Ok.ite (fun _ => ?_) fun _ => cell _ _ hb
        exact Ok.bind (F33_ok m b.2 5 hb) fun b' hb' => cell _ _ hb'
    · refine Ok.ite (fun _ => ?_) fun _ => cell _ _ hc
      exact Ok.bind (F33_ok m c 5 hc) fun b' hb' => cell _ _ hb'
  | _, _, 0, _, _, _, hm, _, _, _ => by simp at hm

theorem F17_ok (n : Nat) (hn : 1000 ≤ n) (c : TCase) (ks : List Int) (key mode : Int) (hk : ksOK ks = true) (hl : ks.length ≤ 100) (hc : CaseOK c) : Ok (F17 n c ks key mode) fun r => CaseOK r.2 ∧ r.1.length = ks.length :=
  (L17_ok n (by omega) ks hk hl key mode ks 0 n [] c rfl (by omega) (by omega) hc (by simp; omega)).mono fun r ⟨h1, h2⟩ => ⟨h1, by simpa using h2⟩

/-- values of kinds -/
def vsOK (ks : List Int) (vs : List TValue) : Prop := vs.length = ks.length ∧ ∀ (i : Nat) (k : Int), ks[i]? = some k → ∃ v, vs[i]? = some v ∧ v.fKind = k ∧ vReal v = true

theorem L18_ok (ks : List Int) (hk : ksOK ks = true) (hl : ks.length ≤ 100) : ∀ (xs : List Int) (i m : Nat) (out : List TValue) (c : TCase), ks.drop i = xs → 300 + xs.length < m → CaseOK c → out.length = i → (∀ (j : Nat) (k : Int), j < i → ks[j]? = some k → ∃ v, out[j]? = some v ∧ v.fKind = k ∧ vReal v = true) → i ≤ ks.length →
    Ok (L18_0 (fun l b => some (l, b)) m out ks (ks.length : Int) (i : Int) c) fun r => CaseOK r.2 ∧ vsOK ks r.1
  | [], i, m + 1, out, c, hd, hm, hc, ho, hv, hi => by
    have : ks.length ≤ i := by simpa using hd
    have hq : ¬ ((i : Int) < (ks.length : Int)) := by omega
    simp only [L18_0, B18_0, hq, decide_false, Bool.false_eq_true, if_false]
    refine Ok.pure ⟨hc, by simp; omega, fun j k hj => hv j k (by have := (List.getElem?_eq_some_iff.1 hj).1; omega) hj⟩
  | x :: xs, i, m + 1, out, c, hd, hm, hc, ho, hv, hi => by
    obtain ⟨g1, g2, g3⟩ := get_drop hd
    have hq : ((i : Int) < (ks.length : Int)) := by omega
    have hx := kOK_range (ksOK_get hk g1)
    simp only [L18_0, B18_0, hq, decide_true, if_true, idx_nat, g1, Option.bind_some]
    simp at hm
    refine Ok.bind (F22_ok m (by omega) c x hc hx.1 hx.2) fun r ⟨hr, kr, rr⟩ => ?_
    rw [app_ok _ _ (by simp; omega), Option.bind_some, next_i g3 (by omega)]
    refine L18_ok ks hk hl xs (i + 1) m _ r.2 g2 (by omega) hr (by simp; omega) (fun j k hj hk' => ?_) (by omega)
    by_cases hji : j < i
    · obtain ⟨v, h1, h2⟩ := hv j k hji hk'
      exact ⟨v, by rw [List.getElem?_append_left (by omega)]; exact h1, h2⟩
    · have : j = i := by omega
      subst this
      rw [g1] at hk'
      simp at hk'
      exact ⟨r.1, by rw [List.getElem?_append_right (by omega)]; simp [ho], by omega, rr⟩
  | _, _, 0, _, _, _, hm, _, _, _, _ => by omega

theorem F18_ok (n : Nat) (hn : 1000 ≤ n) (c : TCase) (ks : List Int) (hk : ksOK ks = true) (hl : ks.length ≤ 100) (hc : CaseOK c) : Ok (F18 n c ks) fun r => CaseOK r.2 ∧ vsOK ks r.1 :=
  L18_ok ks hk hl ks 0 n [] c rfl (by omega) hc rfl (fun j k hj => by omega) (by omega)
end Go.Proofs.Ytalbakjfbgkjjaa
