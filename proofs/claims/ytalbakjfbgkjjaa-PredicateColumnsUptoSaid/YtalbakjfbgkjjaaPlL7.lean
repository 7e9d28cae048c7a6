/- Plain law: PredicateColumns. Conditions: sizes below 2^20, enough steps. -/
import Derived.Test.YtalbakjfbgkjjaaLaw7
import Derived.Test.YtalbakjfbgkjjaaBeg
import Derived.Test.YtalbakjfbgkjjaaPl7
set_option linter.all false
namespace Go.Proofs.Ytalbakjfbgkjjaa
open Go.Abs

theorem chk_valid7 {cols params : List Int} {p : TPredicate} (h : pChk cols params p = 0) : ksOK cols = true ∧ ksOK params = true ∧ ndP p ≤ 24 ∧ dpP p ≤ 8 ∧ pV cols params p = true := by
  unfold pChk at h
  cases h1 : ksOK cols
  · simp [h1] at h
  · cases h2 : ksOK params
    · simp [h1, h2] at h
    · by_cases h3 : 24 < ndP p
      · simp [h1, h2, h3] at h
      · by_cases h4 : 8 < dpP p
        · simp [h1, h2, h3, h4] at h
        · cases h5 : pV cols params p
          · simp [h1, h2, h3, h4, h5] at h
          · exact ⟨rfl, rfl, by omega, by omega, rfl⟩

/-- The columns of a predicate, in the order in which they are met. -/
def cO (o : TOperand) : List Int := if o.fKind = 1 ∧ 0 ≤ o.fIndex then [o.fIndex] else []
mutual
def cP : TPredicate → List Int
  | ⟨op, _, l, r, args⟩ => (if op = 3 then cO l ++ cO r else []) ++ cL args
def cL : List TPredicate → List Int
  | [] => []
  | x :: xs => cP x ++ cL xs
end
theorem cO_len (o : TOperand) : (cO o).length ≤ 1 := by unfold cO; split <;> simp
mutual
theorem cP_len : ∀ p : TPredicate, (cP p).length ≤ szP p
  | ⟨op, _, l, r, args⟩ => by
    have h1 := cO_len l
    have h2 := cO_len r
    have h3 := cL_len args
    simp only [cP, szP]
    split <;> simp <;> omega
theorem cL_len : ∀ xs : List TPredicate, (cL xs).length ≤ szL xs
  | [] => by simp [cL]
  | x :: xs => by
    have h1 := cP_len x
    have h2 := cL_len xs
    simp only [cL, szL, List.length_append]
    omega
end

theorem F51_step (s : List Int → TPredicate → Option (List Int)) (kk : List Int → T93 → Int → TPredicate → Option (List Int)) (n : Nat) (list : List Int) (t : T93) (i : Int) (p : TPredicate) (o : TOperand) (h : list.length + 1 ≤ 2147483648) :
    B51_0 s kk n list t i p o = kk (list ++ cO o) t (w64 (i + 1)) p := by
  unfold B51_0 cO
  by_cases h1 : o.fKind = 1
  · by_cases h2 : 0 ≤ o.fIndex
    · simp [h1, h2, app_ok list [o.fIndex] (by simpa using h)]
    · simp [h1, h2]
  · simp [h1]

theorem L51_2_eq (s : List Int → TPredicate → Option (List Int)) (xs : List TPredicate) (hl : xs.length < 4294967296) : ∀ (l : List TPredicate) (i n : Nat) (list : List Int), xs.drop i = l → l.length < n →
    (∀ x ∈ l, ∀ a : List Int, a.length + szP x ≤ list.length + szL l → s a x = some (a ++ cP x)) → L51_2 s (fun a => some a) n list xs (xs.length : Int) (i : Int) = some (list ++ cL l)
  | [], i, n + 1, list, hd, _, _ => by
    have : xs.length ≤ i := by simpa using hd
    have h : ¬ ((i : Int) < (xs.length : Int)) := by omega
    simp [L51_2, B51_2, h, cL]
  | x :: l, i, n + 1, list, hd, hn, hs => by
    obtain ⟨h1, h2, h3⟩ := get_drop hd
    have h : ((i : Int) < (xs.length : Int)) := by omega
    have hx := cP_len x
    have ih := L51_2_eq s xs hl l (i + 1) n (list ++ cP x) h2 (by simp at hn; omega) (fun y hy a ha => hs y (by simp [hy]) a (by simp only [List.length_append, szL] at ha ⊢; omega))
    simp only [L51_2, B51_2, h, decide_true, if_true, idx_nat, h1, Option.bind_some, hs x (by simp) list (by simp only [szL]; omega), next_i h3 hl]
    rw [ih]
    simp [cL]
  | _, _, 0, _, _, hn, _ => by simp at hn

theorem F51_eq : ∀ (n : Nat) (p : TPredicate) (list : List Int), szP p + 3 ≤ n → list.length + szP p ≤ 2147483648 → F51 n list p = some (list ++ cP p)
  | 0, _, _, h, _ => by omega
  | n + 1, ⟨op, c, l, r, args⟩, list, h, hb => by
    simp only [szP] at h hb
    have hlen := szL_len args
    have h1 := cO_len l
    have h2 := cO_len r
    have loop : ∀ a : List Int, a.length ≤ list.length + 2 → B51_4 (F51 n) n a ⟨op, c, l, r, args⟩ = some (a ++ cL args) := fun a ha => by
      unfold B51_4
      refine L51_2_eq (F51 n) args (by omega) args 0 n a rfl (by omega) fun x hx b hb' => ?_
      have := szL_mem hx
      exact F51_eq n x b (by omega) (by omega)
    simp only [F51, B51_5, cP]
    by_cases hop : op = 3
    · obtain ⟨m, rfl⟩ : ∃ m, n = m + 3 := ⟨n - 3, by omega⟩
      subst hop
      have e1 : ∀ a t p, L51_1 (F51 (m + 3)) (B51_4 (F51 (m + 3)) (m + 3)) (m + 3) a t 0 p = B51_0 (F51 (m + 3)) (L51_1 (F51 (m + 3)) (B51_4 (F51 (m + 3)) (m + 3)) (m + 2)) (m + 2) a t 0 p t.f0 := fun _ _ _ => rfl
      have e2 : ∀ a t p, L51_1 (F51 (m + 3)) (B51_4 (F51 (m + 3)) (m + 3)) (m + 2) a t 1 p = B51_0 (F51 (m + 3)) (L51_1 (F51 (m + 3)) (B51_4 (F51 (m + 3)) (m + 3)) (m + 1)) (m + 1) a t 1 p t.f1 := fun _ _ _ => rfl
      have e3 : ∀ a t p, L51_1 (F51 (m + 3)) (B51_4 (F51 (m + 3)) (m + 3)) (m + 1) a t 2 p = B51_4 (F51 (m + 3)) (m + 3) a p := fun _ _ _ => rfl
      have w1 : w64 ((0 : Int) + 1) = 1 := by decide
      have w2 : w64 ((1 : Int) + 1) = 2 := by decide
      rw [if_pos (show ((3 : Int) == 3) = true from rfl), if_pos rfl, e1, F51_step _ _ _ _ _ _ _ _ (by omega), w1, e2, F51_step _ _ _ _ _ _ _ _ (by simp; omega), w2, e3, loop _ (by simp; omega)]
      simp
    · have e0 : (op == 3) = false := by simp [hop]
      simp only [e0, hop, if_false, Bool.false_eq_true]
      rw [loop _ (by omega)]
      simp

/-- A number put into an ascending list, once. -/
def insD (x : Int) : List Int → List Int
  | [] => [x]
  | y :: ys => if y < x then y :: insD x ys else if y = x then y :: ys else x :: y :: ys

theorem insD_len (x : Int) : ∀ l : List Int, (insD x l).length ≤ l.length + 1
  | [] => by simp [insD]
  | y :: ys => by
    have := insD_len x ys
    simp only [insD]
    split
    · simp; omega
    · split <;> simp

theorem F76_end (n : Nat) (x : Int) (l : List Int) (hl : l.length + 1 ≤ 2147483648) (i : Nat) (hi : i ≤ l.length) (h : ∀ y, l[i]? = some y → ¬ y < x) : B76_2 n l x (i : Int) = some (l.take i ++ insD x (l.drop i)) := by
  have ht : (l.take i).length = i := by simp; omega
  have c1 : cut l none (some (i : Int)) = some (l.take i) := by simp [cut, hi]
  have c2 : cut l (some (i : Int)) none = some (l.drop i) := by simp [cut, hi]
  have cat : B76_1 n l x (i : Int) = some (l.take i ++ x :: l.drop i) := by
    unfold B76_1
    rw [c1, Option.bind_some, app_ok _ _ (by simp; omega), Option.bind_some, List.nil_append, app_ok _ _ (by simp; omega), Option.bind_some, c2, Option.bind_some, app_ok _ _ (by simp; omega), Option.bind_some]
    simp
  unfold B76_2
  by_cases hlt : i < l.length
  · have hg : l[i]? = some l[i] := List.getElem?_eq_getElem hlt
    have hq : ((i : Int) < (l.length : Int)) := by omega
    have hd : l.drop i = l[i] :: l.drop (i + 1) := List.drop_eq_getElem_cons hlt
    have hn := h _ hg
    simp only [hq, decide_true, if_true, idx_nat, hg, Option.bind_some]
    by_cases he : l[i] = x
    · simp only [he, beq_self_eq_true, if_true]
      rw [hd, he]
      simp only [insD, Int.lt_irrefl, if_false, if_true]
      have := List.take_append_drop i l
      rw [hd, he] at this
      rw [this]
    · have he' : (l[i] == x) = false := by simp [he]
      simp only [he', Bool.false_eq_true, if_false, cat]
      rw [hd]
      simp only [insD, hn, he, if_false]
  · have hq : ¬ ((i : Int) < (l.length : Int)) := by omega
    have hd : l.drop i = [] := List.drop_of_length_le (by omega)
    simp only [hq, decide_false, Bool.false_eq_true, if_false, cat, hd, insD]

theorem L76_eq (n : Nat) (x : Int) (l : List Int) (hl : l.length + 1 ≤ 2147483648) : ∀ (t : List Int) (i m : Nat), l.drop i = t → i ≤ l.length → t.length < m → L76_0 (B76_2 n) m l x (i : Int) = some (l.take i ++ insD x t)
  | [], i, m + 1, hd, hi, _ => by
    have hle : l.length ≤ i := by simpa using hd
    have hq : ¬ ((i : Int) < (l.length : Int)) := by omega
    simp only [L76_0, B76_0, hq, decide_false, Bool.false_eq_true, if_false]
    rw [F76_end n x l hl i hi (fun y hy => by rw [List.getElem?_eq_none hle] at hy; simp at hy), hd]
  | y :: t, i, m + 1, hd, hi, hm => by
    obtain ⟨h1, h2, h3⟩ := get_drop hd
    have hq : ((i : Int) < (l.length : Int)) := by omega
    simp only [L76_0, B76_0, hq, decide_true, if_true, idx_nat, h1, Option.bind_some]
    by_cases hy : y < x
    · simp only [hy, decide_true, if_true, next_i h3 (by omega : l.length < 4294967296)]
      rw [L76_eq n x l hl t (i + 1) m h2 (by omega) (by simp at hm; omega)]
      have : l.take (i + 1) = l.take i ++ [y] := by rw [List.take_succ, h1]; rfl
      rw [this]
      simp [insD, hy]
    · simp only [hy, decide_false, Bool.false_eq_true, if_false]
      rw [F76_end n x l hl i hi (fun z hz => by rw [h1] at hz; obtain rfl := Option.some.inj hz; exact hy), hd]
  | _, _, 0, _, _, hm => by simp at hm

theorem F76_eq (n : Nat) (x : Int) (l : List Int) (hl : l.length + 1 ≤ 2147483648) (hn : l.length < n) : F76 n l x = some (insD x l) := by
  have := L76_eq n x l hl l 0 n rfl (by omega) hn
  unfold F76 B76_3
  simpa using this

def insAll (l : List Int) (xs : List Int) : List Int := xs.foldl (fun a x => insD x a) l
theorem insAll_append (l xs ys : List Int) : insAll l (xs ++ ys) = insAll (insAll l xs) ys := List.foldl_append
theorem insAll_len : ∀ (xs l : List Int), (insAll l xs).length ≤ l.length + xs.length
  | [], l => by simp [insAll]
  | x :: xs, l => by
    have h1 := insAll_len xs (insD x l)
    have h2 := insD_len x l
    simp only [insAll, List.foldl_cons, List.length_cons] at h1 ⊢
    omega

theorem F54_op (s : TPredicate → List Int → Option (List Int)) (kk : List Int → TPredicate → Option (List Int)) (n : Nat) (os : List TOperand) (ho : os.length ≤ 2) (p : TPredicate) : ∀ (us : List TOperand) (i m : Nat) (a : List Int), os.drop i = us → us.length < m → a.length + us.length + us.length < m → a.length + us.length ≤ 2147483648 →
    L54_0 s kk m a os (os.length : Int) (i : Int) p = kk (insAll a (us.flatMap cO)) p
  | [], i, m + 1, a, hd, _, _, _ => by
    have hle : os.length ≤ i := by simpa using hd
    have hq : ¬ ((i : Int) < (os.length : Int)) := by omega
    simp [L54_0, B54_0, hq, insAll]
  | o :: us, i, m + 1, a, hd, hm, hk, hb => by
    obtain ⟨h1, h2, h3⟩ := get_drop hd
    have hq : ((i : Int) < (os.length : Int)) := by omega
    simp only [List.length_cons] at hm hk hb
    have h4 := insD_len o.fIndex a
    simp only [L54_0, B54_0, hq, decide_true, if_true, idx_nat, h1, Option.bind_some, next_i h3 (by omega : os.length < 4294967296)]
    by_cases c1 : o.fKind = 1
    · by_cases c2 : 0 ≤ o.fIndex
      · have e1 : (o.fKind == 1) = true := by simp [c1]
        have e2 : decide (o.fIndex ≥ 0) = true := by simpa using c2
        simp only [e1, e2, if_true]
        rw [F76_eq m o.fIndex a (by omega) (by omega), Option.bind_some, F54_op s kk n os ho p us (i + 1) m _ h2 (by omega) (by omega) (by omega)]
        simp [cO, c1, c2, insAll]
      · have e1 : (o.fKind == 1) = true := by simp [c1]
        have e2 : decide (o.fIndex ≥ 0) = false := by simpa using c2
        simp only [e1, e2, if_true, Bool.false_eq_true, if_false]
        rw [F54_op s kk n os ho p us (i + 1) m _ h2 (by omega) (by omega) (by omega)]
        simp [cO, c2]
    · have e1 : (o.fKind == 1) = false := by simp [c1]
      simp only [e1, Bool.false_eq_true, if_false]
      rw [F54_op s kk n os ho p us (i + 1) m _ h2 (by omega) (by omega) (by omega)]
      simp [cO, c1]
  | _, _, 0, _, _, hm, _, _ => by simp at hm

theorem L54_1_eq (s : TPredicate → List Int → Option (List Int)) (p : TPredicate) (hl : p.fArgs.length < 4294967296) : ∀ (l : List TPredicate) (i n : Nat) (a : List Int), p.fArgs.drop i = l → l.length < n →
    (∀ x ∈ l, ∀ b : List Int, b.length + szP x + 1 ≤ a.length + szL l → s x b = some (insAll b (cP x))) → L54_1 s (fun a => some a) n a (p.fArgs.length : Int) (i : Int) p = some (insAll a (cL l))
  | [], i, n + 1, a, hd, _, _ => by
    have : p.fArgs.length ≤ i := by simpa using hd
    have h : ¬ ((i : Int) < (p.fArgs.length : Int)) := by omega
    simp [L54_1, B54_1, h, cL, insAll]
  | x :: l, i, n + 1, a, hd, hn, hs => by
    obtain ⟨h1, h2, h3⟩ := get_drop hd
    have h : ((i : Int) < (p.fArgs.length : Int)) := by omega
    have hx := cP_len x
    have hy := insAll_len (cP x) a
    have ih := L54_1_eq s p hl l (i + 1) n (insAll a (cP x)) h2 (by simp at hn; omega) (fun y hy b hb => hs y (by simp [hy]) b (by simp only [szL]; omega))
    simp only [L54_1, B54_1, h, decide_true, if_true, idx_nat, h1, Option.bind_some, hs x (by simp) a (by simp only [szL]; omega), next_i h3 hl]
    rw [ih, ← insAll_append]
    simp [cL]
  | _, _, 0, _, _, hn, _ => by simp at hn

theorem F54_eq : ∀ (n : Nat) (p : TPredicate) (a : List Int), a.length + szP p + 5 ≤ n → n ≤ 2147483648 → F54 n p a = some (insAll a (cP p))
  | 0, _, _, h, _ => by omega
  | n + 1, ⟨op, c, l, r, args⟩, a, h, hb => by
    simp only [szP] at h
    have hlen := szL_len args
    have loop : ∀ b : List Int, b.length ≤ a.length + 2 → B54_3 (F54 n) n b ⟨op, c, l, r, args⟩ = some (insAll b (cL args)) := fun b hbl => by
      unfold B54_3
      refine L54_1_eq (F54 n) ⟨op, c, l, r, args⟩ (by simp only; omega) args 0 n b rfl (by omega) fun x hx d hd => ?_
      have := szL_mem hx
      exact F54_eq n x d (by omega) (by omega)
    simp only [F54, B54_4, cP]
    by_cases hop : op = 3
    · subst hop
      have h1 := cO_len l
      have h2 := cO_len r
      have h3 := insAll_len ([l, r].flatMap cO) a
      have e := F54_op (F54 n) (B54_3 (F54 n) n) n [l, r] (by simp) ⟨3, c, l, r, args⟩ [l, r] 0 n a rfl (by simp; omega) (by simp; omega) (by simp; omega)
      rw [if_pos (show ((3 : Int) == 3) = true from rfl), if_pos rfl]
      refine Eq.trans e ?_
      rw [loop _ (by simp at h3 ⊢; omega), ← insAll_append]
      simp
    · have e0 : (op == 3) = false := by simp [hop]
      simp only [e0, hop, if_false, Bool.false_eq_true]
      rw [loop _ (by omega)]
      simp

/-- Ascending lists with the same members are the same. -/
theorem strict_unique : ∀ {xs ys : List Int}, xs.Pairwise (· < ·) → ys.Pairwise (· < ·) → (∀ x, x ∈ xs ↔ x ∈ ys) → xs = ys
  | [], [], _, _, _ => rfl
  | [], y :: ys, _, _, h => by have := (h y).2 (by simp); simp at this
  | x :: xs, [], _, _, h => by have := (h x).1 (by simp); simp at this
  | x :: xs, y :: ys, hx, hy, h => by
    rw [List.pairwise_cons] at hx hy
    have hxy : x = y := by
      have h1 := (h x).1 (by simp)
      have h2 := (h y).2 (by simp)
      simp only [List.mem_cons] at h1 h2
      rcases h1 with h1 | h1
      · exact h1
      · rcases h2 with h2 | h2
        · exact h2.symm
        · have := hy.1 x h1
          have := hx.1 y h2
          omega
    subst hxy
    rw [strict_unique hx.2 hy.2 fun z => ⟨fun hz => ?_, fun hz => ?_⟩]
    · have := (h z).1 (by simp [hz])
      simp only [List.mem_cons] at this
      rcases this with e | e
      · have := hx.1 z hz; omega
      · exact e
    · have := (h z).2 (by simp [hz])
      simp only [List.mem_cons] at this
      rcases this with e | e
      · have := hy.1 z hz; omega
      · exact e

theorem insD_mem (x z : Int) : ∀ l : List Int, z ∈ insD x l ↔ z = x ∨ z ∈ l
  | [] => by simp [insD]
  | y :: ys => by
    have ih := insD_mem x z ys
    simp only [insD]
    split
    · simp only [List.mem_cons, ih]
      exact ⟨fun h => h.elim (fun h => .inr (.inl h)) (fun h => h.elim .inl (fun h => .inr (.inr h))), fun h => h.elim (fun h => .inr (.inl h)) (fun h => h.elim .inl (fun h => .inr (.inr h)))⟩
    · split
      · rename_i h
        subst h
        simp only [List.mem_cons]
        exact ⟨.inr, fun h => h.elim .inl id⟩
      · simp only [List.mem_cons]
theorem insD_strict (x : Int) : ∀ l : List Int, l.Pairwise (· < ·) → (insD x l).Pairwise (· < ·)
  | [], _ => by simp [insD]
  | y :: ys, h => by
    have h' := List.pairwise_cons.1 h
    simp only [insD]
    split
    · rename_i hlt
      refine List.pairwise_cons.2 ⟨fun z hz => ?_, insD_strict x ys h'.2⟩
      rcases (insD_mem x z ys).1 hz with rfl | hz
      · exact hlt
      · exact h'.1 z hz
    · split
      · exact h
      · refine List.pairwise_cons.2 ⟨fun z hz => ?_, h⟩
        simp only [List.mem_cons] at hz
        rcases hz with rfl | hz
        · omega
        · have := h'.1 z hz; omega
theorem insAll_spec : ∀ (xs l : List Int), l.Pairwise (· < ·) → (insAll l xs).Pairwise (· < ·) ∧ ∀ z, z ∈ insAll l xs ↔ z ∈ l ∨ z ∈ xs
  | [], l, h => by simp [insAll, h]
  | x :: xs, l, h => by
    obtain ⟨h1, h2⟩ := insAll_spec xs (insD x l) (insD_strict x l h)
    refine ⟨h1, fun z => ?_⟩
    have := h2 z
    simp only [insAll, List.foldl_cons] at this ⊢
    rw [this, insD_mem, List.mem_cons]
    exact ⟨fun h => h.elim (fun h => h.elim (fun h => .inr (.inl h)) .inl) (fun h => .inr (.inr h)), fun h => h.elim (fun h => .inl (.inr h)) (fun h => h.elim (fun h => .inl (.inl h)) .inr)⟩

theorem compactUpTo_spec (d : Array Int) (hs : ∀ i j, i ≤ j → j < d.size → d[i]! ≤ d[j]!) : ∀ m, m ≤ d.size → (Lib.compactUpTo d m).Pairwise (· < ·) ∧ ∀ z, z ∈ Lib.compactUpTo d m ↔ ∃ j, j < m ∧ d[j]! = z
  | 0, _ => by simp [Lib.compactUpTo]
  | m + 1, hm => by
    obtain ⟨h1, h2⟩ := compactUpTo_spec d hs m (by omega)
    rw [Lib.compactUpTo_succ]
    by_cases hk : Lib.keeps d m = true
    · rw [if_pos hk]
      refine ⟨List.pairwise_append.2 ⟨h1, by simp, fun a ha b hb => ?_⟩, fun z => ?_⟩
      · simp only [List.mem_singleton] at hb
        subst hb
        obtain ⟨j, hj, rfl⟩ := (h2 a).1 ha
        have hk := of_decide_eq_true hk
        rcases hk with hk | hk
        · omega
        · have e1 := hs j (m - 1) (by omega) (by omega)
          have e2 := hs (m - 1) m (by omega) (by omega)
          omega
      · rw [List.mem_append, h2]
        constructor
        · rintro (⟨j, hj, rfl⟩ | hz)
          · exact ⟨j, by omega, rfl⟩
          · simp only [List.mem_singleton] at hz
            exact ⟨m, by omega, hz.symm⟩
        · rintro ⟨j, hj, rfl⟩
          by_cases e : j = m
          · subst e; right; simp
          · left; exact ⟨j, by omega, rfl⟩
    · rw [if_neg hk, List.append_nil]
      refine ⟨h1, fun z => ?_⟩
      rw [h2]
      have hk' : m ≠ 0 ∧ d[m]! = d[m - 1]! := by
        unfold Lib.keeps at hk
        rw [decide_eq_true_eq] at hk
        exact ⟨fun e => hk (.inl e), Classical.byContradiction fun e => hk (.inr e)⟩
      constructor
      · rintro ⟨j, hj, rfl⟩; exact ⟨j, by omega, rfl⟩
      · rintro ⟨j, hj, rfl⟩
        by_cases e : j = m
        · subst e; exact ⟨j - 1, by omega, hk'.2.symm⟩
        · exact ⟨j, by omega, rfl⟩

theorem compact_spec (xs : List Int) (h : xs.Pairwise (· ≤ ·)) : (Lib.compact xs).Pairwise (· < ·) ∧ ∀ z, z ∈ Lib.compact xs ↔ z ∈ xs := by
  have hg : ∀ i, i < xs.length → xs.toArray[i]! = xs[i]! := fun i hi => by simp
  obtain ⟨h1, h2⟩ := compactUpTo_spec xs.toArray (fun i j hij hj => by
    have hj' : j < xs.length := by simpa using hj
    by_cases e : i = j
    · subst e; exact Int.le_refl _
    · have := List.pairwise_iff_getElem.1 h i j (by omega) hj' (by omega)
      have e1 : xs.toArray[i]! = xs[i] := by simp [show i < xs.length by omega]
      have e2 : xs.toArray[j]! = xs[j] := by simp [hj']
      rw [e1, e2]; exact this) xs.length (by simp)
  refine ⟨h1, fun z => (h2 z).trans ⟨?_, fun hz => ?_⟩⟩
  · rintro ⟨j, hj, rfl⟩
    have : xs.toArray[j]! = xs[j] := by simp [hj]
    rw [this]; exact List.getElem_mem hj
  · obtain ⟨j, hj, rfl⟩ := List.mem_iff_getElem.1 hz
    exact ⟨j, hj, by simp [hj]⟩

/-- The columns of a predicate, ascending. -/
def colsP (p : TPredicate) : List Int := insAll [] (cP p)
theorem compact_sort (xs : List Int) : Lib.compact (sortI xs) = insAll [] xs := by
  obtain ⟨h1, h2⟩ := compact_spec (sortI xs) (sortI_sorted xs)
  obtain ⟨h3, h4⟩ := insAll_spec xs [] (by simp)
  refine strict_unique h1 h3 fun z => ?_
  rw [h2, h4, (sortI_perm xs).mem_iff]
  simp

theorem F25_eq (n : Nat) (p : TPredicate) (hn : szP p + 3 ≤ n) (hb : szP p ≤ 10000000) : F25 n p = some (colsP p) := by
  have h1 := cP_len p
  have h2 : (sortI (cP p)).length = (cP p).length := (sortI_perm _).length_eq
  unfold F25 B25_0
  rw [F51_eq n p [] hn (by simp; omega), Option.bind_some, List.nil_append]
  have e1 : F52 n (cP p) = some (sortI (cP p)) := by unfold F52; rw [if_pos (by omega)]
  have e2 : F53 n (sortI (cP p)) = some ((Lib.compact (sortI (cP p))).length, Lib.compact (sortI (cP p)) ++ List.replicate ((sortI (cP p)).length - (Lib.compact (sortI (cP p))).length) 0) := by unfold F53; rw [if_pos (by omega)]
  rw [e1, Option.bind_some, e2, Option.bind_some]
  unfold cutN
  rw [if_pos (by simp), Option.bind_some]
  rw [List.take_left' rfl, compact_sort]
  rfl

theorem F27_eq (n : Nat) (p : TPredicate) (hn : szP p + 5 ≤ n) (hb : n ≤ 2147483648) : F27 n p = some (colsP p) := by
  unfold F27 B27_0
  rw [F54_eq n p [] (by simp; omega) hb]
  rfl

theorem L26_eq (a : List Int) (hl : a.length < 4294967296) : ∀ (l : List Int) (i n : Nat), a.drop i = l → l.length < n → L26_0 (some true) n a a (a.length : Int) (i : Int) = some true
  | [], i, n + 1, hd, _ => by
    have : a.length ≤ i := by simpa using hd
    have h : ¬ ((i : Int) < (a.length : Int)) := by omega
    simp [L26_0, B26_0, h]
  | x :: l, i, n + 1, hd, hn => by
    obtain ⟨h1, h2, h3⟩ := get_drop hd
    have h : ((i : Int) < (a.length : Int)) := by omega
    simp only [L26_0, B26_0, h, decide_true, if_true, idx_nat, h1, Option.bind_some, bne_self_eq_false, Bool.false_eq_true, if_false, next_i h3 hl]
    exact L26_eq a hl l (i + 1) n h2 (by simp at hn; omega)
  | _, _, 0, _, hn => by simp at hn
theorem F26_same (n : Nat) (a : List Int) (hn : a.length < n) (hl : a.length < 4294967296) : F26 n a a = some true := by
  unfold F26 B26_2
  simp only [bne_self_eq_false, Bool.false_eq_true, if_false]
  exact L26_eq a hl a 0 n rfl hn

/-- No other cell matters. -/
theorem vDen_cols {a b : List TValue} {o : TOperand} (h : ∀ i ∈ cO o, vAt a i = vAt b i) : vDen o a [] = vDen o b [] := by
  unfold vDen
  by_cases h1 : o.fKind = 1
  · have e3 : (o.fKind == 3) = false := by simp [h1]
    have e2 : (o.fKind == 2) = false := by simp [h1]
    have e1 : (o.fKind == 1) = true := by simp [h1]
    simp only [e1, e2, e3, Bool.false_eq_true, if_false, if_true]
    by_cases h2 : 0 ≤ o.fIndex
    · exact h _ (by simp [cO, h1, h2])
    · rw [vAt_out (.inl (by omega)), vAt_out (.inl (by omega))]
  · have e1 : (o.fKind == 1) = false := by simp [h1]
    simp only [e1, Bool.false_eq_true, if_false]
mutual
theorem pH_cols {a b : List TValue} : ∀ p : TPredicate, (∀ i ∈ cP p, vAt a i = vAt b i) → pH a [] p = pH b [] p
  | ⟨op, c, l, r, args⟩, h => by
    have hL : ∀ i ∈ cL args, vAt a i = vAt b i := fun i hi => h i (by simp [cP, hi])
    obtain ⟨h1, h2, h3⟩ := pL_cols args hL
    unfold pH
    by_cases hop : op = 3
    · have e : op = 3 → ∀ i ∈ cO l ++ cO r, vAt a i = vAt b i := fun e i hi => h i (by simp only [cP, e, if_true]; exact List.mem_append_left _ hi)
      rw [vDen_cols fun i hi => e hop i (List.mem_append_left _ hi), vDen_cols fun i hi => e hop i (List.mem_append_right _ hi), h1, h2, h3]
    · have e0 : (op == 3) = false := by simp [hop]
      simp only [e0, Bool.false_eq_true, if_false, h1, h2, h3]
theorem pL_cols {a b : List TValue} : ∀ xs : List TPredicate, (∀ i ∈ cL xs, vAt a i = vAt b i) → pAll a [] xs = pAll b [] xs ∧ pAny a [] xs = pAny b [] xs ∧ pNot a [] xs = pNot b [] xs
  | [], _ => by simp [pAll, pAny, pNot]
  | x :: xs, h => by
    have e1 := pH_cols x fun i hi => h i (by simp [cL, hi])
    obtain ⟨h1, h2, h3⟩ := pL_cols xs fun i hi => h i (by simp [cL, hi])
    simp only [pAll, pAny, pNot, e1, h1, h2, and_self]
end

theorem cO_range {cols : List Int} {o : TOperand} (h : oKind cols [] o ≠ 0) : ∀ i ∈ cO o, 0 ≤ i ∧ i < cols.length := by
  intro i hi
  unfold cO at hi
  split at hi
  · rename_i hc
    simp only [List.mem_singleton] at hi
    subst hi
    have e3 : (o.fKind == 3) = false := by simp [hc.1]
    have e2 : (o.fKind == 2) = false := by simp [hc.1]
    have e1 : (o.fKind == 1) = true := by simp [hc.1]
    unfold oKind at h
    simp only [e1, e2, e3, Bool.false_eq_true, if_false, if_true] at h
    obtain ⟨h1, h2, _⟩ := kAt_range h
    exact ⟨h1, h2⟩
  · simp at hi
mutual
theorem cP_range {cols : List Int} : ∀ p : TPredicate, pV cols [] p = true → ∀ i ∈ cP p, 0 ≤ i ∧ i < cols.length
  | ⟨op, c, l, r, args⟩, h, i, hi => by
    unfold pV at h
    simp only [cP, List.mem_append] at hi
    split at h
    · rename_i ho
      simp only [Bool.and_eq_true, beq_iff_eq, List.length_eq_zero_iff] at h
      obtain ⟨_, rfl⟩ := h
      have hop : ¬ op = 3 := by
        intro e; subst e; simp at ho
      simp [hop, cL] at hi
    · split at h
      · rename_i _ ho
        have hop : op = 3 := by simpa using ho
        simp only [Bool.and_eq_true, beq_iff_eq, List.length_eq_zero_iff, bne_iff_ne, ne_eq] at h
        obtain ⟨⟨⟨⟨rfl, _⟩, _⟩, h1⟩, h2⟩ := h
        simp only [hop, if_true, List.mem_append, cL, List.not_mem_nil, or_false] at hi
        rcases hi with hi | hi
        · exact cO_range h1 i hi
        · exact cO_range (by rw [← h2]; exact h1) i hi
      · rename_i _ ho
        have hop : ¬ op = 3 := by simpa using ho
        simp only [hop, if_false, List.not_mem_nil, false_or] at hi
        split at h
        · simp only [Bool.and_eq_true] at h
          exact cL_range args h.2 i hi
        · split at h
          · simp only [Bool.and_eq_true] at h
            exact cL_range args h.2.2 i hi
          · simp at h
theorem cL_range {cols : List Int} : ∀ xs : List TPredicate, pVs cols [] xs = true → ∀ i ∈ cL xs, 0 ≤ i ∧ i < cols.length
  | [], _, i, hi => by simp [cL] at hi
  | x :: xs, h, i, hi => by
    unfold pVs at h
    simp only [Bool.and_eq_true] at h
    simp only [cL, List.mem_append] at hi
    rcases hi with hi | hi
    · exact cP_range x h.1 i hi
    · exact cL_range xs h.2 i hi
end

theorem vAt_get {l : List TValue} {i : Int} (h : 0 ≤ i) : vAt l i = (l[i.toNat]?).getD zv := by simp [vAt, h]

theorem L7_ok (n : Nat) (p : TPredicate) (a : List TValue) (cs : List Int) (hc : cs.length < 4294967296) (hr : ∀ i ∈ cs, 0 ≤ i ∧ i < a.length)
    (hk : ∀ b : List TValue, b.length = a.length → (∀ i ∈ cs, vAt b i = vAt a i) → B7_1 n a p b = some true) : ∀ (l : List Int) (i m : Nat) (b : List TValue), cs.drop i = l → l.length < m → b.length = a.length →
    (∀ j ∈ cs.take i, vAt b j = vAt a j) → L7_0 (B7_1 n) m a cs (cs.length : Int) (i : Int) p b = some true
  | [], i, m + 1, b, hd, _, hb, hj => by
    have hle : cs.length ≤ i := by simpa using hd
    have h : ¬ ((i : Int) < (cs.length : Int)) := by omega
    simp only [L7_0, B7_0, h, decide_false, Bool.false_eq_true, if_false]
    exact hk b hb (by rw [List.take_of_length_le hle] at hj; exact hj)
  | x :: l, i, m + 1, b, hd, hm, hb, hj => by
    obtain ⟨h1, h2, h3⟩ := get_drop hd
    have h : ((i : Int) < (cs.length : Int)) := by omega
    obtain ⟨r1, r2⟩ := hr x (List.mem_of_getElem? h1)
    have hlt : x.toNat < b.length := by omega
    have hbn : bnd b.length x = some x.toNat := by simp [bnd, r1, hlt]
    have hge : ¬ (x ≥ (a.length : Int)) := by omega
    have hset : setAt b x.toNat (vAt a x) = some (b.set x.toNat (vAt a x)) := by simp [setAt, hlt]
    simp only [L7_0, B7_0, h, decide_true, if_true, idx_nat, h1, Option.bind_some, hge, decide_false, Bool.false_eq_true, if_false, idx_some r1 r2, hbn, List.getElem?_eq_getElem hlt, hset, next_i h3 hc]
    refine L7_ok n p a cs hc hr hk l (i + 1) m _ h2 (by simp at hm; omega) (by simp [hb]) fun j hj' => ?_
    have ht : cs.take (i + 1) = cs.take i ++ [x] := by rw [List.take_succ, h1]; rfl
    rw [ht, List.mem_append, List.mem_singleton] at hj'
    have hj0 : 0 ≤ j := by
      rcases hj' with hj' | rfl
      · exact (hr j (List.mem_of_mem_take hj')).1
      · exact r1
    by_cases e : j = x
    · subst e
      rw [vAt_get hj0, List.getElem?_set_self hlt]
      rfl
    · rw [vAt_get hj0, List.getElem?_set_ne (by omega), ← vAt_get hj0]
      rcases hj' with hj' | hj'
      · exact hj j hj'
      · exact absurd hj' e
  | _, _, 0, _, _, hm, _, _ => by simp at hm

theorem columns (codes : List Int) (hb : ∀ x ∈ codes, 0 ≤ x ∧ x ≤ 255) (raw : TPredicate) (hraw : szP raw ≤ 1100000) : F7 3000000 codes raw = some true := by
  have key : Ok (F7 3000000 codes raw) (fun r => r = true) := by
    unfold F7 B7_2
    refine Ok.bind (F10_ok 3000000 codes 160 hb (by omega) (by omega)) fun c hc => ?_
    refine Ok.bind (F11_ok 3000000 (by omega) c 5 (by omega) hc) fun k ⟨hk, ok, lk⟩ => ?_
    refine Ok.bind (F12_ok k.1 [] ok rfl (by omega) (by simp) 3 3000000 k.2 hk (by omega) (by omega) (by omega) (by omega)) fun p ⟨hp, vp, sp⟩ => ?_
    obtain ⟨_, _, _, _, c5⟩ := chk_valid7 vp
    have n1 := cP_len p.1
    have n2 := insAll_len (cP p.1) []
    have n3 := cP_len raw
    have n4 := insAll_len (cP raw) []
    have n5 : (colsP p.1).length < 3000000 := by unfold colsP; simp at n2; omega
    have n6 : (colsP raw).length < 3000000 := by unfold colsP; simp at n4; omega
    simp only [F25_eq 3000000 p.1 (by omega) (by omega), F27_eq 3000000 p.1 (by omega) (by omega), Option.bind_some, F26_same 3000000 (colsP p.1) n5 (by omega), Bool.not_true, Bool.false_eq_true, if_false,
      F25_eq 3000000 raw (by omega) (by omega), F27_eq 3000000 raw (by omega) (by omega), F26_same 3000000 (colsP raw) n6 (by omega)]
    refine Ok.bind (F17_ok 3000000 (by omega) p.2 k.1 0 3 ok (by omega) hp) fun r ⟨hr, lr⟩ => ?_
    refine Ok.bind (F17_ok 3000000 (by omega) r.2 k.1 0 3 ok (by omega) hr) fun q ⟨hq, lq⟩ => ?_
    have mem : ∀ z, z ∈ colsP p.1 ↔ z ∈ cP p.1 := fun z => by
      have := (insAll_spec (cP p.1) [] (by simp)).2 z
      simpa [colsP] using this
    refine ⟨true, L7_ok 3000000 p.1 r.1 (colsP p.1) (by omega) (fun i hi => ?_) (fun b hb hi => ?_) (colsP p.1) 0 3000000 q.1 rfl n5 (by omega) (by simp), rfl⟩
    · have := cP_range p.1 c5 i ((mem i).1 hi)
      omega
    · unfold B7_1
      rw [show F14 3000000 = some true from begun_ok 2999940]
      simp only [Option.bind_some, if_true, F19_eq r.1 [] 3000000 p.1 (by omega) (by omega), F19_eq b [] 3000000 p.1 (by omega) (by omega)]
      rw [pH_cols p.1 fun i hi' => (hi i ((mem i).2 hi')).symm]
      simp
  obtain ⟨r, h, rfl⟩ := key
  exact h

theorem plain7 (codes : List Int) (raw : TPredicate) (h0 : okL [.slice .sh (rows5 codes)]) (h1 : okL (enc28 raw)) (hb : bulkL [.slice .sh (rows5 codes)] + bulkL (enc28 raw) ≤ 1048576) :
    CallOK Try.prog ann 7 [.slice .sh (rows5 codes), .agg (enc28 raw)] (.bool true) [] :=
  ev7 3000000 codes raw true (columns codes (bytes_ok h0.1) raw (by have := sz_bulk raw; omega))
end Go.Proofs.Ytalbakjfbgkjjaa
