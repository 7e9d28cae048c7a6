import Derived.Test.YtalbakjfbgkjjaaAbsO
set_option linter.unusedSimpArgs false
namespace Go.Abs
open Go.RowKit

variable {P : Program} {A : Ann} {g : Gh} {st : AS} {a : Act} {w : World} {T : Nat → AV} {B : Nat → Option (List AV)}

/-- A weaker view of a value: nothing of it is kept, or it is shared, or an empty nil slice is taken for an own one. -/
inductive WV : AV → AV → Prop
  | same (x) : WV x x
  | undef (x) : WV x .undef
  | norm (x) : WV x x.norm
  | own (e) : WV (.slice .nil []) (.slice (.own e) [])
  | ex (e) : WV (.slice .nil []) (.ex e [])

/-- The same of a cell. -/
inductive WC : AV → AV → Prop
  | same (x) : WC x x
  | undef (x) : WC x .undef
  | norm (x) : WC x x.norm
  | own (e) : WC (.slice .nil []) (.slice (.own e) [])

inductive WVs : List AV → List AV → Prop
  | nil : WVs [] []
  | cons {x y xs ys} (h : WC x y) (t : WVs xs ys) : WVs (x :: xs) (y :: ys)

structure Wkn (st st' : AS) : Prop where
  t : ∀ t, WV (st.tmps t) (st'.tmps t)
  b : ∀ k cs', st'.box k = some cs' → ∃ cs, st.box k = some cs ∧ WVs cs cs'

theorem norm_notOwn (x : AV) : ∀ e rows, x.norm ≠ .slice (.own e) rows := by intro e rows; cases x <;> simp [AV.norm]
theorem norm_loc {x : AV} (h : x.isLoc = true) : x.norm = x := by cases x <;> first | rfl | simp [AV.isLoc] at h
theorem norm_notLoc {x : AV} (h : x.isLoc = false) : x.norm.isLoc = false := by cases x <;> first | rfl | simp [AV.isLoc] at h
theorem norm_key (x : AV) : x.norm.key = x.key := by cases x <;> rfl

theorem WV.key {x y : AV} (h : WV x y) {k : Nat} (hk : y.key = some k) : x.key = some k := by
  cases h with
  | same => exact hk
  | undef => simp at hk
  | norm => rw [norm_key] at hk; exact hk
  | own => simp at hk
  | ex => simp at hk
theorem WC.key {x y : AV} (h : WC x y) {k : Nat} (hk : y.key = some k) : x.key = some k := by
  cases h with
  | same => exact hk
  | undef => simp at hk
  | norm => rw [norm_key] at hk; exact hk
  | own => simp at hk

theorem nil_val {μ : Mem} {v : Value} (h : DR μ v (.slice .nil [])) : v = .slice none 0 0 := by
  cases h with
  | sliceE hn => obtain ⟨rfl, rfl⟩ := hn rfl; rfl

theorem WV.tr {x y : AV} (h : WV x y) {t : Nat} {v : Value} (ht : TR P g w t v x) : TR P g w t v y := by
  cases h with
  | same => exact ht
  | undef => exact TR.undef
  | norm =>
    by_cases hl : x.isLoc = true
    · rw [norm_loc hl]; exact ht
    · have hl : x.isLoc = false := by simpa using hl
      exact TR.of P (norm_notLoc hl) (ht.dr P hl).1.norm (OwnOK.triv P (norm_notOwn x))
  | own e =>
    have hv := nil_val ht.1
    subst hv
    exact ⟨.sliceE (by simp), fun e' rows he => .inl ⟨rfl, by simp at he; exact he.2⟩⟩
  | ex e =>
    have hv := nil_val ht.1
    subst hv
    exact .inl ⟨rfl, rfl⟩

theorem WC.cv {x y : AV} (h : WC x y) {en : Ent} {v : Value} (hc : CV P g w en v x) : CV P g w en v y := by
  cases h with
  | same => exact hc
  | undef => exact CV.of P (.undef _) (OwnOK.triv P (by simp))
  | norm =>
    cases hk : x.key with
    | some k =>
      have : x.norm = x := by cases x <;> first | rfl | simp at hk
      rw [this]; exact hc
    | none => exact CV.of P (hc.dr P hk).1.norm (OwnOK.triv P (norm_notOwn x))
  | own e =>
    have hv := nil_val (hc.dr P rfl).1
    subst hv
    exact CV.of P (.sliceE (by simp)) (fun e' rows he => .inl ⟨rfl, by simp at he; exact he.2⟩)

theorem WVs.length : ∀ {xs ys : List AV}, WVs xs ys → xs.length = ys.length
  | _, _, .nil => rfl
  | _, _, .cons _ t => by simp [t.length]
theorem WVs.get : ∀ {xs ys : List AV}, WVs xs ys → ∀ {j : Nat} {y : AV}, ys[j]? = some y → ∃ x, xs[j]? = some x ∧ WC x y
  | _, _, .nil, _, _, h => by simp at h
  | _, _, .cons h1 t, j, y, h => by
    cases j with
    | zero => simp at h; subst h; exact ⟨_, rfl, h1⟩
    | succ j => simp at h; obtain ⟨x, a, b⟩ := t.get h; exact ⟨x, by simpa using a, b⟩
theorem WVs.refl : ∀ xs : List AV, WVs xs xs
  | [] => .nil
  | _ :: xs => .cons (.same _) (WVs.refl xs)

theorem Rel.wkn {st' : AS} (h : Rel P A g st a w) (hw : Wkn st st') : Rel P A g st' a w := by
  refine ⟨h.sz, h.df, fun t => (hw.t t).tr (h.tm t), fun t k he => h.rt t k ((hw.t t).key he), fun k cs' hb => ?_, h.mu, h.kl, h.np, fun k cs' j y k' hb hy hk => ?_⟩
  · obtain ⟨cs, hb', hc⟩ := hw.b k cs' hb
    have hx := h.bx k cs hb'
    have hl := hc.length
    have hne : cs' ≠ [] → cs ≠ [] := fun q e => q (List.eq_nil_of_length_eq_zero (by rw [← hl, e]; rfl))
    refine ⟨fun q => hx.own (hne q), fun q => ?_, fun q => hx.free (hne q)⟩
    obtain ⟨cur, e, m1, m2, m3⟩ := hx.mem (hne q)
    refine ⟨cur, e, m1, by omega, fun j v y hv hy => ?_⟩
    obtain ⟨x, hx1, hx2⟩ := hc.get hy
    obtain ⟨q1, q2⟩ := m3 j v x hv hx1
    exact ⟨q1, hx2.cv q2⟩
  · obtain ⟨cs, hb', hc⟩ := hw.b k cs' hb
    obtain ⟨x, hx1, hx2⟩ := hc.get hy
    exact h.ct k cs j x k' hb' hx1 (hx2.key hk)

/-- A fresh slice of slot d becomes a slice over the box of its root. -/
def unpackU (A : Ann) (d : Nat) (e : TypeId) (rows : List (List AV)) (B : Nat → Option (List AV)) : Option Ups :=
  if A.np ≤ A.root d ∧ A.n ≤ A.root d then
    match A.holders (A.root d) with
    | [] => some ⟨(d, .ms (A.root d) e 0 rows.length) :: (A.derived (A.root d)).map (fun u => (u, .undef)), [(A.root d, flatS rows)]⟩
    | [k] =>
      match B k with
      | some cs => some ⟨(d, .ms (A.root d) e 0 rows.length) :: (A.derived (A.root d)).map (fun u => (u, .undef)), [(A.root d, flatS rows), (k, cleanK (A.root d) cs)]⟩
      | none => none
    | _ => none
  else none

theorem lookup_undefs (l : List Nat) (t : Nat) : (l.map fun u => (u, AV.undef)).lookup t = if t ∈ l then some .undef else none := by
  induction l with
  | nil => simp
  | cons u l ih =>
    rw [List.map_cons, lookup_cons_nat, ih]
    by_cases h : t = u <;> simp [h]

theorem unpackU_sound {st0 : AS} {d : Nat} {e : TypeId} {rows : List (List AV)} (h : Rel P A g (st0.put d (.ex e rows)) a w) (hs : Sees T B st0) {u : Ups} (hu : unpackU A d e rows B = some u) : ∃ g', Rel P A g' (st0.apply u) a w ∧ Fr w g w g' := by
  unfold unpackU at hu
  split at hu
  · rename_i hc
    obtain ⟨hnp, hn⟩ := hc
    obtain ⟨g', h1, h2⟩ := h.unpack (d := d) (K := A.root d) (e := e) (rows := rows) (by simp [AS.tmps_put]) rfl hnp
    refine ⟨g', ?_, h2⟩
    have hslot : ((st0.put d (.ex e rows)).tmps (A.root d)).key ≠ some (A.root d) := by
      intro hk
      have ht := h.tm (A.root d)
      have hv : a.tmps.getD (A.root d) undef = undef := by
        have := h.sz
        rw [Array.getD_eq_getD_getElem?, Array.getElem?_eq_none (by omega)]
        rfl
      rw [hv] at ht
      generalize (st0.put d (.ex e rows)).tmps (A.root d) = x at hk ht
      cases x with
      | loc k off => simp [TR, undef] at ht
      | ms k e lo n => rcases ht with ⟨_, q⟩ | ⟨cap, _, q⟩ <;> simp [undef] at q
      | _ => simp at hk
    have ts : ∀ t, WV (((((st0.put d (.ex e rows)).cut A (A.root d)).setBox (A.root d) (flatS rows)).put d (.ms (A.root d) e 0 rows.length)).tmps t)
        ((((d, AV.ms (A.root d) e 0 rows.length) :: (A.derived (A.root d)).map (fun u => (u, .undef))).lookup t).getD (st0.tmps t)) := by
      intro t
      rw [lookup_cons_nat, lookup_undefs, AS.tmps_put]
      by_cases htd : t = d
      · simp only [htd, if_true, Option.getD_some]; exact .same _
      · simp only [htd, if_false]
        by_cases hm : t ∈ A.derived (A.root d)
        · simp only [hm, if_true, Option.getD_some]; exact .undef _
        · simp only [hm, if_false, Option.getD_none]
          have e1 : (st0.put d (.ex e rows)).tmps t = st0.tmps t := by simp [AS.tmps_put, htd]
          simp only [AS.setBox, AS.cut, hm, false_or]
          rw [e1]
          split
          · rename_i htk
            rw [if_neg (by rw [← e1, htk]; exact hslot)]
            exact .same _
          · exact .same _
    split at hu
    · rename_i hho
      simp at hu; subst hu
      refine h1.wkn ⟨ts, fun k cs' hk => ⟨cs', ?_, WVs.refl _⟩⟩
      simp only [AS.apply, lookup_cons_nat, List.lookup_nil] at hk
      simp only [AS.put, AS.setBox, AS.cut, hho, List.not_mem_nil, if_false]
      by_cases hkk : k = A.root d
      · simp [hkk] at hk ⊢; exact hk
      · simp [hkk] at hk ⊢; exact hk
    · rename_i k0 hho
      split at hu
      · rename_i cs hB
        have hb0 := hs.box hB
        simp at hu; subst hu
        refine h1.wkn ⟨ts, fun k cs' hk => ⟨cs', ?_, WVs.refl _⟩⟩
        simp only [AS.apply, lookup_cons_nat, List.lookup_nil] at hk
        simp only [AS.put, AS.setBox, AS.cut, hho, List.mem_singleton]
        by_cases hkk : k = A.root d
        · simp [hkk] at hk ⊢; exact hk
        · by_cases hk0 : k = k0
          · subst hk0
            simp [hkk] at hk ⊢
            exact ⟨cs, hb0, hk⟩
          · simp [hkk, hk0] at hk ⊢; exact hk
      · simp at hu
    · simp at hu
  · simp at hu
/-- An exclusive slice is seen as an own one. -/
theorem Rel.freezeEx (h : Rel P A g st a w) {d : Nat} {e : TypeId} {rows : List (List AV)} (hd : st.tmps d = .ex e rows) : ∃ g', Rel P A g' (st.put d (.slice (.own e) rows)) a w ∧ Fr w g w g' := by
  have htr := h.tm d
  rw [hd] at htr
  have fin : ∀ g', Rel P A g' (st.put d .undef) a w → TR P g' w d (a.tmps.getD d undef) (.slice (.own e) rows) → Rel P A g' (st.put d (.slice (.own e) rows)) a w := by
    intro g' q1 q2
    refine ⟨q1.sz, q1.df, fun t => ?_, fun t k he => ?_, q1.bx, q1.mu, q1.kl, q1.np, q1.ct⟩
    · rw [AS.tmps_put]
      split
      · rename_i e; subst e; exact q2
      · rename_i hne
        have := q1.tm t
        rw [AS.tmps_put, if_neg hne] at this
        exact this
    · rw [AS.tmps_put] at he
      split at he
      · simp at he
      · rename_i hne
        exact q1.rt t k (by rw [AS.tmps_put, if_neg hne]; exact he)
  rcases (htr : ExOK P g w (.tmp d) (a.tmps.getD d undef) e rows) with ⟨hv, hr⟩ | ⟨b, cap, cur, hv, hk, hheap, r1, r2, r3, r4, r5, r6⟩
  · subst hr
    exact ⟨g, fin g (h.forget d) ⟨by rw [hv]; exact .sliceE (by simp), fun e' rows' he => .inl ⟨hv, by simp at he; exact he.2⟩⟩, Fr.refl _ _⟩
  · let vs := cur.toList.take (rows.length * P.cellsOf e)
    have hvl : vs.length = rows.length * P.cellsOf e := by
      simp only [vs, List.length_take, Array.length_toList, r3]; exact Nat.min_eq_left (Nat.mul_le_mul_right _ r1)
    let g' : Gh := ⟨g.ρ, g.κ, fun c o => if c = b then vs[o]? else g.μ c o, g.np⟩
    have hle : Mem.le g.μ g'.μ := by
      intro c o v hm
      have : c ≠ b := fun he => by subst he; rw [r4] at hm; simp at hm
      simp [g', this, hm]
    have hkeep : ∀ x, x ≠ .tmp d → Keeps g w g' w x := by
      intro x hx c hc
      have : c ≠ b := fun he => by subst he; rw [hk] at hc; exact hx (by simpa using hc.symm)
      exact ⟨hc, rfl, fun o => by simp [g', this]⟩
    have h2 : Rel P A g' (st.put d .undef) a w := by
      refine (h.forget d).turn hle (fun _ _ => rfl) (fun _ _ _ => rfl) (fun _ _ _ _ _ _ _ _ => rfl) (fun t ht => hkeep _ (fun he => ?_)) (fun k _ => hkeep _ (by simp)) (fun k j _ => hkeep _ (by simp)) (fun c o v hm => ?_) h.kl rfl
      · simp at he; subst he; simp [AS.tmps_put] at ht
      · simp only [g'] at hm
        split at hm
        · rename_i he
          subst he
          rw [cell_heap hheap]
          simp only [vs, List.getElem?_take] at hm
          split at hm
          · simpa using hm
          · simp at hm
        · exact h.mu c o v hm
    refine ⟨g', fin g' h2 ⟨?_, fun e' rows' he => ?_⟩, ⟨rfl, rfl, rfl, Nat.le_refl _, hle, fun c hc hn => ⟨rfl, fun o => ?_, hn⟩, rfl, fun _ _ => rfl⟩⟩
    · rw [hv]
      cases hrows : rows with
      | nil => exact .sliceE (by simp)
      | cons r rs =>
        rw [hrows] at r5
        refine .slice (by simp) (fun x hx => by rw [r5 x (by simp [hx]), r5 r (by simp)]) (by simp) (by rw [← hrows]; exact r1) (CellsAt.mk fun j x hx => ?_)
        rw [← hrows] at hx
        obtain ⟨v, hv', h1, h2⟩ := r6.get hx
        exact ⟨v, by simp only [g', if_true, Nat.zero_add]; exact hv', h1, h2.mono hle⟩
    · simp at he
      obtain ⟨rfl, rfl⟩ := he
      refine .inr ⟨b, cap, cur, hv, hk, hheap, r1, r2, r3, fun o ho => ?_, r5⟩
      simp only [g', if_true]
      exact List.getElem?_eq_none (by omega)
    · have : c ≠ b := fun he => by subst he; rw [hk] at hn; simp at hn
      simp [g', this]


end Go.Abs
