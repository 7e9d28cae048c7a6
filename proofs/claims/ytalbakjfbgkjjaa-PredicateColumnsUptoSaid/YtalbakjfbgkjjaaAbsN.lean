import Derived.Test.YtalbakjfbgkjjaaAbs8
set_option linter.unusedSimpArgs false
namespace Go.Abs
open Go.RowKit

variable {P : Program} {A : Ann} {g : Gh} {st : AS} {a : Act} {w : World} {T : Nat → AV} {B : Nat → Option (List AV)}

/-- The cells of the rows of a slice over a box. -/
def flatS (rows : List (List AV)) : List AV := rows.flatten.map AV.share

def cleanK (K : Nat) (cs : List AV) : List AV := cs.map fun x => if x.key = some K then .undef else x

/-- The cells of a box that lead into another box are forgotten. -/
theorem Rel.cleanBox (h : Rel P A g st a w) {k : Nat} {cs : List AV} (hb : st.box k = some cs) (K : Nat) : Rel P A g (st.setBox k (cleanK K cs)) a w := by
  have hbox := h.bx k cs hb
  have hne : cleanK K cs ≠ [] → cs ≠ [] := fun h e => h (by rw [e]; rfl)
  refine h.addBox ⟨fun q => hbox.own (hne q), fun q => ?_, fun q => hbox.free (hne q)⟩ (fun j x k' hx hk => ?_)
  · obtain ⟨cur, e, m1, m2, m3⟩ := hbox.mem (hne q)
    refine ⟨cur, e, m1, by simpa [cleanK] using m2, fun j v x hv hx => ?_⟩
    simp only [cleanK, List.getElem?_map] at hx
    cases hz : cs[j]? with
    | none => simp [hz] at hx
    | some z =>
      simp only [hz, Option.map_some, Option.some.injEq] at hx
      obtain ⟨r1, r2⟩ := m3 j v z hv hz
      subst hx
      split
      · exact ⟨r1, CV.of P (.undef _) (OwnOK.triv P (by simp))⟩
      · exact ⟨r1, r2⟩
  · simp only [cleanK, List.getElem?_map] at hx
    cases hz : cs[j]? with
    | none => simp [hz] at hx
    | some z =>
      simp only [hz, Option.map_some, Option.some.injEq] at hx
      subst hx
      split at hk
      · simp at hk
      · exact h.ct k cs j z k' hb hz hk

def Ann.holders (A : Ann) (K : Nat) : List Nat := (A.held.filter fun p => p.2 == K).map (·.1)

/-- The state in which nothing leads into box K. -/
def AS.cut (A : Ann) (st : AS) (K : Nat) : AS :=
  { tmps := fun t => if t ∈ A.derived K ∨ t = K then (if (st.tmps t).key = some K then .undef else st.tmps t) else st.tmps t, box := fun k => if k ∈ A.holders K then (st.box k).map (cleanK K) else st.box k }

theorem derived_mem {t K : Nat} (h : A.root t = K) : t ∈ A.derived K ∨ t = K := by
  rcases A.root_cases t with hr | hr
  · exact .inr (hr.symm.trans h)
  · rw [h] at hr; exact .inl hr

theorem Rel.cut (h : Rel P A g st a w) (K : Nat) : Rel P A g (st.cut A K) a w := by
  refine ⟨h.sz, h.df, fun t => ?_, fun t k he => ?_, fun k cs hk => ?_, h.mu, h.kl, h.np, fun k cs j x k' hk hx hkey => ?_⟩
  · simp only [AS.cut]
    split
    · split
      · exact TR.undef
      · exact h.tm t
    · exact h.tm t
  · simp only [AS.cut] at he
    split at he
    · split at he
      · simp at he
      · exact h.rt t k he
    · exact h.rt t k he
  · simp only [AS.cut] at hk
    split at hk
    · cases hb : st.box k with
      | none => simp [hb] at hk
      | some cs0 =>
        simp [hb] at hk
        subst hk
        have := (h.cleanBox hb K).bx k (cleanK K cs0) (by simp [AS.box_setBox])
        exact this
    · exact h.bx k cs hk
  · simp only [AS.cut] at hk
    split at hk
    · cases hb : st.box k with
      | none => simp [hb] at hk
      | some cs0 =>
        simp [hb] at hk
        subst hk
        exact (h.cleanBox hb K).ct k (cleanK K cs0) j x k' (by simp [AS.box_setBox]) hx hkey
    · exact h.ct k cs j x k' hk hx hkey

theorem cut_tmps (h : Rel P A g st a w) (K t k : Nat) (he : ((st.cut A K).tmps t).key = some k) : k ≠ K := by
  intro hk
  subst hk
  have hr := (h.cut k).rt t k he
  simp only [AS.cut] at he
  rw [if_pos (derived_mem hr)] at he
  split at he
  · simp at he
  · rename_i hn; exact hn he
theorem cut_cells (h : Rel P A g st a w) (K : Nat) {k : Nat} {cs : List AV} {j : Nat} {x : AV} {k' : Nat} (hk : (st.cut A K).box k = some cs) (hx : cs[j]? = some x) (hkey : x.key = some k') : k' ≠ K := by
  intro he
  subst he
  have hc := (h.cut k').ct k cs j x k' hk hx hkey
  have hm : k ∈ A.holders k' := List.mem_map.2 ⟨(k, k'), List.mem_filter.2 ⟨hc, by simp⟩, rfl⟩
  simp only [AS.cut, if_pos hm] at hk
  cases hb : st.box k with
  | none => simp [hb] at hk
  | some cs0 =>
    simp [hb] at hk
    subst hk
    simp only [cleanK, List.getElem?_map] at hx
    cases hz : cs0[j]? with
    | none => simp [hz] at hx
    | some z =>
      simp only [hz, Option.map_some, Option.some.injEq] at hx
      subst hx
      split at hkey
      · simp at hkey
      · rename_i hn; exact hn hkey

/-- An own slice becomes a slice over a box. -/
theorem Rel.unpack (h : Rel P A g st a w) {d K : Nat} {e : TypeId} {rows : List (List AV)} (hd : st.tmps d = .ex e rows) (hr : A.root d = K) (hnp : A.np ≤ K) :
    ∃ g', Rel P A g' (((st.cut A K).setBox K (flatS rows)).put d (.ms K e 0 rows.length)) a w ∧ Fr w g w g' := by
  have htr := h.tm d
  rw [hd] at htr
  have hown : ExOK P g w (.tmp d) (a.tmps.getD d undef) e rows := htr
  have h0 := h.cut K
  have h1 : Rel P A g (((st.cut A K).put d .undef).dropBox K) a w := (h0.forget d).dropBox K
  have fin : ∀ g' : Gh, Rel P A g' (((st.cut A K).put d .undef).dropBox K) a w → BoxR P g' w K (flatS rows) → MsV P g' (a.tmps.getD d undef) K e 0 rows.length → (∀ (j : Nat) (x : AV), (flatS rows)[j]? = some x → x.key = none) →
      Rel P A g' (((st.cut A K).setBox K (flatS rows)).put d (.ms K e 0 rows.length)) a w := by
    intro g' q1 q2 q3 q4
    have q5 := q1.addBox q2 (fun j x k' hx hk => by rw [q4 j x hx] at hk; simp at hk)
    refine ⟨q5.sz, q5.df, fun t => ?_, fun t k he => ?_, fun k cs hk => ?_, q5.mu, q5.kl, q5.np, fun k cs j x k' hk hx hkey => ?_⟩
    · rw [AS.tmps_put]
      split
      · rename_i e; subst e; exact q3
      · rename_i hne
        have := q5.tm t
        simp only [AS.setBox, AS.dropBox, AS.put, if_neg hne] at this ⊢
        exact this
    · rw [AS.tmps_put] at he
      split at he
      · rename_i e; subst e; simp at he; rw [hr]; exact he
      · rename_i hne
        refine q5.rt t k ?_
        simp only [AS.setBox, AS.dropBox, AS.put, if_neg hne]
        exact he
    · refine q5.bx k cs ?_
      simp only [AS.setBox, AS.dropBox, AS.put] at hk ⊢
      split at hk
      · rename_i e; simp [e] at hk ⊢; exact hk
      · rename_i hne; simp [hne] at hk ⊢; exact hk
    · refine q5.ct k cs j x k' ?_ hx hkey
      simp only [AS.setBox, AS.dropBox, AS.put] at hk ⊢
      split at hk
      · rename_i e; simp [e] at hk ⊢; exact hk
      · rename_i hne; simp [hne] at hk ⊢; exact hk
  rcases hown with ⟨hv, hr0⟩ | ⟨b, cap, cur, hv, hk, hheap, r1, r2, r3, r4, r5, r6⟩
  · subst hr0
    refine ⟨g, fin g h1 ⟨fun q => absurd rfl q, fun q => absurd rfl q, fun q => absurd rfl q⟩ (.inl ⟨rfl, hv⟩) (by simp [flatS]), Fr.refl _ _⟩
  · have hcs := r6.share
    let g' : Gh := ⟨fun k => if k = K then b else g.ρ k, fun c => if c = b then some (.box K) else g.κ c, g.μ, g.np⟩
    have hkeep : ∀ x, x ≠ .tmp d → Keeps g w g' w x := by
      intro x hx c hc
      have : c ≠ b := fun he => by subst he; rw [hk] at hc; exact hx (by simpa using hc.symm)
      exact ⟨by show (if c = b then _ else g.κ c) = _; rw [if_neg this]; exact hc, rfl, fun _ => rfl⟩
    have h2 : Rel P A g' (((st.cut A K).put d .undef).dropBox K) a w := by
      refine h1.turn (Mem.le.refl _) (fun k hk' => ?_) (fun t k he => ?_) (fun k cs j x k' hc hx hkey => ?_) (fun t ht => hkeep _ (fun he => ?_)) (fun k _ => hkeep _ (by simp)) (fun k j _ => hkeep _ (by simp)) h.mu (fun c x hx => ?_) rfl
      · have : k ≠ K := fun he => by subst he; simp [AS.dropBox] at hk'
        simp [g', this]
      · have : k ≠ K := by
          simp only [AS.dropBox, AS.tmps_put] at he
          split at he
          · simp at he
          · exact cut_tmps h K t k he
        simp [g', this]
      · have : k' ≠ K := by
          simp only [AS.dropBox] at hc
          split at hc
          · simp at hc
          · exact cut_cells h K hc hx hkey
        simp [g', this]
      · simp at he; subst he; simp [AS.dropBox, AS.tmps_put] at ht
      · simp only [g'] at hx
        split at hx
        · rename_i he; subst he; exact h.kl _ _ hk
        · exact h.kl c x hx
    have hlen : (flatS rows).length = rows.length * P.cellsOf e := by simp only [flatS, List.length_map]; exact flatten_len r5
    refine ⟨g', fin g' h2 ⟨fun _ => by simp [g'], fun _ => ⟨cur, e, by simp [g', hheap], ?_, fun j v x hv' hx => ?_⟩, fun _ o => by simp [g', r4]⟩ (.inr ⟨cap, r1, by simp [g', hv]⟩) (fun j x hx => hcs.keyless hx), ?_⟩
    · rw [hlen, r3]; exact Nat.mul_le_mul_right _ r1
    · have hj : j < rows.length * P.cellsOf e := by rw [← hlen]; exact (List.getElem?_eq_some_iff.1 hx).1
      obtain ⟨u, hu, q1, q2⟩ := hcs.get hx
      rw [List.getElem?_take, if_pos hj, Array.getElem?_toList, hv'] at hu
      obtain rfl : v = u := by simpa using hu
      exact ⟨q1, CV.of P q2 (OwnOK.triv P (noOwn_share _ x (List.mem_of_getElem? hx)))⟩
    · refine ⟨rfl, rfl, rfl, Nat.le_refl _, Mem.le.refl _, fun c hc hn => ⟨rfl, fun _ => rfl, ?_⟩, rfl, fun k hk' => ?_⟩
      · have : c ≠ b := fun he => by subst he; rw [hk] at hn; simp at hn
        simp [g', this, hn]
      · have : k ≠ K := by have := h.np; omega
        simp [g', this]
end Go.Abs
