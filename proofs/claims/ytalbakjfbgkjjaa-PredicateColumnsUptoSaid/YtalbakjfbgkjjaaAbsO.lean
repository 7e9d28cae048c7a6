import Derived.Test.YtalbakjfbgkjjaaAbsN
set_option linter.unusedSimpArgs false
namespace Go.Abs
open Go.RowKit

variable {P : Program} {A : Ann} {g : Gh} {st : AS} {a : Act} {w : World} {T : Nat → AV} {B : Nat → Option (List AV)}

/-- What becomes of a value when a box is frozen. -/
inductive FV (K : Nat) (e : TypeId) (rows : List (List AV)) : AV → AV → Prop
  | same {x} (h : x.key ≠ some K) : FV K e rows x x
  | undef (x) : FV K e rows x .undef
  | ms {lo n rows'} (h : lo + n ≤ rows.length) (hr : rows' = ((rows.map (·.map AV.share)).drop lo).take n) : FV K e rows (.ms K e lo n) (.slice .sh rows')

inductive FVs (K : Nat) (e : TypeId) (rows : List (List AV)) : List AV → List AV → Prop
  | nil : FVs K e rows [] []
  | cons {x y xs ys} (h : FV K e rows x y) (t : FVs K e rows xs ys) : FVs K e rows (x :: xs) (y :: ys)

theorem FVs.length {K : Nat} {e : TypeId} {rows : List (List AV)} : ∀ {xs ys : List AV}, FVs K e rows xs ys → xs.length = ys.length
  | _, _, .nil => rfl
  | _, _, .cons _ t => by simp [t.length]
theorem FVs.get {K : Nat} {e : TypeId} {rows : List (List AV)} : ∀ {xs ys : List AV}, FVs K e rows xs ys → ∀ {j : Nat} {y : AV}, ys[j]? = some y → ∃ x, xs[j]? = some x ∧ FV K e rows x y
  | _, _, .nil, _, _, h => by simp at h
  | _, _, .cons h1 t, j, y, h => by
    cases j with
    | zero => simp at h; subst h; exact ⟨_, rfl, h1⟩
    | succ j => simp at h; obtain ⟨x, a, b⟩ := t.get h; exact ⟨x, by simpa using a, b⟩

structure Frz (P : Program) (A : Ann) (st st' : AS) (K : Nat) (e : TypeId) (rows : List (List AV)) : Prop where
  b0 : st.box K = some (flatS rows)
  nk : noHold A K = true
  uni : ∀ r ∈ rows, r.length = P.cellsOf e
  t : ∀ t, FV K e rows (st.tmps t) (st'.tmps t)
  b : ∀ k cs', st'.box k = some cs' → k ≠ K ∧ ∃ cs, st.box k = some cs ∧ FVs K e rows cs cs'

theorem flatS_rows (rows : List (List AV)) : flatS rows = (rows.map (·.map AV.share)).flatten := by
  simp only [flatS]
  rw [List.map_flatten]

theorem Rel.frz (h : Rel P A g st a w) {st' : AS} {K : Nat} {e : TypeId} {rows : List (List AV)} (hf : Frz P A st st' K e rows) : ∃ g', Rel P A g' st' a w ∧ Fr w g w g' := by
  have hbox := h.bx K _ hf.b0
  have hlenF : (flatS rows).length = rows.length * P.cellsOf e := by simp only [flatS, List.length_map]; exact flatten_len hf.uni
  have hu' : ∀ r ∈ rows.map (·.map AV.share), r.length = P.cellsOf e := by
    intro r hr
    obtain ⟨q, hq, rfl⟩ := List.mem_map.1 hr
    simpa using hf.uni q hq
  -- what is read of the box
  have main : ∃ g' : Gh, Mem.le g.μ g'.μ ∧ g'.ρ = g.ρ ∧ g'.κ = g.κ ∧ g'.np = g.np ∧ (∀ x, x ≠ .box K → Keeps g w g' w x) ∧ (∀ b o v, g'.μ b o = some v → w.cell? ⟨b, o, none⟩ = some v) ∧
      (flatS rows ≠ [] → CellsAt g'.μ (g.ρ K) 0 (flatS rows)) ∧ (∀ b, g.κ b = none → ∀ o, g'.μ b o = g.μ b o) := by
    by_cases hne : flatS rows = []
    · exact ⟨g, Mem.le.refl _, rfl, rfl, rfl, fun x _ b hb => ⟨hb, rfl, fun _ => rfl⟩, h.mu, fun q => absurd hne q, fun _ _ _ => rfl⟩
    · obtain ⟨cur, el, m1, m2, m3⟩ := hbox.mem hne
      have hown := hbox.own hne
      have hfree := hbox.free hne
      let μ' : Mem := fun b o => if b = g.ρ K then (if o < (flatS rows).length then cur[o]? else none) else g.μ b o
      have hle : Mem.le g.μ μ' := by
        intro b o v hm
        have : b ≠ g.ρ K := fun he => by subst he; rw [hfree] at hm; simp at hm
        simp [μ', this, hm]
      refine ⟨⟨g.ρ, g.κ, μ', g.np⟩, hle, rfl, rfl, rfl, fun x hx b hb => ⟨hb, rfl, fun o => ?_⟩, fun b o v hm => ?_, fun _ => CellsAt.mk fun j x hx => ?_, fun b hb o => ?_⟩
      · have : b ≠ g.ρ K := fun he => by subst he; rw [hown] at hb; exact hx (by simpa using hb.symm)
        simp [μ', this]
      · simp only [μ'] at hm
        split at hm
        · rename_i he
          subst he
          split at hm
          · rw [cell_heap m1]; exact hm
          · simp at hm
        · exact h.mu b o v hm
      · have hj : j < (flatS rows).length := (List.getElem?_eq_some_iff.1 hx).1
        have hc : cur[j]? = some (cur[j]'(by omega)) := by simp
        obtain ⟨r1, r2⟩ := m3 j _ x hc hx
        have hk : x.key = none := noHold_key h hf.nk hf.b0 hx
        refine ⟨_, by simp [μ', hj, hc], r1, (r2.dr P hk).1.mono hle⟩
      · have : b ≠ g.ρ K := fun he => by subst he; rw [hown] at hb; simp at hb
        simp [μ', this]
  obtain ⟨g', hle, hρ, hκ, hnp, hkeep, hmu, hcells, hold⟩ := main
  have hfl : flatS rows = (rows.map (·.map AV.share)).flatten := flatS_rows rows
  -- a slice over the box reads as data
  have view : ∀ (v : Value) (lo n : Nat) (rows' : List (List AV)), MsV P g v K e lo n → lo + n ≤ rows.length → rows' = ((rows.map (·.map AV.share)).drop lo).take n → DR g'.μ v (.slice .sh rows') := by
    intro v lo n rows' hv hle' hr
    have hrl : rows'.length = n := by rw [hr]; simp; omega
    rcases hv with ⟨h0, hv⟩ | ⟨cap, hc, hv⟩
    · have : rows' = [] := List.eq_nil_of_length_eq_zero (by omega)
      subst this
      rw [hv]
      exact .sliceE (by simp)
    · rw [hv]
      cases hrs : rows' with
      | nil =>
        rw [hrs] at hrl
        simp at hrl
        subst hrl
        exact .sliceE (by simp)
      | cons r rs =>
        rw [hrs] at hrl
        have hmem : ∀ x ∈ rows', x.length = P.cellsOf e := by
          intro x hx
          rw [hr] at hx
          exact hu' x (List.mem_of_mem_drop (List.mem_of_mem_take hx))
        refine .slice (by simp) (fun x hx => by rw [hmem x (by rw [hrs]; simp [hx]), hmem r (by rw [hrs]; simp)]) (by simp at hrl; omega) hc ?_
        rw [← hrs, hr]
        by_cases hne : flatS rows = []
        · have : (((rows.map (·.map AV.share)).drop lo).take n).flatten = [] := by
            rw [flatten_take (fun r hr => hu' r (List.mem_of_mem_drop hr)), flatten_drop hu', ← hfl, hne]
            simp
          rw [this]
          exact .nil
        · have hc0 := hcells hne
          have h1 := (hc0.drop (lo * P.cellsOf e)).take (n * P.cellsOf e)
          rw [hfl, ← flatten_drop hu', ← flatten_take (fun r hr => hu' r (List.mem_of_mem_drop hr))] at h1
          simpa using h1
  refine ⟨g', ⟨h.sz, h.df, fun t => ?_, fun t k he => ?_, fun k cs' hk => ?_, hmu, fun b x hx => h.kl b x (by rw [← hκ]; exact hx), hnp.trans h.np, fun k cs' j y k' hk hy hkey => ?_⟩, ?_⟩
  · have ht := h.tm t
    have hfv := hf.t t
    generalize st.tmps t = x at ht hfv
    generalize st'.tmps t = y at hfv
    cases hfv with
    | same hk => exact ht.keep P hle (fun _ _ => by rw [hρ]) (hkeep _ (by simp))
    | undef => exact TR.undef
    | ms h1 h2 => exact ⟨view _ _ _ _ ht h1 h2, OwnOK.triv P (by simp)⟩
  · have hfv := hf.t t
    have hrt := h.rt t
    generalize st.tmps t = x at hfv hrt
    generalize st'.tmps t = y at hfv he
    cases hfv with
    | same hk => exact hrt k he
    | undef => simp at he
    | ms h1 h2 => simp at he
  · obtain ⟨hkK, cs, hb, hfs⟩ := hf.b k cs' hk
    have hbx := h.bx k cs hb
    have hl := hfs.length
    have hne : cs' ≠ [] → cs ≠ [] := fun q e => q (List.eq_nil_of_length_eq_zero (by rw [← hl, e]; rfl))
    refine ⟨fun q => by rw [hκ, hρ]; exact hbx.own (hne q), fun q => ?_, fun q o => ?_⟩
    · obtain ⟨cur, el, m1, m2, m3⟩ := hbx.mem (hne q)
      refine ⟨cur, el, by rw [hρ]; exact m1, by omega, fun j v y hv hy => ?_⟩
      obtain ⟨x, hx, hfv⟩ := hfs.get hy
      have hc := m3 j v x hv hx
      cases hfv with
      | same hk => exact hc.keep P hle (fun _ _ => by rw [hρ]) (hkeep _ (by simp))
      | undef => exact ⟨hc.1, CV.of P (.undef _) (OwnOK.triv P (by simp))⟩
      | ms h1 h2 => exact ⟨hc.1, CV.of P (view _ _ _ _ hc.2 h1 h2) (OwnOK.triv P (by simp))⟩
    · rw [hρ, (hkeep (.box k) (by simp [hkK]) _ (hbx.own (hne q))).2.2]
      exact hbx.free (hne q) o
  · obtain ⟨hkK, cs, hb, hfs⟩ := hf.b k cs' hk
    obtain ⟨x, hx, hfv⟩ := hfs.get hy
    cases hfv with
    | same hk => exact h.ct k cs j _ k' hb hx hkey
    | undef => simp at hkey
    | ms h1 h2 => simp at hkey
  · exact ⟨rfl, rfl, rfl, Nat.le_refl _, hle, fun b _ hn => ⟨rfl, fun o => hold b hn o, by rw [hκ]; exact hn⟩, hnp, fun _ _ => by rw [hρ]⟩
end Go.Abs
