import Derived.Test.YtalbakjfbgkjjaaAbs2
set_option linter.unusedSimpArgs false
namespace Go.Abs
open Go.RowKit

variable {P : Program} {A : Ann} {g : Gh} {st : AS} {a : Act} {w : World}

def AS.dropBox (st : AS) (k : Nat) : AS := { st with box := fun j => if j = k then none else st.box j }

theorem Rel.dropBox (h : Rel P A g st a w) (k : Nat) : Rel P A g (st.dropBox k) a w :=
  ⟨h.sz, h.df, h.tm, h.rt, fun j cs hc => by
    simp only [AS.dropBox] at hc
    split at hc
    · simp at hc
    · exact h.bx j cs hc, h.mu, h.kl, h.np, fun j cs i x k' hc => by
    simp only [AS.dropBox] at hc
    split at hc
    · simp at hc
    · exact h.ct j cs i x k' hc⟩

theorem Rel.addBox (h : Rel P A g st a w) {k : Nat} {cs : List AV} (hb : BoxR P g w k cs) (hct : ∀ (j : Nat) (x : AV) (k' : Nat), cs[j]? = some x → x.key = some k' → (k, k') ∈ A.held) : Rel P A g (st.setBox k cs) a w :=
  ⟨h.sz, h.df, h.tm, h.rt, fun j ds hc => by
    rw [AS.box_setBox] at hc
    split at hc
    · rename_i e; subst e; simp at hc; subst hc; exact hb
    · exact h.bx j ds hc, h.mu, h.kl, h.np, fun j ds i x k' hc hx hk => by
    rw [AS.box_setBox] at hc
    split at hc
    · rename_i e; subst e; simp at hc; subst hc; exact hct i x k' hx hk
    · exact h.ct j ds i x k' hc hx hk⟩

theorem DR.keyless {μ : Mem} {v : Value} {x : AV} (h : DR μ v x) : x.key = none := by cases h <;> rfl
theorem CellsR.keyless {μ : Mem} {vs : List Value} {cs : List AV} (h : CellsR μ vs cs) {j : Nat} {x : AV} (hx : cs[j]? = some x) : x.key = none := by
  obtain ⟨v, _, _, hd⟩ := h.get hx
  exact hd.keyless
theorem CellsR.noKeys {μ : Mem} {vs : List Value} {cs : List AV} (h : CellsR μ vs cs) {A : Ann} {k : Nat} : ∀ (j : Nat) (x : AV) (k' : Nat), cs[j]? = some x → x.key = some k' → (k, k') ∈ A.held := by
  intro j x k' hx hk
  rw [h.keyless hx] at hk
  simp at hk

/-- No own slices among the cells. -/
def noOwn (cs : List AV) : Prop := ∀ x ∈ cs, ∀ e rows, x ≠ .slice (.own e) rows
theorem noOwn_share (cs : List AV) : noOwn (cs.map AV.share) := by
  intro x hx e rows
  obtain ⟨y, _, rfl⟩ := List.mem_map.1 hx
  exact share_own y e rows
theorem norm1_own (x : AV) : ∀ e rows, x.norm1 ≠ .slice (.own e) rows := by
  intro e rows; unfold AV.norm1; split
  · simp
  · rename_i h; exact fun he => h _ rows he
theorem noOwn_norm1 (cs : List AV) : noOwn (cs.map AV.norm1) := by
  intro x hx e rows
  obtain ⟨y, _, rfl⟩ := List.mem_map.1 hx
  exact norm1_own y e rows

theorem CR.of_cells {μ : Mem} {vs : List Value} {cs : List AV} (h : CellsR μ vs cs) (hno : noOwn cs) {g : Gh} (hg : g.μ = μ) {w : World} {k : Nat} :
    ∀ j v x, vs[j]? = some v → cs[j]? = some x → CR P g w (.cell k j) v x := by
  intro j v x hv hx
  obtain ⟨u, hu, h1, h2⟩ := h.get hx
  rw [hv] at hu
  obtain rfl : v = u := by simpa using hu
  exact ⟨h1, CV.of P (by rw [hg]; exact h2) (OwnOK.triv P (hno x (List.mem_of_getElem? hx)))⟩

def Gh.withBox (g : Gh) (d B : Nat) : Gh := ⟨fun k => if k = d then B else g.ρ k, fun b => if b = B then some (.box d) else g.κ b, g.μ, g.np⟩

/-- A new box, reached by slot d. -/
def AS.newBox (A : Ann) (st : AS) (d : Nat) (cs : List AV) : AS := (((st.forgets (A.derived d)).setBox d cs).put d (.loc d 0))

theorem mu_lt (h : Rel P A g st a w) {b o : Nat} {v : Value} (hm : g.μ b o = some v) : b < w.heap.size := by
  have := h.mu b o v hm
  unfold World.cell? at this
  split at this
  · rename_i hb; exact (Array.getElem?_eq_some_iff.1 hb).1
  · simp at this

theorem mu_free (h : Rel P A g st a w) (o : Nat) : g.μ w.heap.size o = none := by
  cases hm : g.μ w.heap.size o with
  | none => rfl
  | some v => exact absurd (mu_lt h hm) (Nat.lt_irrefl _)

theorem keeps_alloc (h : Rel P A g st a w) (o : Obj) (x : Ent) (ρ' : Nat → Nat) (y : Option Ent) :
    Keeps g w ⟨ρ', fun b => if b = w.heap.size then y else g.κ b, g.μ, g.np⟩ (w.alloc o) x := by
  intro b hb
  have hlt := h.kl b x hb
  exact ⟨by simp [Nat.ne_of_lt hlt, hb], heap_alloc_old w o hlt, fun _ => rfl⟩

theorem cell_alloc {b o : Nat} {v : Value} (ob : Obj) (h : w.cell? ⟨b, o, none⟩ = some v) : (w.alloc ob).cell? ⟨b, o, none⟩ = some v := by
  rw [World.cell?_alloc_lt]
  · exact h
  · exact World.block_lt_of_cell? w _ h

theorem Rel.newBox (h : Rel P A g st a w) {d : Nat} (hd : d < A.n) (hnp : A.np ≤ d) (hr : A.root d = d) (hh : ∀ k, (k, d) ∉ A.held) (e : TypeId) (vs : Array Value) (cs : List AV) (hc : CellsR g.μ vs.toList cs) (hno : noOwn cs) :
    Rel P A (g.withBox d w.heap.size) (AS.newBox A st d cs) (a.put (some d) (.pointer (some ⟨w.heap.size, 0, none⟩))) (w.alloc (.cells vs e)) ∧
      Fr w g (w.alloc (.cells vs e)) (g.withBox d w.heap.size) := by
  have h1 : Rel P A g (((st.forgets (A.derived d)).put d .undef).dropBox d) a w := ((h.forgets _).forget d).dropBox d
  have hnoloc : ∀ t k, ((((st.forgets (A.derived d)).put d .undef).dropBox d).tmps t).key = some k → k ≠ d := by
    intro t k he hk
    subst hk
    have hrt : A.root t = k := h1.rt t k he
    simp only [AS.dropBox, AS.tmps_put, AS.forgets_tmps] at he
    rcases A.root_cases t with hr' | hr'
    · rw [hrt] at hr'; subst hr'; simp [AV.key] at he
    · rw [hrt] at hr'
      split at he
      · simp [AV.key] at he
      · simp [hr', AV.key] at he
  have hbx : ∀ k, ((((st.forgets (A.derived d)).put d .undef).dropBox d).box k).isSome = true → k ≠ d := by
    intro k hk he
    subst he
    simp [AS.dropBox] at hk
  have h2 : Rel P A (g.withBox d w.heap.size) (((st.forgets (A.derived d)).put d .undef).dropBox d) a (w.alloc (.cells vs e)) := by
    refine h1.turn (Mem.le.refl _) (fun k hk => by simp [Gh.withBox, hbx k hk]) (fun t k he => by simp [Gh.withBox, hnoloc t k he])
      (fun k cs j x k' hc hx hk => by
        have := h1.ct k cs j x k' hc hx hk
        have hne : k' ≠ d := fun e => hh k (by rw [← e]; exact this)
        simp [Gh.withBox, hne])
      (fun t _ => keeps_alloc h _ _ _ _) (fun k _ => keeps_alloc h _ _ _ _) (fun k j _ => keeps_alloc h _ _ _ _) (fun b o v hm => cell_alloc _ (h.mu b o v hm)) (fun b x hx => ?_) rfl
    simp only [Gh.withBox] at hx
    split at hx
    · rename_i e; subst e; simp
    · have := h.kl b x hx; simp; omega
  have hb : BoxR P (g.withBox d w.heap.size) (w.alloc (.cells vs e)) d cs := by
    refine ⟨fun _ => by simp [Gh.withBox], fun _ => ⟨vs, e, by show (w.alloc (.cells vs e)).heap[if d = d then w.heap.size else g.ρ d]? = _; rw [if_pos rfl]; exact heap_alloc_new w _, by have := hc.length; simp at this; omega, ?_⟩, fun _ o => by simpa [Gh.withBox] using mu_free h o⟩
    intro j v x hv hx
    exact CR.of_cells (g := g.withBox d w.heap.size) hc hno rfl j v x (by simpa using hv) hx
  have h3 := (h2.addBox hb hc.noKeys).putAny (t := d) (v := .pointer (some ⟨w.heap.size, 0, none⟩)) (x := .loc d 0) hd (by simp [TR, Gh.withBox]) (fun k he => by simp [AV.key] at he; rw [hr]; exact he)
  refine ⟨?_, ⟨rfl, rfl, rfl, by simp, Mem.le.refl _, fun b hb' hn => ⟨heap_alloc_old w _ hb', fun _ => rfl, by simp [Gh.withBox, Nat.ne_of_lt hb', hn]⟩, rfl, fun k hk => if_neg (by rw [h.np] at hk; omega)⟩⟩
  have he : AS.newBox A st d cs = ((((st.forgets (A.derived d)).put d .undef).dropBox d).setBox d cs).put d (.loc d 0) := by
    unfold AS.newBox
    simp only [AS.put, AS.setBox, AS.dropBox, AS.mk.injEq]
    refine ⟨?_, ?_⟩
    · funext u; split <;> simp_all
    · funext u; simp only [AS.forgets_box]; split <;> simp_all
  rw [he]
  exact h3

/-- Cells written into a list at an offset. -/
def splice (cs : List AV) (off : Nat) (xs : List AV) : List AV := cs.take off ++ xs ++ cs.drop (off + xs.length)

theorem splice_length {cs : List AV} {off : Nat} {xs : List AV} (h : off + xs.length ≤ cs.length) : (splice cs off xs).length = cs.length := by
  simp [splice]; omega

theorem splice_get {α : Type} {cs xs : List α} {off : Nat} (h : off + xs.length ≤ cs.length) (j : Nat) :
    (cs.take off ++ xs ++ cs.drop (off + xs.length))[j]? = if off ≤ j ∧ j < off + xs.length then xs[j - off]? else cs[j]? := by
  by_cases h1 : j < off
  · rw [List.append_assoc, List.getElem?_append_left (by simp; omega), List.getElem?_take_of_lt h1, if_neg (by omega)]
  · by_cases h2 : j < off + xs.length
    · rw [List.getElem?_append_left (by simp; omega), List.getElem?_append_right (by simp; omega), if_pos (by omega)]
      simp [Nat.min_eq_left (by omega : off ≤ cs.length)]
    · rw [List.getElem?_append_right (by simp; omega), List.getElem?_drop, if_neg (by omega)]
      congr 1
      simp [Nat.min_eq_left (by omega : off ≤ cs.length)]
      omega

/-- Cells without own slices are stored into a box. -/
theorem Rel.store (h : Rel P A g st a w) {k off : Nat} {cs : List AV} (hb : st.box k = some cs) (vs : List Value) (xs : List AV) (hc : CellsR g.μ vs xs) (hno : noOwn xs) (hl : off + xs.length ≤ cs.length) :
    ∃ w', (storeCells ⟨g.ρ k, off, none⟩ vs 0).run P w = .ok () w' ∧ Rel P A g (st.setBox k (splice cs off xs)) a w' ∧ Fr w g w' g ∧ ∀ j v, vs[j]? = some v → w'.cell? ⟨g.ρ k, off + j, none⟩ = some v := by
  have hbox := h.bx k cs hb
  have hlen := hc.length
  by_cases hne : cs = []
  · subst hne
    have hx0 : xs = [] := List.eq_nil_of_length_eq_zero (by have : off + xs.length ≤ 0 := hl; omega)
    subst hx0
    have hv0 : vs = [] := List.eq_nil_of_length_eq_zero (by simpa using hlen)
    subst hv0
    refine ⟨w, rfl, ?_, Fr.refl _ _, by simp⟩
    have : st.setBox k (splice [] off []) = st := by
      have e : splice [] off [] = [] := by simp [splice]
      rw [e]
      simp only [AS.setBox]
      cases st with
      | mk t b =>
        simp only [AS.mk.injEq, true_and]
        funext j
        split
        · rename_i e; subst e; exact hb.symm
        · rfl
    rw [this]
    exact h
  obtain ⟨cur, e, hheap, hsz, hcells⟩ := hbox.mem hne
  have hown := hbox.own hne
  have hfree := hbox.free hne
  have hrun := run_storeCells_at P (g.ρ k) off e vs 0 cur w hheap (by omega) (fun v hv => by
    obtain ⟨j, hj⟩ := List.mem_iff_getElem?.1 hv
    have hjl : j < vs.length := (List.getElem?_eq_some_iff.1 hj).1
    obtain ⟨u, hu, h1, _⟩ := hc.get (j := j) (x := xs[j]'(by omega)) (by simp)
    rw [hj] at hu; obtain rfl : v = u := by simpa using hu
    exact h1)
  simp only [Nat.add_zero] at hrun
  refine ⟨_, hrun, ?_, ?_, ?_⟩
  · have hk : ∀ x, x ≠ .box k → Keeps g w g (w.setRow (g.ρ k) (cur.toList.take off ++ vs ++ cur.toList.drop (off + vs.length)).toArray) x := by
      intro x hx b hbx
      refine ⟨hbx, setRow_other w _ b _ (fun he => ?_), fun _ => rfl⟩
      subst he
      rw [hown] at hbx
      exact hx (by simpa using hbx.symm)
    have h1 : Rel P A g (st.dropBox k) a (w.setRow (g.ρ k) (cur.toList.take off ++ vs ++ cur.toList.drop (off + vs.length)).toArray) := by
      refine (h.dropBox k).turn (Mem.le.refl _) (fun _ _ => rfl) (fun _ _ _ => rfl) (fun _ _ _ _ _ _ _ _ => rfl) (fun t _ => hk _ (by simp)) (fun j hj => hk _ ?_) (fun j i _ => hk _ (by simp)) (fun b o v hm => ?_) (fun b x hx => by simpa using h.kl b x hx) rfl
      · intro he
        simp at he
        subst he
        simp [AS.dropBox] at hj
      · rw [cell_setRow_other]
        · exact h.mu b o v hm
        · intro he
          simp at he
          subst he
          rw [hfree] at hm
          simp at hm
    have hb2 : BoxR P g (w.setRow (g.ρ k) (cur.toList.take off ++ vs ++ cur.toList.drop (off + vs.length)).toArray) k (splice cs off xs) := by
      refine ⟨fun _ => hown, fun _ => ⟨_, e, setRow_heap w _ cur _ e _ hheap, ?_, ?_⟩, fun _ => hfree⟩
      · rw [splice_length hl]; simp; omega
      · intro j v x hv hx
        simp only [splice] at hx
        rw [splice_get hl] at hx
        rw [List.getElem?_toArray, splice_get (by simp; omega)] at hv
        rw [hlen] at hv
        split at hx
        · rename_i hj
          rw [if_pos hj] at hv
          obtain ⟨u, hu, h1, h2⟩ := hc.get hx
          rw [hv] at hu; obtain rfl : v = u := by simpa using hu
          exact ⟨h1, CV.of P h2 (OwnOK.triv P (hno x (List.mem_of_getElem? hx)))⟩
        · rename_i hj
          rw [if_neg hj] at hv
          exact (hcells j v x (by simpa using hv) hx).keep P (Mem.le.refl _) (fun _ _ => rfl) (hk _ (by simp))
    have h2 := h1.addBox hb2 (fun j x k' hx hk' => by
      simp only [splice] at hx
      rw [splice_get hl] at hx
      split at hx
      · rw [hc.keyless hx] at hk'; simp at hk'
      · exact h.ct k cs j x k' hb hx hk')
    have : (st.dropBox k).setBox k (splice cs off xs) = st.setBox k (splice cs off xs) := by
      simp only [AS.setBox, AS.dropBox, AS.mk.injEq, true_and]
      funext j; split <;> simp_all
    rw [this] at h2
    exact h2
  · refine ⟨rfl, rfl, rfl, by simp, Mem.le.refl _, fun b hb' hn => ⟨setRow_other w _ b _ (fun he => ?_), fun _ => rfl, hn⟩, rfl, fun _ _ => rfl⟩
    subst he
    rw [hown] at hn
    simp at hn
  · intro j v hv
    have hj : j < vs.length := (List.getElem?_eq_some_iff.1 hv).1
    rw [cell_setRow_same w _ _ cur _ e (0, 0) hheap, List.getElem?_toArray, splice_get (by simp; omega), if_pos (by omega)]
    rw [← hv]; congr 1; omega

/-- Ownership of a slot's slice goes over to another holder. -/
def Gh.hand (g : Gh) (b : Nat) (x : Ent) : Gh := ⟨g.ρ, fun c => if c = b then some x else g.κ c, g.μ, g.np⟩

theorem keeps_hand {x y : Ent} {b : Nat} (hb : g.κ b = some y) (hx : x ≠ y) (z : Ent) : Keeps g w (g.hand b z) w x := by
  intro c hc
  have : c ≠ b := fun he => by subst he; rw [hb] at hc; exact hx (by simpa using hc.symm)
  exact ⟨by simp [Gh.hand, this, hc], rfl, fun _ => rfl⟩

/-- Taking: the own slice of slot t goes to slot d; t keeps a shared view. -/
theorem Rel.takeTmp (h : Rel P A g st a w) {t d : Nat} {e : TypeId} {rows : List (List AV)} (ht : st.tmps t = .slice (.own e) rows) (hd : d < A.n) (hne : t ≠ d) :
    ∃ g', Rel P A g' ((st.put t (.slice .sh rows)).put d (.slice (.own e) rows)) (a.put (some d) (a.tmps.getD t undef)) w ∧ Fr w g w g' := by
  have htr := h.tm t
  rw [ht] at htr
  obtain ⟨hdr, hown⟩ := htr
  have h1 : Rel P A g (st.put t (.slice .sh rows)) a w := by
    have := h.shareAt t (by rw [ht]; rfl)
    rw [ht] at this
    exact this
  rcases hown e rows rfl with ⟨hv, hr⟩ | ⟨b, cap, cur, hv, hk, hheap, r1, r2, r3, r4, r5⟩
  · exact ⟨g, h1.putAny hd (x := .slice (.own e) rows) ⟨hdr, fun e' rows' he => by simp at he; obtain ⟨rfl, rfl⟩ := he; exact .inl ⟨hv, hr⟩⟩ (by simp), Fr.refl _ _⟩
  · refine ⟨g.hand b (.tmp d), ?_, ?_⟩
    · have h2 : Rel P A (g.hand b (.tmp d)) ((st.put t (.slice .sh rows)).put d .undef) a w := by
        refine (h1.forget d).turn (Mem.le.refl _) (fun _ _ => rfl) (fun _ _ _ => rfl) (fun _ _ _ _ _ _ _ _ => rfl) (fun u hu => keeps_hand hk (fun he => ?_) _) (fun k _ => keeps_hand hk (by simp) _) (fun k j _ => keeps_hand hk (by simp) _) h.mu (fun c x hx => ?_) rfl
        · simp at he
          subst he
          simp [AS.tmps_put, hne] at hu
        · simp only [Gh.hand] at hx
          split at hx
          · rename_i e; subst e; exact h.kl _ _ hk
          · exact h.kl c x hx
      have h3 := h2.putAny (t := d) (v := a.tmps.getD t undef) (x := .slice (.own e) rows) hd ⟨hdr, fun e' rows' he => by
        simp at he; obtain ⟨rfl, rfl⟩ := he
        exact .inr ⟨b, cap, cur, hv, by simp [Gh.hand], hheap, r1, r2, r3, r4, r5⟩⟩ (by simp)
      have : ((st.put t (.slice .sh rows)).put d .undef).put d (.slice (.own e) rows) = (st.put t (.slice .sh rows)).put d (.slice (.own e) rows) := by
        simp only [AS.put, AS.mk.injEq, and_true]
        funext u; split <;> simp_all
      rw [this] at h3
      exact h3
    · refine ⟨rfl, rfl, rfl, Nat.le_refl _, Mem.le.refl _, fun c hc hn => ⟨rfl, fun _ => rfl, ?_⟩, rfl, fun _ _ => rfl⟩
      have : c ≠ b := fun he => by subst he; rw [hk] at hn; simp at hn
      simp [Gh.hand, this, hn]

end Go.Abs
