import Derived.Test.YtalbakjfbgkjjaaAbs3
set_option linter.unusedSimpArgs false
namespace Go.Abs
open Go.RowKit

variable {P : Program} {A : Ann} {g : Gh} {st : AS} {a : Act} {w : World}

theorem CellsR.one {μ : Mem} {vs : List Value} {cs : List AV} (hc : CellsR μ vs cs) : ∀ v ∈ vs, v.oneCell' = true := by
  intro v hv
  obtain ⟨j, hj⟩ := List.mem_iff_getElem?.1 hv
  have hjl : j < vs.length := (List.getElem?_eq_some_iff.1 hj).1
  obtain ⟨u, hu, h1, _⟩ := hc.get (j := j) (x := cs[j]'(by have := hc.length; omega)) (by simp)
  rw [hj] at hu; obtain rfl : v = u := by simpa using hu
  exact h1

theorem hand_kl (h : Rel P A g st a w) {b : Nat} {y : Ent} (hk : g.κ b = some y) (z : Ent) : ∀ c x, (g.hand b z).κ c = some x → c < w.heap.size := by
  intro c x hx
  simp only [Gh.hand] at hx
  split at hx
  · rename_i e; subst e; exact h.kl _ _ hk
  · exact h.kl c x hx

theorem Fr.hand (w : World) {b : Nat} {y : Ent} (hk : g.κ b = some y) (z : Ent) : Fr w g w (g.hand b z) := by
  refine ⟨rfl, rfl, rfl, Nat.le_refl _, Mem.le.refl _, fun c hc hn => ⟨rfl, fun _ => rfl, ?_⟩, rfl, fun _ _ => rfl⟩
  have : c ≠ b := fun he => by subst he; rw [hk] at hn; simp at hn
  simp [Gh.hand, this, hn]

/-- The own slice of slot t goes into a cell of a box that already holds that very value. -/
theorem Rel.moveToCell (h : Rel P A g st a w) {t k off : Nat} {e : TypeId} {rows : List (List AV)} {cs : List AV} (ht : st.tmps t = .slice (.own e) rows) (hb : st.box k = some cs)
    (hv : w.cell? ⟨g.ρ k, off, none⟩ = some (a.tmps.getD t undef)) (hoff : off < cs.length) :
    ∃ g', Rel P A g' ((st.put t (.slice .sh rows)).setBox k (cs.set off (.slice (.own e) rows))) a w ∧ Fr w g w g' := by
  have htr := h.tm t
  rw [ht] at htr
  obtain ⟨hdr, hown⟩ := htr
  have h1 : Rel P A g (st.put t (.slice .sh rows)) a w := by
    have := h.shareAt t (by rw [ht]; rfl)
    rw [ht] at this
    exact this
  have hbox := h.bx k cs hb
  have hne : cs ≠ [] := fun e => by subst e; simp at hoff
  obtain ⟨cur, el, hheap, hsz, hcells⟩ := hbox.mem hne
  have hbown := hbox.own hne
  have hbfree := hbox.free hne
  have hcell : cur[off]? = some (a.tmps.getD t undef) := by simpa [World.cell?, hheap] using hv
  have hone : (a.tmps.getD t undef).oneCell' = true := (hcells off _ (cs[off]) hcell (by simp)).1
  have key : ∀ g' : Gh, g'.np = g.np → g'.μ = g.μ → g'.ρ = g.ρ → (∀ x, x ≠ .tmp t → Keeps g w g' w x) → (∀ c x, g'.κ c = some x → c < w.heap.size) → OwnOK P g' w (.cell k off) (a.tmps.getD t undef) (.slice (.own e) rows) →
      Rel P A g' ((st.put t (.slice .sh rows)).setBox k (cs.set off (.slice (.own e) rows))) a w := by
    intro g' hnp hμ hρ hkeep hkl ho
    have hle : Mem.le g.μ g'.μ := by rw [hμ]; exact Mem.le.refl _
    have h2 : Rel P A g' ((st.put t (.slice .sh rows)).dropBox k) a w := by
      refine (h1.dropBox k).turn hle (fun _ _ => by rw [hρ]) (fun _ _ _ => by rw [hρ]) (fun _ _ _ _ _ _ _ _ => by rw [hρ]) (fun u hu => hkeep _ (fun he => ?_)) (fun j _ => hkeep _ (by simp)) (fun j i _ => hkeep _ (by simp)) (by rw [hμ]; exact h.mu) hkl hnp
      simp at he
      subst he
      simp [AS.dropBox, AS.tmps_put] at hu
    have hb2 : BoxR P g' w k (cs.set off (.slice (.own e) rows)) := by
      obtain ⟨k1, k2, k3⟩ := hkeep (.box k) (by simp) _ hbown
      refine ⟨fun _ => by rw [hρ]; exact k1, fun _ => ⟨cur, el, by rw [hρ]; exact hheap, by simpa using hsz, ?_⟩, fun _ o => by rw [hρ, hμ]; exact hbfree o⟩
      intro j v x hv' hx
      rw [List.getElem?_set] at hx
      split at hx
      · rename_i hj
        subst hj
        simp [hoff] at hx
        subst hx
        rw [hcell] at hv'
        obtain rfl : a.tmps.getD t undef = v := by simpa using hv'
        exact ⟨hone, CV.of P (by rw [hμ]; exact hdr) ho⟩
      · exact (hcells j v x hv' hx).keep P hle (fun _ _ => by rw [hρ]) (hkeep _ (by simp))
    have h3 := h2.addBox hb2 (fun j x k' hx hk' => by
      rw [List.getElem?_set] at hx
      split at hx
      · rename_i hj; subst hj; simp [hoff] at hx; subst hx; simp at hk'
      · exact h.ct k cs j x k' hb hx hk')
    have : ((st.put t (.slice .sh rows)).dropBox k).setBox k (cs.set off (.slice (.own e) rows)) = (st.put t (.slice .sh rows)).setBox k (cs.set off (.slice (.own e) rows)) := by
      simp only [AS.setBox, AS.dropBox, AS.mk.injEq, true_and]
      funext j; split <;> simp_all
    rw [this] at h3
    exact h3
  rcases hown e rows rfl with ⟨hv0, hr⟩ | ⟨b, cap, cur', hv0, hk, hh, r1, r2, r3, r4, r5⟩
  · exact ⟨g, key g rfl rfl rfl (fun x _ b hb => ⟨hb, rfl, fun _ => rfl⟩) h.kl (fun e' rows' he => by simp at he; obtain ⟨rfl, rfl⟩ := he; exact .inl ⟨hv0, hr⟩), Fr.refl _ _⟩
  · refine ⟨g.hand b (.cell k off), key _ rfl rfl rfl (fun x hx => keeps_hand hk hx _) (hand_kl h hk _) (fun e' rows' he => ?_), Fr.hand w hk _⟩
    simp at he; obtain ⟨rfl, rfl⟩ := he
    exact .inr ⟨b, cap, cur', hv0, by simp [Gh.hand], hh, r1, r2, r3, r4, r5⟩

/-- The own slice in a cell of a box goes to slot d. -/
theorem Rel.moveToTmp (h : Rel P A g st a w) {d k off : Nat} {e : TypeId} {rows : List (List AV)} {cs : List AV} {v : Value} (hd : d < A.n) (hb : st.box k = some cs) (hx : cs[off]? = some (.slice (.own e) rows))
    (hv : w.cell? ⟨g.ρ k, off, none⟩ = some v) :
    ∃ g', Rel P A g' ((st.setBox k (cs.set off (.slice .sh rows))).put d (.slice (.own e) rows)) (a.put (some d) v) w ∧ Fr w g w g' := by
  have hbox := h.bx k cs hb
  have hoff : off < cs.length := (List.getElem?_eq_some_iff.1 hx).1
  have hne : cs ≠ [] := fun e => by subst e; simp at hoff
  obtain ⟨cur, el, hheap, hsz, hcells⟩ := hbox.mem hne
  have hbown := hbox.own hne
  have hbfree := hbox.free hne
  have hcell : cur[off]? = some v := by simpa [World.cell?, hheap] using hv
  obtain ⟨hone, hdr, hown⟩ := hcells off v _ hcell hx
  have key : ∀ g' : Gh, g'.np = g.np → g'.μ = g.μ → g'.ρ = g.ρ → (∀ x, x ≠ .cell k off → Keeps g w g' w x) → (∀ c x, g'.κ c = some x → c < w.heap.size) → OwnOK P g' w (.tmp d) v (.slice (.own e) rows) →
      Rel P A g' ((st.setBox k (cs.set off (.slice .sh rows))).put d (.slice (.own e) rows)) (a.put (some d) v) w := by
    intro g' hnp hμ hρ hkeep hkl ho
    have hle : Mem.le g.μ g'.μ := by rw [hμ]; exact Mem.le.refl _
    have h2 : Rel P A g' ((st.put d .undef).dropBox k) a w := by
      refine ((h.forget d).dropBox k).turn hle (fun _ _ => by rw [hρ]) (fun _ _ _ => by rw [hρ]) (fun _ _ _ _ _ _ _ _ => by rw [hρ]) (fun u hu => hkeep _ (by simp)) (fun j _ => hkeep _ (by simp)) (fun j i hj => hkeep _ (fun he => ?_)) (by rw [hμ]; exact h.mu) hkl hnp
      simp at he
      rw [he.1] at hj
      simp [AS.dropBox] at hj
    have hb2 : BoxR P g' w k (cs.set off (.slice .sh rows)) := by
      obtain ⟨k1, k2, k3⟩ := hkeep (.box k) (by simp) _ hbown
      refine ⟨fun _ => by rw [hρ]; exact k1, fun _ => ⟨cur, el, by rw [hρ]; exact hheap, by simpa using hsz, ?_⟩, fun _ o => by rw [hρ, hμ]; exact hbfree o⟩
      intro j u x hv' hx'
      rw [List.getElem?_set] at hx'
      split at hx'
      · rename_i hj
        subst hj
        simp [hoff] at hx'
        subst hx'
        rw [hcell] at hv'
        obtain rfl : v = u := by simpa using hv'
        exact ⟨hone, CV.of P (by rw [hμ]; exact hdr.share) (OwnOK.triv P (by simp [AV.share]))⟩
      · rename_i hj
        exact (hcells j u x hv' hx').keep P hle (fun _ _ => by rw [hρ]) (hkeep _ (fun he => by simp at he; omega))
    have h3 := (h2.addBox hb2 (fun j x k' hx' hk' => by
      rw [List.getElem?_set] at hx'
      split at hx'
      · rename_i hj; subst hj; simp [hoff] at hx'; subst hx'; simp at hk'
      · exact h.ct k cs j x k' hb hx' hk')).putAny (t := d) (v := v) (x := .slice (.own e) rows) hd ⟨by rw [hμ]; exact hdr, ho⟩ (by simp)
    have : (((st.put d .undef).dropBox k).setBox k (cs.set off (.slice .sh rows))).put d (.slice (.own e) rows) = (st.setBox k (cs.set off (.slice .sh rows))).put d (.slice (.own e) rows) := by
      simp only [AS.setBox, AS.dropBox, AS.put, AS.mk.injEq]
      refine ⟨?_, ?_⟩
      · funext j; split <;> simp_all
      · funext j; split <;> simp_all
    rw [this] at h3
    exact h3
  rcases hown e rows rfl with ⟨hv0, hr⟩ | ⟨b, cap, cur', hv0, hk, hh, r1, r2, r3, r4, r5⟩
  · exact ⟨g, key g rfl rfl rfl (fun x _ b hb => ⟨hb, rfl, fun _ => rfl⟩) h.kl (fun e' rows' he => by simp at he; obtain ⟨rfl, rfl⟩ := he; exact .inl ⟨hv0, hr⟩), Fr.refl _ _⟩
  · refine ⟨g.hand b (.tmp d), key _ rfl rfl rfl (fun x hx => keeps_hand hk hx _) (hand_kl h hk _) (fun e' rows' he => ?_), Fr.hand w hk _⟩
    simp at he; obtain ⟨rfl, rfl⟩ := he
    exact .inr ⟨b, cap, cur', hv0, by simp [Gh.hand], hh, r1, r2, r3, r4, r5⟩

/-- A slice in a block that the frame owns from now on: the block b' is new, or was the frame's own before and nobody claims it. -/
theorem Rel.ownBlock (h : Rel P A g st a w) {d b' cap : Nat} {e : TypeId} {rows : List (List AV)} {w' : World} {cur : Array Value} {vs : List Value} (hd : d < A.n)
    (hos : w'.os = w.os) (htape : w'.tape = w.tape) (hout : w'.output = w.output) (hsize : w.heap.size ≤ w'.heap.size)
    (hother : ∀ b, b < w.heap.size → b ≠ b' → w'.heap[b]? = w.heap[b]?)
    (hnew : w'.heap[b']? = some (.cells cur e (0, 0)))
    (hfree : ∀ x, g.κ b' = some x → (∀ t, (st.tmps t).owns = true → x ≠ .tmp t) ∧ (∀ k, x ≠ .box k) ∧ (∀ k j, x ≠ .cell k j))
    (hnone : g.κ b' = none → w.heap.size ≤ b')
    (hcap : rows.length ≤ cap) (hmax : cap ≤ maxLen) (hcs : cur.size = cap * P.cellsOf e) (hu : ∀ r ∈ rows, r.length = P.cellsOf e)
    (hvs : cur.toList.take (rows.length * P.cellsOf e) = vs) (hc : CellsR g.μ vs rows.flatten)
    (hold : ∀ o v, g.μ b' o = some v → vs[o]? = some v) :
    ∃ g', Rel P A g' (st.put d (.slice (.own e) rows)) (a.put (some d) (.slice (some ⟨b', 0, none⟩) rows.length cap)) w' ∧ Fr w g w' g' := by
  have hvlen : vs.length = rows.length * P.cellsOf e := by
    rw [← hvs]; simp; rw [hcs]; exact Nat.min_eq_left (Nat.mul_le_mul_right _ hcap)
  let g' : Gh := ⟨g.ρ, fun b => if b = b' then some (.tmp d) else g.κ b, fun b o => if b = b' then vs[o]? else g.μ b o, g.np⟩
  have hle : Mem.le g.μ g'.μ := by
    intro b o v hm
    show (if b = b' then vs[o]? else g.μ b o) = some v
    split
    · rename_i e; subst e; exact hold o v hm
    · exact hm
  have hkeep : ∀ x, g.κ b' ≠ some x → Keeps g w g' w' x := by
    intro x hx b hb
    have hne : b ≠ b' := fun he => by subst he; exact hx hb
    exact ⟨by show (if b = b' then _ else g.κ b) = _; rw [if_neg hne]; exact hb, hother b (h.kl b x hb) hne, fun o => by show (if b = b' then _ else g.μ b o) = _; rw [if_neg hne]⟩
  have hmu : ∀ b o v, g'.μ b o = some v → w'.cell? ⟨b, o, none⟩ = some v := by
    intro b o v hm
    simp only [g'] at hm
    split at hm
    · rename_i he; subst he
      rw [← hvs, List.getElem?_take] at hm
      split at hm
      · simpa [World.cell?, hnew] using hm
      · simp at hm
    · rename_i hne
      rw [World.cell?_of_block (w := w) (hother b (mu_lt h hm) hne)]
      exact h.mu b o v hm
  have hb'lt : b' < w'.heap.size := (Array.getElem?_eq_some_iff.1 hnew).1
  have h1 : Rel P A g' (st.put d .undef) a w' := by
    refine (h.forget d).turn hle (fun _ _ => rfl) (fun _ _ _ => rfl) (fun _ _ _ _ _ _ _ _ => rfl) (fun t ht => hkeep _ (fun hk => ?_)) (fun k _ => hkeep _ (fun hk => (hfree _ hk).2.1 k rfl)) (fun k j _ => hkeep _ (fun hk => (hfree _ hk).2.2 k j rfl)) hmu (fun b x hx => ?_) rfl
    · rw [AS.tmps_put] at ht
      split at ht
      · simp at ht
      · exact (hfree _ hk).1 t ht rfl
    · simp only [g'] at hx
      split at hx
      · rename_i he; subst he; exact hb'lt
      · exact Nat.lt_of_lt_of_le (h.kl b x hx) hsize
  have hdr : DR g'.μ (.slice (some ⟨b', 0, none⟩) rows.length cap) (.slice (.own e) rows) := by
    cases hrows : rows with
    | nil => exact .sliceE (by simp)
    | cons r rs =>
      rw [hrows] at hc hvlen hu
      refine .slice (by simp) (fun x hx => by rw [hu x (by simp [hx]), hu r (by simp)]) (by simp) (by rw [← hrows]; exact hcap) (CellsAt.mk fun j x hx => ?_)
      obtain ⟨v, hv, h1, h2⟩ := hc.get hx
      exact ⟨v, by simp [g', hv], h1, h2.mono hle⟩
  have h2 := h1.putAny (t := d) (v := .slice (some ⟨b', 0, none⟩) rows.length cap) (x := .slice (.own e) rows) hd ⟨hdr, fun e' rows' he => by
    simp at he; obtain ⟨rfl, rfl⟩ := he
    refine .inr ⟨b', cap, cur, rfl, by simp [g'], hnew, hcap, hmax, hcs, fun o ho => ?_, hu⟩
    simp only [g', if_true]
    exact List.getElem?_eq_none (by omega)⟩ (by simp)
  have he : (st.put d .undef).put d (.slice (.own e) rows) = st.put d (.slice (.own e) rows) := by
    simp only [AS.put, AS.mk.injEq, and_true]
    funext j; split <;> simp_all
  rw [he] at h2
  refine ⟨g', h2, ⟨hos, htape, hout, hsize, hle, fun b hb hn => ?_, rfl, fun _ _ => rfl⟩⟩
  have hne : b ≠ b' := fun he => by subst he; have := hnone hn; omega
  exact ⟨hother b hb hne, fun o => by show (if b = b' then _ else g.μ b o) = _; rw [if_neg hne], by show (if b = b' then _ else g.κ b) = _; rw [if_neg hne]; exact hn⟩

/-- A new row: a composite literal of a slice, a make. -/
theorem Rel.newRow (h : Rel P A g st a w) {d : Nat} {e : TypeId} {rows : List (List AV)} {vs : List Value} (hd : d < A.n) (hmax : rows.length ≤ maxLen) (hu : ∀ r ∈ rows, r.length = P.cellsOf e) (hc : CellsR g.μ vs rows.flatten) :
    ∃ g', Rel P A g' (st.put d (.slice (.own e) rows)) (a.put (some d) (.slice (some ⟨w.heap.size, 0, none⟩) rows.length rows.length)) (w.alloc (.cells vs.toArray e)) ∧ Fr w g (w.alloc (.cells vs.toArray e)) g' := by
  have hfl : rows.flatten.length = rows.length * P.cellsOf e := by
    rw [List.length_flatten]
    have : rows.map List.length = List.replicate rows.length (P.cellsOf e) := by
      rw [List.eq_replicate_iff]; simp; exact hu
    rw [this]; simp
  have hvl : vs.length = rows.length * P.cellsOf e := by rw [hc.length, hfl]
  have hk : g.κ w.heap.size = none := by
    cases hk : g.κ w.heap.size with
    | none => rfl
    | some x => exact absurd (h.kl _ _ hk) (Nat.lt_irrefl _)
  refine h.ownBlock (b' := w.heap.size) (cap := rows.length) (cur := vs.toArray) (vs := vs) hd rfl rfl rfl (by simp) (fun b hb _ => heap_alloc_old w _ hb) (heap_alloc_new w _) (fun x hx => by rw [hk] at hx; simp at hx) (fun _ => Nat.le_refl _)
    (Nat.le_refl _) hmax (by simpa using hvl) hu (by simp [← hvl]) hc (fun o v hm => absurd hm (by rw [mu_free h]; simp))

end Go.Abs
