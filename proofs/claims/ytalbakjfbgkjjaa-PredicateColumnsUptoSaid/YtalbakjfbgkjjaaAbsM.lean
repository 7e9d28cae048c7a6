import Derived.Test.YtalbakjfbgkjjaaAbs5
set_option linter.unusedSimpArgs false
namespace Go.Abs
open Go.RowKit

variable {P : Program} {A : Ann} {g : Gh} {st : AS} {a : Act} {w : World}

/-- A slice in a block that the frame owns from now on, and of which nobody else has a view. -/
theorem Rel.exBlock (h : Rel P A g st a w) {d b' cap : Nat} {e : TypeId} {rows : List (List AV)} {w' : World} {cur : Array Value} {vs : List Value} (hd : d < A.n)
    (hos : w'.os = w.os) (htape : w'.tape = w.tape) (hout : w'.output = w.output) (hsize : w.heap.size ≤ w'.heap.size)
    (hother : ∀ b, b < w.heap.size → b ≠ b' → w'.heap[b]? = w.heap[b]?)
    (hnew : w'.heap[b']? = some (.cells cur e (0, 0)))
    (hfree : ∀ x, g.κ b' = some x → (∀ t, (st.tmps t).owns = true → x ≠ .tmp t) ∧ (∀ k, x ≠ .box k) ∧ (∀ k j, x ≠ .cell k j))
    (hnone : g.κ b' = none → w.heap.size ≤ b')
    (hcap : rows.length ≤ cap) (hmax : cap ≤ maxLen) (hcs : cur.size = cap * P.cellsOf e) (hu : ∀ r ∈ rows, r.length = P.cellsOf e)
    (hvs : cur.toList.take (rows.length * P.cellsOf e) = vs) (hc : CellsR g.μ vs rows.flatten)
    (hold : ∀ o, g.μ b' o = none) :
    ∃ g', Rel P A g' (st.put d (.ex e rows)) (a.put (some d) (.slice (some ⟨b', 0, none⟩) rows.length cap)) w' ∧ Fr w g w' g' := by
  let g' : Gh := ⟨g.ρ, fun b => if b = b' then some (.tmp d) else g.κ b, g.μ, g.np⟩
  have hkeep : ∀ x, g.κ b' ≠ some x → Keeps g w g' w' x := by
    intro x hx b hb
    have hne : b ≠ b' := fun he => by subst he; exact hx hb
    exact ⟨by show (if b = b' then _ else g.κ b) = _; rw [if_neg hne]; exact hb, hother b (h.kl b x hb) hne, fun _ => rfl⟩
  have hmu : ∀ b o v, g'.μ b o = some v → w'.cell? ⟨b, o, none⟩ = some v := by
    intro b o v hm
    have hm : g.μ b o = some v := hm
    have hne : b ≠ b' := fun he => by subst he; rw [hold] at hm; simp at hm
    rw [World.cell?_of_block (w := w) (hother b (mu_lt h hm) hne)]
    exact h.mu b o v hm
  have hb'lt : b' < w'.heap.size := (Array.getElem?_eq_some_iff.1 hnew).1
  have h1 : Rel P A g' (st.put d .undef) a w' := by
    refine (h.forget d).turn (Mem.le.refl _) (fun _ _ => rfl) (fun _ _ _ => rfl) (fun _ _ _ _ _ _ _ _ => rfl) (fun t ht => hkeep _ (fun hk => ?_)) (fun k _ => hkeep _ (fun hk => (hfree _ hk).2.1 k rfl)) (fun k j _ => hkeep _ (fun hk => (hfree _ hk).2.2 k j rfl)) hmu (fun b x hx => ?_) rfl
    · rw [AS.tmps_put] at ht
      split at ht
      · simp at ht
      · exact (hfree _ hk).1 t ht rfl
    · simp only [g'] at hx
      split at hx
      · rename_i he; subst he; exact hb'lt
      · exact Nat.lt_of_lt_of_le (h.kl b x hx) hsize
  have h2 := h1.putAny (t := d) (v := .slice (some ⟨b', 0, none⟩) rows.length cap) (x := .ex e rows) hd (show ExOK P g' w' (.tmp d) _ e rows from .inr ⟨b', cap, cur, rfl, by simp [g'], hnew, hcap, hmax, hcs, hold, hu, by rw [hvs]; exact hc⟩) (by simp)
  have he : (st.put d .undef).put d (.ex e rows) = st.put d (.ex e rows) := by
    simp only [AS.put, AS.mk.injEq, and_true]
    funext j; split <;> simp_all
  rw [he] at h2
  refine ⟨g', h2, ⟨hos, htape, hout, hsize, Mem.le.refl _, fun b hb hn => ?_, rfl, fun _ _ => rfl⟩⟩
  have hne : b ≠ b' := fun he => by subst he; have := hnone hn; omega
  exact ⟨hother b hb hne, fun _ => rfl, by show (if b = b' then _ else g.κ b) = _; rw [if_neg hne]; exact hn⟩

/-- A new row of one's own. -/
theorem Rel.newRowEx (h : Rel P A g st a w) {d : Nat} {e : TypeId} {rows : List (List AV)} {vs : List Value} (hd : d < A.n) (hmax : rows.length ≤ maxLen) (hu : ∀ r ∈ rows, r.length = P.cellsOf e) (hc : CellsR g.μ vs rows.flatten) :
    ∃ g', Rel P A g' (st.put d (.ex e rows)) (a.put (some d) (.slice (some ⟨w.heap.size, 0, none⟩) rows.length rows.length)) (w.alloc (.cells vs.toArray e)) ∧ Fr w g (w.alloc (.cells vs.toArray e)) g' := by
  have hvl : vs.length = rows.length * P.cellsOf e := by rw [hc.length, flatten_len hu]
  refine h.exBlock (b' := w.heap.size) (cap := rows.length) (cur := vs.toArray) (vs := vs) hd rfl rfl rfl (by simp) (fun b hb _ => heap_alloc_old w _ hb) (heap_alloc_new w _) (fun x hx => by rw [kfree h] at hx; simp at hx) (fun _ => Nat.le_refl _)
    (Nat.le_refl _) hmax (by simpa using hvl) hu (by simp [← hvl]) hc (fun o => mu_free h o)

theorem Rel.appendEx (h : Rel P A g st a w) {t d : Nat} (T ty e : TypeId) (i : TypeInfo) (z : Value) (hT : P.underlying T = some (.slice e)) (hi : P.info? e = some i) (hz : i.zero = some z) (hzs : z.cells.size = i.size)
    {v0 : Value} {rows : List (List AV)} (hown : ExOK P g w (.tmp t) v0 e rows) (hfree : ∀ u, (st.tmps u).owns = true → u ≠ t)
    {v2 : Value} {tag2 : Tag} {rows2 : List (List AV)} (hsrc : DR g.μ v2 (.slice tag2 rows2)) (hu2 : ∀ r ∈ rows2, r.length = i.size)
    (hmax : rows.length + rows2.length ≤ maxLen) (hbytes : (rows.length + rows2.length) * i.bytes ≤ 140737488355328) (hd : d < A.n) :
    ∃ v' w' g', (Builtin.append_ #[T, T] ty #[v0, v2]).run P w = .ok v' w' ∧ Rel P A g' (st.put d (.ex e (rows ++ rows2))) (a.put (some d) v') w' ∧ Fr w g w' g' := by
  have hce := cellsOf_info hi
  have hsmall : ((rows.length + rows2.length : Nat) : Int) ≤ 9223372036854775807 := by simp only [maxLen] at hmax; omega
  have hfree' : ∀ b, g.κ b = some (.tmp t) → ∀ x, g.κ b = some x → (∀ t, (st.tmps t).owns = true → x ≠ .tmp t) ∧ (∀ k, x ≠ .box k) ∧ (∀ k j, x ≠ .cell k j) := by
    intro b hk x hx
    rw [hk] at hx
    obtain rfl : Ent.tmp t = x := by simpa using hx
    refine ⟨fun u hu he => ?_, by simp, by simp⟩
    simp at he
    exact hfree u hu he.symm
  cases hsrc with
  | @sliceE a2 cap2 _ hnil =>
    -- nothing is appended
    have hrun : ∀ (base : Option Addr) (n c : Nat), n ≤ c → (Builtin.append_ #[T, T] ty #[.slice base n c, .slice a2 0 cap2]).run P w = .ok (.slice base n c) w := by
      intro base n c hnc
      cases base <;> cases a2 <;> simp [Builtin.append_, run_underlying hT, sizeOf, typeInfo, hi, Builtin.lenOf, Builtin.firstCells, loadCells, loadCellsFrom, storeCells, hnc]
    rcases hown with ⟨hv0, hr⟩ | ⟨b, cap, cur, hv0, hk, hh, r1, r2, r3, r4, r5, hc⟩
    · subst hv0; subst hr
      exact ⟨_, _, g, hrun none 0 0 (Nat.le_refl _), h.putAny hd (show TR P g w d _ (.ex e ([] ++ [])) from .inl ⟨rfl, rfl⟩) (by simp), Fr.refl _ _⟩
    · subst hv0
      obtain ⟨g', q1, q2⟩ := h.exBlock (d := d) (b' := b) (cap := cap) (e := e) (rows := rows) (w' := w) (cur := cur) hd rfl rfl rfl (Nat.le_refl _) (fun _ _ _ => rfl) hh (hfree' b hk) (fun hn => by rw [hk] at hn; simp at hn) r1 r2 r3 r5 rfl hc r4
      exact ⟨_, _, g', hrun _ _ _ r1, by simpa using q1, q2⟩
  | @slice b2 off2 cap2 _ r2 rs2 n2 ht2 huni hn2 _ hc2 =>
    subst hn2
    obtain ⟨news, hnr, hnm⟩ := hc2.vals
    have hnl : news.length = (rs2.length + 1) * i.size := by rw [hnr.length, flatten_len hu2]; simp
    have hnews : ∀ j u, news[j]? = some u → w.cell? ((⟨b2, off2, none⟩ : Addr).add j) = some u := fun j u hu => by rw [add_lit]; exact h.mu _ _ _ (hnm j u hu)
    have hlen2 : (r2 :: rs2).length = rs2.length + 1 := rfl
    -- the row in a new block
    have grown : ∀ (olds : List Value) (old : Nat), CellsR g.μ olds rows.flatten → old < rows.length + (rs2.length + 1) → (∀ r ∈ rows, r.length = P.cellsOf e) →
        ∃ g', Rel P A g' (st.put d (.ex e (rows ++ (r2 :: rs2)))) (a.put (some d) (.slice (some ⟨w.heap.size, 0, none⟩) (rows.length + (rs2.length + 1)) (grownCap w (rows.length + (rs2.length + 1)) old e)))
            (w.drew.alloc (.cells (olds.toArray ++ news.toArray ++ Builtin.zeroCells z.cells (grownCap w (rows.length + (rs2.length + 1)) old e - (rows.length + (rs2.length + 1)))) e)) ∧
          Fr w g (w.drew.alloc (.cells (olds.toArray ++ news.toArray ++ Builtin.zeroCells z.cells (grownCap w (rows.length + (rs2.length + 1)) old e - (rows.length + (rs2.length + 1)))) e)) g' := by
      intro olds old hol ho hur
      have hge := grownCap_ge w (rows.length + (rs2.length + 1)) old e
      have hcm := grownCap_le_maxLen w (rows.length + (rs2.length + 1)) old e hmax
      have hall : CellsR g.μ (olds ++ news) (rows ++ (r2 :: rs2)).flatten := by rw [List.flatten_append]; exact hol.append hnr
      have hol' : olds.length = rows.length * i.size := by rw [hol.length, flatten_len hur, hce]
      have hur' : ∀ r ∈ rows ++ (r2 :: rs2), r.length = P.cellsOf e := by
        intro r hr
        rcases List.mem_append.1 hr with hr | hr
        · exact hur r hr
        · rw [hu2 r hr, hce]
      have hlen : (rows ++ (r2 :: rs2)).length = rows.length + (rs2.length + 1) := by simp
      obtain ⟨g', q1, q2⟩ := h.exBlock (d := d) (b' := w.heap.size) (cap := grownCap w (rows.length + (rs2.length + 1)) old e) (e := e) (rows := rows ++ (r2 :: rs2)) (w' := w.drew.alloc (.cells (olds.toArray ++ news.toArray ++ Builtin.zeroCells z.cells (grownCap w (rows.length + (rs2.length + 1)) old e - (rows.length + (rs2.length + 1)))) e))
        (vs := olds ++ news) hd rfl rfl rfl (by simp) (fun b hb _ => heap_alloc_old w.drew _ hb) (heap_alloc_new w.drew _) (fun x hx => by rw [kfree h] at hx; simp at hx) (fun _ => Nat.le_refl _) (by rw [hlen]; exact hge) hcm
        (by
          simp only [Array.size_append, List.size_toArray, size_zeroCells, hzs, hol', hnl, hce, ← Nat.add_mul]
          congr 1
          omega) hur'
        (by
          rw [hlen, hce, Array.toList_append, Array.toList_append]
          rw [List.take_left' (by simp only [List.length_append, hol', hnl, ← Nat.add_mul])]) hall (fun o => mu_free h o)
      exact ⟨g', by rw [hlen] at q1; exact q1, q2⟩
    rcases hown with ⟨hv0, hr⟩ | ⟨b, cap, cur, hv0, hk, hh, r1, r3, r4, r5, r6, hc⟩
    · subst hv0; subst hr
      have hrun := run_append_nil (P := P) w T ty e i z hT hi hz ⟨b2, off2, none⟩ (rs2.length + 1) cap2 news hnl hnews (by omega) (by simpa using hsmall) (by simp at hbytes; omega)
      obtain ⟨g', q1, q2⟩ := grown [] 0 .nil (by omega) (by simp)
      simp only [List.length_nil, Nat.zero_add, Array.empty_append] at q1 q2
      exact ⟨_, _, g', hrun, q1, q2⟩
    · subst hv0
      have hsz : rows.length * P.cellsOf e ≤ cur.size := by rw [r4]; exact Nat.mul_le_mul_right _ r1
      by_cases hroom : rows.length + (rs2.length + 1) ≤ cap
      · have hfit : rows.length * i.size + news.length ≤ cur.size := by rw [hnl, r4, hce, ← Nat.add_mul]; exact Nat.mul_le_mul_right _ hroom
        have hrun := run_append_room (P := P) w T ty e i hT hi b rows.length cap cur hh ⟨b2, off2, none⟩ (rs2.length + 1) cap2 news hnl hnews hnr.one hroom hfit
        have hlen : (rows ++ (r2 :: rs2)).length = rows.length + (rs2.length + 1) := by simp
        have htake : (cur.toList.take (rows.length * i.size) ++ news ++ cur.toList.drop (rows.length * i.size + news.length)).take ((rows.length + (rs2.length + 1)) * i.size) = cur.toList.take (rows.length * i.size) ++ news := by
          rw [List.take_left' ]
          simp only [List.length_append, List.length_take, Array.length_toList, hnl, Nat.add_mul]
          rw [hce] at hsz
          omega
        obtain ⟨g', q1, q2⟩ := h.exBlock (d := d) (b' := b) (cap := cap) (e := e) (rows := rows ++ (r2 :: rs2)) (w' := w.setRow b (cur.toList.take (rows.length * i.size) ++ news ++ cur.toList.drop (rows.length * i.size + news.length)).toArray)
          (vs := cur.toList.take (rows.length * i.size) ++ news) hd rfl rfl rfl (by simp) (fun c _ hc => setRow_other w b c _ hc) (setRow_heap w b cur _ e _ hh) (hfree' b hk) (fun hn => by rw [hk] at hn; simp at hn) (by rw [hlen]; exact hroom) r3
          (by simp only [List.size_toArray, List.length_append, List.length_take, List.length_drop, Array.length_toList]; omega)
          (by
            intro r hr
            rcases List.mem_append.1 hr with hr | hr
            · exact r6 r hr
            · rw [hu2 r hr, hce])
          (by rw [hlen, hce]; exact htake) (by rw [List.flatten_append]; rw [hce] at hc; exact hc.append hnr)
          r5
        exact ⟨_, _, g', hrun, by rw [hlen] at q1; exact q1, q2⟩
      · have hrun := run_append_grow (P := P) w T ty e i z hT hi hz ⟨b, 0, none⟩ rows.length cap (cur.toList.take (rows.length * i.size)) (by rw [hce] at hsz; simp; omega)
          (fun j v hv => by
            rw [add_lit, cell_heap hh]
            rw [List.getElem?_take] at hv
            split at hv
            · simpa using hv
            · simp at hv) ⟨b2, off2, none⟩ (rs2.length + 1) cap2 news hnl hnews (by omega) hsmall (growslice_fits (by omega) hbytes)
        rw [hce] at hc
        obtain ⟨g', q1, q2⟩ := grown _ cap hc (by omega) r6
        exact ⟨_, _, g', hrun, q1, q2⟩


/-- An append to a slice without spare room makes a new row. -/
theorem Rel.appendFs (h : Rel P A g st a w) {d : Nat} (T ty e : TypeId) (i : TypeInfo) (z : Value) (hT : P.underlying T = some (.slice e)) (hi : P.info? e = some i) (hz : i.zero = some z) (hzs : z.cells.size = i.size)
    {v0 : Value} {tag : Tag} {rows : List (List AV)} (hdr0 : DR g.μ v0 (.slice tag rows)) (hfull : ∃ ad n, v0 = .slice ad n n) (hur : ∀ r ∈ rows, r.length = i.size)
    {v2 : Value} {tag2 : Tag} {r2 : List AV} {rs2 : List (List AV)} (hsrc : DR g.μ v2 (.slice tag2 (r2 :: rs2))) (hu2 : ∀ r ∈ r2 :: rs2, r.length = i.size)
    (hmax : rows.length + (rs2.length + 1) ≤ maxLen) (hbytes : (rows.length + (rs2.length + 1)) * i.bytes ≤ 140737488355328) (hd : d < A.n) :
    ∃ v' w' g', (Builtin.append_ #[T, T] ty #[v0, v2]).run P w = .ok v' w' ∧ Rel P A g' (st.put d (.ex e (rows ++ (r2 :: rs2)))) (a.put (some d) v') w' ∧ Fr w g w' g' := by
  have hce := cellsOf_info hi
  have hsmall : ((rows.length + (rs2.length + 1) : Nat) : Int) ≤ 9223372036854775807 := by simp only [maxLen] at hmax; omega
  obtain ⟨ad, n0, hv0⟩ := hfull
  subst hv0
  cases hsrc with
  | @slice b2 off2 cap2 _ _ _ n2 ht2 huni hn2 _ hc2 =>
    subst hn2
    obtain ⟨news, hnr, hnm⟩ := hc2.vals
    have hnl : news.length = (rs2.length + 1) * i.size := by rw [hnr.length, flatten_len hu2]; simp
    have hnews : ∀ j u, news[j]? = some u → w.cell? ((⟨b2, off2, none⟩ : Addr).add j) = some u := fun j u hu => by rw [add_lit]; exact h.mu _ _ _ (hnm j u hu)
    have grown : ∀ (olds : List Value) (old : Nat), CellsR g.μ olds rows.flatten →
        ∃ g', Rel P A g' (st.put d (.ex e (rows ++ (r2 :: rs2)))) (a.put (some d) (.slice (some ⟨w.heap.size, 0, none⟩) (rows.length + (rs2.length + 1)) (grownCap w (rows.length + (rs2.length + 1)) old e)))
            (w.drew.alloc (.cells (olds.toArray ++ news.toArray ++ Builtin.zeroCells z.cells (grownCap w (rows.length + (rs2.length + 1)) old e - (rows.length + (rs2.length + 1)))) e)) ∧
          Fr w g (w.drew.alloc (.cells (olds.toArray ++ news.toArray ++ Builtin.zeroCells z.cells (grownCap w (rows.length + (rs2.length + 1)) old e - (rows.length + (rs2.length + 1)))) e)) g' := by
      intro olds old hol
      have hge := grownCap_ge w (rows.length + (rs2.length + 1)) old e
      have hcm := grownCap_le_maxLen w (rows.length + (rs2.length + 1)) old e hmax
      have hall : CellsR g.μ (olds ++ news) (rows ++ (r2 :: rs2)).flatten := by rw [List.flatten_append]; exact hol.append hnr
      have hol' : olds.length = rows.length * i.size := by rw [hol.length, flatten_len hur]
      have hur' : ∀ r ∈ rows ++ (r2 :: rs2), r.length = P.cellsOf e := by
        intro r hr
        rw [hce]
        rcases List.mem_append.1 hr with hr | hr
        · exact hur r hr
        · exact hu2 r hr
      have hlen : (rows ++ (r2 :: rs2)).length = rows.length + (rs2.length + 1) := by simp
      obtain ⟨g', q1, q2⟩ := h.exBlock (d := d) (b' := w.heap.size) (cap := grownCap w (rows.length + (rs2.length + 1)) old e) (e := e) (rows := rows ++ (r2 :: rs2)) (w' := w.drew.alloc (.cells (olds.toArray ++ news.toArray ++ Builtin.zeroCells z.cells (grownCap w (rows.length + (rs2.length + 1)) old e - (rows.length + (rs2.length + 1)))) e))
        (vs := olds ++ news) hd rfl rfl rfl (by simp) (fun b hb _ => heap_alloc_old w.drew _ hb) (heap_alloc_new w.drew _) (fun x hx => by rw [kfree h] at hx; simp at hx) (fun _ => Nat.le_refl _) (by rw [hlen]; exact hge) hcm
        (by
          simp only [Array.size_append, List.size_toArray, size_zeroCells, hzs, hol', hnl, hce, ← Nat.add_mul]
          congr 1
          omega) hur'
        (by
          rw [hlen, hce, Array.toList_append, Array.toList_append]
          rw [List.take_left' (by simp only [List.length_append, hol', hnl, ← Nat.add_mul])]) hall (fun o => mu_free h o)
      exact ⟨g', by rw [hlen] at q1; exact q1, q2⟩
    cases hdr0 with
    | @sliceE ad' cap' _ hnil =>
      obtain ⟨g', q1, q2⟩ := grown [] 0 .nil
      simp only [List.length_nil, Nat.zero_add] at q1 q2 hbytes hsmall
      cases ad with
      | none =>
        have hrun := run_append_nil (P := P) w T ty e i z hT hi hz ⟨b2, off2, none⟩ (rs2.length + 1) cap2 news hnl hnews (by omega) hsmall (by omega)
        simp only [Array.empty_append] at q1 q2
        exact ⟨_, _, g', hrun, q1, q2⟩
      | some a0 =>
        have hrun := run_append_grow (P := P) w T ty e i z hT hi hz a0 0 0 [] (by simp) (by simp) ⟨b2, off2, none⟩ (rs2.length + 1) cap2 news hnl hnews (by omega) (by simpa using hsmall) (growslice_fits (by omega) (by simpa using hbytes))
        simp only [Nat.zero_add] at hrun
        exact ⟨_, _, g', hrun, q1, q2⟩
    | @slice b off cap _ r rs n ht hu hn hcap hca =>
      obtain ⟨olds, hor, hom⟩ := hca.vals
      obtain ⟨g', q1, q2⟩ := grown olds (rs.length + 1) hor
      have hol' : olds.length = (rs.length + 1) * i.size := by rw [hor.length, flatten_len hur]; simp
      subst hn
      have hrun := run_append_grow (P := P) w T ty e i z hT hi hz ⟨b, off, none⟩ (rs.length + 1) (rs.length + 1) olds hol' (fun j v hv => by rw [add_lit]; exact h.mu _ _ _ (hom j v hv)) ⟨b2, off2, none⟩ (rs2.length + 1) cap2 news hnl hnews (by omega) (by simpa using hsmall) (growslice_fits (by omega) (by simpa using hbytes))
      exact ⟨_, _, g', hrun, by simpa using q1, by simpa using q2⟩

/-- Taking: the slice of slot t goes to slot d, whole. -/
theorem Rel.takeEx (h : Rel P A g st a w) {t d : Nat} {e : TypeId} {rows : List (List AV)} (ht : st.tmps t = .ex e rows) (hd : d < A.n) (hne : t ≠ d) :
    ∃ g', Rel P A g' ((st.put t .undef).put d (.ex e rows)) (a.put (some d) (a.tmps.getD t undef)) w ∧ Fr w g w g' := by
  have htr := h.tm t
  rw [ht] at htr
  have hown : ExOK P g w (.tmp t) (a.tmps.getD t undef) e rows := htr
  have h1 := h.forget t
  rcases hown with ⟨hv, hr⟩ | ⟨b, cap, cur, hv, hk, hheap, r1, r2, r3, r4, r5, r6⟩
  · exact ⟨g, h1.putAny hd (x := .ex e rows) (show ExOK P g w (.tmp d) _ e rows from .inl ⟨hv, hr⟩) (by simp), Fr.refl _ _⟩
  · refine ⟨g.hand b (.tmp d), ?_, Fr.hand w hk _⟩
    have h2 : Rel P A (g.hand b (.tmp d)) ((st.put t .undef).put d .undef) a w := by
      refine (h1.forget d).turn (Mem.le.refl _) (fun _ _ => rfl) (fun _ _ _ => rfl) (fun _ _ _ _ _ _ _ _ => rfl) (fun u hu => keeps_hand hk (fun he => ?_) _) (fun k _ => keeps_hand hk (by simp) _) (fun k j _ => keeps_hand hk (by simp) _) h.mu (hand_kl h hk _) rfl
      simp at he
      subst he
      simp [AS.tmps_put, hne] at hu
    have h3 := h2.putAny (t := d) (v := a.tmps.getD t undef) (x := .ex e rows) hd (show ExOK P (g.hand b (.tmp d)) w (.tmp d) _ e rows from .inr ⟨b, cap, cur, hv, by simp [Gh.hand], hheap, r1, r2, r3, r4, r5, r6⟩) (by simp)
    have : ((st.put t .undef).put d .undef).put d (.ex e rows) = (st.put t .undef).put d (.ex e rows) := by
      simp only [AS.put, AS.mk.injEq, and_true]
      funext u; split <;> simp_all
    rw [this] at h3
    exact h3

end Go.Abs
