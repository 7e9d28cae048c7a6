import Derived.Test.YtalbakjfbgkjjaaAbs4
set_option linter.unusedSimpArgs false
namespace Go.Abs
open Go.RowKit

variable {P : Program} {A : Ann} {g : Gh} {st : AS} {a : Act} {w : World}

theorem cellsOf_info {e : TypeId} {i : TypeInfo} (hi : P.info? e = some i) : P.cellsOf e = i.size := by simp [Program.cellsOf, hi]

theorem flatten_len {rows : List (List AV)} {s : Nat} (hu : ∀ r ∈ rows, r.length = s) : rows.flatten.length = rows.length * s := by
  rw [List.length_flatten]
  have : rows.map List.length = List.replicate rows.length s := by
    rw [List.eq_replicate_iff]; simp; exact hu
  rw [this]; simp

theorem add_lit (b o j : Nat) : (⟨b, o, none⟩ : Addr).add j = ⟨b, o + j, none⟩ := by unfold Addr.add; split <;> simp_all

theorem cell_heap {b o : Nat} {cur : Array Value} {e : TypeId} {fz : Nat × Nat} (h : w.heap[b]? = some (.cells cur e fz)) : w.cell? ⟨b, o, none⟩ = cur[o]? := by simp [World.cell?, h]

theorem DR.slice_at {μ : Mem} {v : Value} {tag : Tag} {rows : List (List AV)} (h : DR μ v (.slice tag rows)) : ∀ b off n cap, v = .slice (some ⟨b, off, none⟩) n cap → CellsAt μ b off rows.flatten := by
  intro b off n cap hv
  cases h with
  | sliceE _ => exact .nil
  | slice ht hu' hn _ hc => simp at hv; obtain ⟨⟨rfl, rfl⟩, _⟩ := hv; exact hc

/-- The values in memory of an owned row. -/
theorem own_vals (h : Rel P A g st a w) {x : Ent} {b cap : Nat} {cur : Array Value} {e : TypeId} {rows : List (List AV)} (hdr : DR g.μ (.slice (some ⟨b, 0, none⟩) rows.length cap) (.slice (.own e) rows))
    (hh : w.heap[b]? = some (.cells cur e (0, 0))) (hle : rows.length ≤ cap) (hcs : cur.size = cap * P.cellsOf e) (hu : ∀ r ∈ rows, r.length = P.cellsOf e) (_hk : g.κ b = some x) (htail : ∀ o, rows.length * P.cellsOf e ≤ o → g.μ b o = none) :
    CellsR g.μ (cur.toList.take (rows.length * P.cellsOf e)) rows.flatten ∧ (∀ o v, g.μ b o = some v → (cur.toList.take (rows.length * P.cellsOf e))[o]? = some v) := by
  have hsz : rows.length * P.cellsOf e ≤ cur.size := by rw [hcs]; exact Nat.mul_le_mul_right _ hle
  refine ⟨?_, fun o v hm => ?_⟩
  · have hca : CellsAt g.μ b 0 rows.flatten := hdr.slice_at _ _ _ _ rfl
    refine CellsR.mk (by rw [flatten_len hu]; simp; omega) fun j v y hv hy => ?_
    obtain ⟨u, hu1, hu2, hu3⟩ := hca.get hy
    have hcell := h.mu _ _ _ hu1
    rw [cell_heap hh] at hcell
    rw [List.getElem?_take] at hv
    split at hv
    · simp only [Nat.zero_add] at hcell
      rw [Array.getElem?_toList, hcell] at hv
      obtain rfl : u = v := by simpa using hv
      exact ⟨hu2, hu3⟩
    · simp at hv
  · have hlt : o < rows.length * P.cellsOf e := by
      rcases Nat.lt_or_ge o (rows.length * P.cellsOf e) with h1 | h1
      · exact h1
      · rw [htail o h1] at hm; simp at hm
    have hcell := h.mu _ _ _ hm
    rw [cell_heap hh] at hcell
    rw [List.getElem?_take, if_pos hlt]
    simpa using hcell

theorem kfree (h : Rel P A g st a w) : g.κ w.heap.size = none := by
  cases hk : g.κ w.heap.size with
  | none => rfl
  | some x => exact absurd (h.kl _ _ hk) (Nat.lt_irrefl _)

theorem Rel.append (h : Rel P A g st a w) {t d : Nat} (T ty e : TypeId) (i : TypeInfo) (z : Value) (hT : P.underlying T = some (.slice e)) (hi : P.info? e = some i) (hz : i.zero = some z) (hzs : z.cells.size = i.size)
    {v0 : Value} {rows : List (List AV)} (hdr0 : DR g.μ v0 (.slice (.own e) rows)) (hown : OwnOK P g w (.tmp t) v0 (.slice (.own e) rows)) (hfree : ∀ u, (st.tmps u).owns = true → u ≠ t)
    {v2 : Value} {tag2 : Tag} {rows2 : List (List AV)} (hsrc : DR g.μ v2 (.slice tag2 rows2)) (hu2 : ∀ r ∈ rows2, r.length = i.size)
    (hmax : rows.length + rows2.length ≤ maxLen) (hbytes : (rows.length + rows2.length) * i.bytes ≤ 140737488355328) (hd : d < A.n) :
    ∃ v' w' g', (Builtin.append_ #[T, T] ty #[v0, v2]).run P w = .ok v' w' ∧ Rel P A g' (st.put d (.slice (.own e) (rows ++ rows2))) (a.put (some d) v') w' ∧ Fr w g w' g' := by
  have hce := cellsOf_info hi
  have hsmall : ((rows.length + rows2.length : Nat) : Int) ≤ 9223372036854775807 := by simp only [maxLen] at hmax; omega
  have hfree' : ∀ b, g.κ b = some (.tmp t) → ∀ x, g.κ b = some x → (∀ t, (st.tmps t).owns = true → x ≠ .tmp t) ∧ (∀ k, x ≠ .box k) ∧ (∀ k j, x ≠ .cell k j) := by
    intro b hk x hx
    rw [hk] at hx
    obtain rfl : Ent.tmp t = x := by simpa using hx
    refine ⟨fun u hu he => ?_, by simp, by simp⟩
    simp at he
    exact hfree u hu he.symm
  cases hsrc with
  | @sliceE a2 cap2 _ hnil =>
    -- nothing is appended
    have hrun : ∀ (base : Option Addr) (n c : Nat), n ≤ c → (Builtin.append_ #[T, T] ty #[.slice base n c, .slice a2 0 cap2]).run P w = .ok (.slice base n c) w := by
      intro base n c hnc
      cases base <;> cases a2 <;> simp [Builtin.append_, run_underlying hT, sizeOf, typeInfo, hi, Builtin.lenOf, Builtin.firstCells, loadCells, loadCellsFrom, storeCells, hnc]
    rcases hown e rows rfl with ⟨hv0, hr⟩ | ⟨b, cap, cur, hv0, hk, hh, r1, r2, r3, r4, r5⟩
    · subst hv0; subst hr
      exact ⟨_, _, g, hrun none 0 0 (Nat.le_refl _), h.putAny hd ⟨hdr0, fun e' rows' he => by simp at he; exact .inl ⟨rfl, he.2.symm ▸ rfl⟩⟩ (by simp), Fr.refl _ _⟩
    · subst hv0
      obtain ⟨hc, hold⟩ := own_vals h hdr0 hh r1 r3 r5 hk r4
      obtain ⟨g', q1, q2⟩ := h.ownBlock (d := d) (b' := b) (cap := cap) (e := e) (rows := rows) (w' := w) (cur := cur) hd rfl rfl rfl (Nat.le_refl _) (fun _ _ _ => rfl) hh (hfree' b hk) (fun hn => by rw [hk] at hn; simp at hn) r1 r2 r3 r5 rfl hc hold
      exact ⟨_, _, g', hrun _ _ _ r1, by simpa using q1, q2⟩
  | @slice b2 off2 cap2 _ r2 rs2 n2 ht2 huni hn2 _ hc2 =>
    subst hn2
    obtain ⟨news, hnr, hnm⟩ := hc2.vals
    have hnl : news.length = (rs2.length + 1) * i.size := by rw [hnr.length, flatten_len hu2]; simp
    have hnews : ∀ j u, news[j]? = some u → w.cell? ((⟨b2, off2, none⟩ : Addr).add j) = some u := fun j u hu => by rw [add_lit]; exact h.mu _ _ _ (hnm j u hu)
    have hlen2 : (r2 :: rs2).length = rs2.length + 1 := rfl
    -- the row in a new block
    have grown : ∀ (olds : List Value) (old : Nat), CellsR g.μ olds rows.flatten → old < rows.length + (rs2.length + 1) → (∀ r ∈ rows, r.length = P.cellsOf e) →
        ∃ g', Rel P A g' (st.put d (.slice (.own e) (rows ++ (r2 :: rs2)))) (a.put (some d) (.slice (some ⟨w.heap.size, 0, none⟩) (rows.length + (rs2.length + 1)) (grownCap w (rows.length + (rs2.length + 1)) old e)))
            (w.drew.alloc (.cells (olds.toArray ++ news.toArray ++ Builtin.zeroCells z.cells (grownCap w (rows.length + (rs2.length + 1)) old e - (rows.length + (rs2.length + 1)))) e)) ∧
          Fr w g (w.drew.alloc (.cells (olds.toArray ++ news.toArray ++ Builtin.zeroCells z.cells (grownCap w (rows.length + (rs2.length + 1)) old e - (rows.length + (rs2.length + 1)))) e)) g' := by
      intro olds old hol ho hur
      have hge := grownCap_ge w (rows.length + (rs2.length + 1)) old e
      have hcm := grownCap_le_maxLen w (rows.length + (rs2.length + 1)) old e hmax
      have hall : CellsR g.μ (olds ++ news) (rows ++ (r2 :: rs2)).flatten := by rw [List.flatten_append]; exact hol.append hnr
      have hol' : olds.length = rows.length * i.size := by rw [hol.length, flatten_len hur, hce]
      have hur' : ∀ r ∈ rows ++ (r2 :: rs2), r.length = P.cellsOf e := by
        intro r hr
        rcases List.mem_append.1 hr with hr | hr
        · exact hur r hr
        · rw [hu2 r hr, hce]
      have hlen : (rows ++ (r2 :: rs2)).length = rows.length + (rs2.length + 1) := by simp
      obtain ⟨g', q1, q2⟩ := h.ownBlock (d := d) (b' := w.heap.size) (cap := grownCap w (rows.length + (rs2.length + 1)) old e) (e := e) (rows := rows ++ (r2 :: rs2)) (w' := w.drew.alloc (.cells (olds.toArray ++ news.toArray ++ Builtin.zeroCells z.cells (grownCap w (rows.length + (rs2.length + 1)) old e - (rows.length + (rs2.length + 1)))) e))
        (vs := olds ++ news) hd rfl rfl rfl (by simp) (fun b hb _ => heap_alloc_old w.drew _ hb) (heap_alloc_new w.drew _) (fun x hx => by rw [kfree h] at hx; simp at hx) (fun _ => Nat.le_refl _) (by rw [hlen]; exact hge) hcm
        (by
          simp only [Array.size_append, List.size_toArray, size_zeroCells, hzs, hol', hnl, hce, ← Nat.add_mul]
          congr 1
          omega) hur'
        (by
          rw [hlen, hce, Array.toList_append, Array.toList_append]
          rw [List.take_left' (by simp only [List.length_append, hol', hnl, ← Nat.add_mul])]) hall (fun o v hm => absurd hm (by rw [mu_free h]; simp))
      exact ⟨g', by rw [hlen] at q1; exact q1, q2⟩
    rcases hown e rows rfl with ⟨hv0, hr⟩ | ⟨b, cap, cur, hv0, hk, hh, r1, r3, r4, r5, r6⟩
    · subst hv0; subst hr
      have hrun := run_append_nil (P := P) w T ty e i z hT hi hz ⟨b2, off2, none⟩ (rs2.length + 1) cap2 news hnl hnews (by omega) (by simpa using hsmall) (by simp at hbytes; omega)
      obtain ⟨g', q1, q2⟩ := grown [] 0 .nil (by omega) (by simp)
      simp only [List.length_nil, Nat.zero_add, Array.empty_append] at q1 q2
      exact ⟨_, _, g', hrun, q1, q2⟩
    · subst hv0
      obtain ⟨hc, hold⟩ := own_vals h hdr0 hh r1 r4 r6 hk r5
      have hsz : rows.length * P.cellsOf e ≤ cur.size := by rw [r4]; exact Nat.mul_le_mul_right _ r1
      by_cases hroom : rows.length + (rs2.length + 1) ≤ cap
      · have hfit : rows.length * i.size + news.length ≤ cur.size := by rw [hnl, r4, hce, ← Nat.add_mul]; exact Nat.mul_le_mul_right _ hroom
        have hrun := run_append_room (P := P) w T ty e i hT hi b rows.length cap cur hh ⟨b2, off2, none⟩ (rs2.length + 1) cap2 news hnl hnews hnr.one hroom hfit
        have hlen : (rows ++ (r2 :: rs2)).length = rows.length + (rs2.length + 1) := by simp
        have htake : (cur.toList.take (rows.length * i.size) ++ news ++ cur.toList.drop (rows.length * i.size + news.length)).take ((rows.length + (rs2.length + 1)) * i.size) = cur.toList.take (rows.length * i.size) ++ news := by
          rw [List.take_left' ]
          simp only [List.length_append, List.length_take, Array.length_toList, hnl, Nat.add_mul]
          rw [hce] at hsz
          omega
        obtain ⟨g', q1, q2⟩ := h.ownBlock (d := d) (b' := b) (cap := cap) (e := e) (rows := rows ++ (r2 :: rs2)) (w' := w.setRow b (cur.toList.take (rows.length * i.size) ++ news ++ cur.toList.drop (rows.length * i.size + news.length)).toArray)
          (vs := cur.toList.take (rows.length * i.size) ++ news) hd rfl rfl rfl (by simp) (fun c _ hc => setRow_other w b c _ hc) (setRow_heap w b cur _ e _ hh) (hfree' b hk) (fun hn => by rw [hk] at hn; simp at hn) (by rw [hlen]; exact hroom) r3
          (by simp only [List.size_toArray, List.length_append, List.length_take, List.length_drop, Array.length_toList]; omega)
          (by
            intro r hr
            rcases List.mem_append.1 hr with hr | hr
            · exact r6 r hr
            · rw [hu2 r hr, hce])
          (by rw [hlen, hce]; exact htake) (by rw [List.flatten_append]; rw [hce] at hc; exact hc.append hnr)
          (fun o v hm => by
            have := hold o v hm
            rw [hce] at this
            exact (List.getElem?_append_left (List.getElem?_eq_some_iff.1 this).1).trans this)
        exact ⟨_, _, g', hrun, by rw [hlen] at q1; exact q1, q2⟩
      · have hrun := run_append_grow (P := P) w T ty e i z hT hi hz ⟨b, 0, none⟩ rows.length cap (cur.toList.take (rows.length * i.size)) (by rw [hce] at hsz; simp; omega)
          (fun j v hv => by
            rw [add_lit, cell_heap hh]
            rw [List.getElem?_take] at hv
            split at hv
            · simpa using hv
            · simp at hv) ⟨b2, off2, none⟩ (rs2.length + 1) cap2 news hnl hnews (by omega) hsmall (growslice_fits (by omega) hbytes)
        rw [hce] at hc
        obtain ⟨g', q1, q2⟩ := grown _ cap hc (by omega) r6
        exact ⟨_, _, g', hrun, q1, q2⟩

end Go.Abs
