/- Single operations: append, copy, len, min, max. -/
import Derived.Test.YtjeenahnkcgfcaaGreatDoorSim8
set_option linter.unusedVariables false
set_option linter.unusedSimpArgs false
namespace Go.Sim
open Go.RowKit

variable {E : Env} {g : Gh} {f : Hf} {w : World}

theorem cellsAt_some {id off n : Nat} {old : List SV} (h : cellsAt f id off n = some old) : ∃ e cs, f id = some (.cells e cs) ∧ off + n ≤ cs.length ∧ old = (cs.drop off).take n := by
  obtain ⟨p, hp, h⟩ := bind1_some h
  obtain ⟨hc, h⟩ := sel_some h
  cases h
  exact ⟨p.1, p.2, cellsO_some hp, (ble_iff _ _).1 hc, rfl⟩

theorem bytesSV_VCs (s : ByteArray) : VCs g (byteCells s) (bytesSV s) := by
  unfold byteCells bytesSV
  generalize s.data.toList = l
  induction l with
  | nil => exact .nil
  | cons b l ih => exact .cons rfl (.int _ _ (by simp [SI.ev])) ih

/-- What is appended or copied. -/
theorem src_spec {P : Program} {size : Nat} {tx : TypeId} (hk : (∃ e', P.underlying tx = some (.slice e')) ∨ P.underlying tx = some .string) (h : HR g f w) {x : SV} {u : Value} (hu : VR g u x) {q : Nat × List SV} (hs : srcOf f size x = some q) :
    ∃ news, Src P size tx u q.1 news w ∧ VCs g news q.2 := by
  have row : srcRow f size x = some q → ∃ news, Src P size tx u q.1 news w ∧ VCs g news q.2 := by
    intro hs
    obtain ⟨n, xs, h1, h2, h3⟩ := bind2_some hs
    cases h3
    rcases lenS_some h1 with ⟨id, off, c, rfl⟩ | ⟨rfl, rfl⟩ | ⟨rfl, rfl⟩
    · cases hu with
      | @sl _ _ _ b o c' _ hρ hn hcap hlim =>
        obtain ⟨e, cs, q1, q2, rfl⟩ := cellsAt_some (show cellsAt f id off (n * size) = some xs from h2)
        obtain ⟨vs, v1, v2, v3⟩ := Cells.vals (h.at q1 hρ).2 off (n * size) q2
        have hnews : ∀ (j : Nat) (v : Value), vs[j]? = some v → w.cell? ((⟨b, o + off, none⟩ : Addr).add j) = some v := fun j v hv => by rw [add_lit]; exact v3 j v hv
        exact ⟨vs, ⟨hk, fun _ => rfl, run_firstCells_some w size n _ n c' vs v1 hnews, run_firstCells_some w.drew size n _ n c' vs v1 (by simpa using hnews), v1, v2.one⟩, v2⟩
    · cases hu
      cases h2
      exact ⟨[], ⟨hk, fun _ => rfl, run_firstCells_none w size 0 0 0, run_firstCells_none w.drew size 0 0 0, by simp, fun _ h => by cases h⟩, .nil⟩
    · cases hu with
      | @sle ad c =>
        cases h2
        refine ⟨[], ⟨hk, fun _ => rfl, ?_, ?_, by simp, fun _ h => by cases h⟩, .nil⟩ <;>
          (cases ad with
           | none => exact run_firstCells_none _ size 0 0 c
           | some a => exact run_firstCells_some _ size 0 a 0 c [] (by simp) (by simp))
  cases hu with
  | str s =>
    obtain ⟨h1, h2⟩ := sel_some (show sel (Nat.beq size 1) (some (s.size, bytesSV s)) none = some q from hs)
    cases h2
    have := (beq_iff _ _).1 h1
    subst this
    refine ⟨byteCells s, ⟨hk, fun _ => rfl, firstCells_string s w, firstCells_string s w.drew, by rw [byteCells_length, Nat.mul_one], fun u hu => by
      obtain ⟨_, _, rfl⟩ := List.mem_map.1 hu
      rfl⟩, bytesSV_VCs s⟩
  | _ => exact row hs

/-- The row in a new block. -/
theorem grow_spec (hE : EnvOK E g) (h : HR g f w) {new : Nat} (hn : g.ρ new = none) {t tx ty e : TypeId} {ie : TI} (ht : E.P.underlying t = some (.slice e)) (hie : E.ty.get e = some ie) (hok : elemOk ie = true)
    {base : Option Addr} {n c m : Nat} {olds news : List Value} {old xs : List SV} {u : Value} (ho : VCs g olds old) (hol : olds.length = n * ie.size)
    (hold : (Builtin.firstCells ie.size n (.slice base n c)).run E.P w.drew = .ok olds.toArray w.drew) (hs : Src E.P ie.size tx u m news w) (hx : VCs g news xs) (hgr : c < n + m) (h1 : n ≤ 1000000) (h2 : m ≤ 1000000) :
    ∃ r w' g', (Builtin.append_ #[t, tx] ty #[.slice base n c, u]).run E.P w = .ok r w' ∧ Post g f w (.sl new 0 (n + m) (.u e)) [(new, some (.cells e (old ++ xs)))] new r g' w' := by
  have hT := hE.ty e ie hie
  obtain ⟨it, z, q1, q2, _, _, q5, _⟩ := hT.info
  obtain ⟨_, _, z3, z4, z5⟩ := zeros_VCs (g := g) hT q1 q5 hok 0
  have hrun := run_append_grow_src (P := E.P) w t tx ty e it z ht q1 q5 base n c olds (by rw [q2]; exact hold) u m news (by rw [q2]; exact hs) hgr (by omega) (growslice_fits hgr (by
    have : (n + m) * it.bytes ≤ 2000000 * 65536 := Nat.mul_le_mul (by omega) z4
    omega))
  have hge := grownCap_ge w (n + m) c e
  have hnl := hs.newsLen
  refine ⟨_, _, _, hrun, h.row hn (w0 := w.drew) (l := grownCap w (n + m) c e * ie.size) ⟨rfl, rfl, rfl, rfl⟩ rfl (ho.append hx) (fun j v hv => ?_) ?_ ?_⟩
  · rw [Array.getElem?_append_left, List.getElem?_toArray]
    · exact hv
    · simpa using (List.getElem?_eq_some_iff.1 hv).1
  · simp only [Array.size_append, List.size_toArray, List.length_append, size_zeroCells, z5, hol, hnl]
    rw [← Nat.add_mul, ← Nat.add_mul]
    exact Nat.mul_le_mul_right _ (by omega)
  · exact .sl (id := new) (off := 0) (o := 0) (b := w.heap.size) (cap := .u e) (Gh.bind_self _ _ _ _ _) hge (fun k hk => by cases hk) (fun e' he => by
      cases he
      refine ⟨Gh.bind_et _ _ _ _ _, ?_⟩
      rw [Gh.bind_lim]
      show 0 + grownCap w (n + m) c e * g.sz e ≤ _
      rw [hE.size hie]; omega)

theorem append_none {P : Program} {t tx ty e : TypeId} {it : TypeInfo} (ht : P.underlying t = some (.slice e)) (hi : P.info? e = some it) {base : Option Addr} {n c : Nat} (hnc : n ≤ c) {u : Value} (hs : Src P it.size tx u 0 [] w) :
    (Builtin.append_ #[t, tx] ty #[.slice base n c, u]).run P w = .ok (.slice base n c) w := by
  have hc := hs.cells
  rcases hs.kind with ⟨e', hk⟩ | hk <;> cases base <;> simp [Builtin.append_, run_underlying ht, run_underlying hk, sizeOf, typeInfo, hi, hs.len, hnc, hc, storeCells]

theorem append_room {P : Program} {t tx ty e : TypeId} {it : TypeInfo} (ht : P.underlying t = some (.slice e)) (hi : P.info? e = some it) {b o n c m : Nat} {news : List Value} {u : Value} (hs : Src P it.size tx u m news w) (hroom : n + m ≤ c) {w' : World}
    (hst : (storeCells ⟨b, o + n * it.size, none⟩ news 0).run P w = .ok () w') :
    (Builtin.append_ #[t, tx] ty #[.slice (some ⟨b, o, none⟩) n c, u]).run P w = .ok (.slice (some ⟨b, o, none⟩) (n + m) c) w' := by
  rcases hs.kind with ⟨e', hk⟩ | hk <;> simp [Builtin.append_, run_underlying ht, run_underlying hk, sizeOf, typeInfo, hi, hs.len, hroom, hs.cells, add_lit, hst]

theorem kind_of (hE : EnvOK E g) {tx : TypeId} {ix : TI} (hix : E.ty.get tx = some ix) (hr : rowD ix.desc = true) : (∃ e', E.P.underlying tx = some (.slice e')) ∨ E.P.underlying tx = some .string := by
  have hd := (hE.ty tx ix hix).desc
  generalize ix.desc = D at hd hr
  cases D <;> simp [rowD] at hr
  · exact .inr hd
  · exact .inl ⟨_, hd⟩

theorem isSl_true {x : SV} (h : isSl x = true) : (∃ i o n c, x = .sl i o n c) ∨ x = .nils ∨ x = .sle := by
  cases x <;> first | exact .inl ⟨_, _, _, _, rfl⟩ | exact .inr (.inl rfl) | exact .inr (.inr rfl) | cases h

theorem Post.kill (h : HR g f w) {id new : Nat} {v : SV} {r : Value} {us : List Up} {g' : Gh} {w' : World} (hp : Post g (upF f (id, none)) w v us new r g' w') : Post g f w v ((id, none) :: us) new r g' w' :=
  ⟨hp.val, hp.hr, (h.kill id).2.trans hp.fr, hp.ro, fun hnil => by cases hnil⟩

theorem appendA_spec (hE : EnvOK E g) (h : HR g f w) {new : Nat} (hn : g.ρ new = none) {t tx ty : TypeId} {ix : TI} {s x : SV} {u1 u2 : Value} (h1 : VR g u1 s) (h2 : VR g u2 x) (hix : E.ty.get tx = some ix) (hrow : rowD ix.desc = true) {v : SV} {us : List Up}
    (ho0 : appendA E f new t s x = some (v, us)) : ∃ r w' g', (Builtin.append_ #[t, tx] ty #[u1, u2]).run E.P w = .ok r w' ∧ Post g f w v us new r g' w' := by
  obtain ⟨i, hi, ho⟩ := bind1_some ho0
  obtain ⟨e, he, ho⟩ := bind1_some ho
  obtain ⟨ie, hie, ho⟩ := bind1_some (show bind1 (E.ty.get e) _ = some (v, us) from ho)
  obtain ⟨hok, ho⟩ := sel_some ho
  obtain ⟨q, hq, ho⟩ := bind1_some ho
  obtain ⟨hq1, ho⟩ := sel_some ho
  have hq1 : q.1 ≤ 1000000 := (ble_iff _ _).1 hq1
  have ht := (hE.ty t i hi).desc
  rw [sliceE_some he] at ht
  have ht : E.P.underlying t = some (.slice e) := ht
  have hT := hE.ty e ie hie
  obtain ⟨it, z, q1, q2, _, _, q5, _⟩ := hT.info
  obtain ⟨_, _, z3, z4, z5⟩ := zeros_VCs (g := g) hT q1 q5 hok 0
  obtain ⟨news, hs, hx⟩ := src_spec (kind_of hE hix hrow) h h2 hq
  rw [sel_if] at ho
  split at ho
  · rename_i h0
    have h0 := (beq_iff _ _).1 h0
    obtain ⟨hsl, ho⟩ := sel_some ho
    cases ho
    have hnl := hs.newsLen
    rw [h0] at hs hnl
    have : news = [] := List.eq_nil_of_length_eq_zero (by simpa using hnl)
    subst this
    rw [← q2] at hs
    rcases isSl_true hsl with ⟨id, off, n, cp, rfl⟩ | rfl | rfl
    · cases h1 with
      | sl hρ hnc hcap hlim => exact ⟨_, w, g, append_none ht q1 hnc hs, Post.same h (.sl hρ hnc hcap hlim)⟩
    · cases h1
      exact ⟨_, w, g, append_none ht q1 (Nat.le_refl _) hs, Post.same h .nils⟩
    · cases h1
      exact ⟨_, w, g, append_none ht q1 (Nat.zero_le _) hs, Post.same h .sle⟩
  · rename_i h0
    have h0 : q.1 ≠ 0 := fun e => h0 ((beq_iff _ _).2 e)
    cases h1 with
    | nils =>
      cases (show some (SV.sl new 0 q.1 (.u e), [(new, some (SO.cells e q.2))]) = some (v, us) from ho)
      have := grow_spec hE h hn (ty := ty) (n := 0) (c := 0) (base := none) (olds := []) (old := []) ht hie hok .nil (by simp) (run_firstCells_none _ _ _ _ _) hs hx (by omega) (by omega) hq1
      simpa using this
    | @sl id off n b o c cap hρ hnc hcap hlim =>
      obtain ⟨hn6, ho⟩ := sel_some (show sel (Nat.ble n 1000000) (bind2 (cellsO (f id)) (cellsAt f id off (Nat.mul n ie.size)) fun p old => appSl new e ie.size id off n cap q.1 q.2 p old) none = some (v, us) from ho)
      have hn6 : n ≤ 1000000 := (ble_iff _ _).1 hn6
      obtain ⟨p, old, hp, hold, ho⟩ := bind2_some ho
      have hf := cellsO_some hp
      obtain ⟨e', cs', r1, r2, rfl⟩ := cellsAt_some hold
      rw [hf] at r1
      cases r1
      have hcell : Cells g w id b o p.1 p.2 := (h.at hf hρ).2
      obtain ⟨vs, v1, v2, v3⟩ := hcell.vals off (n * ie.size) r2
      have hfirst : (Builtin.firstCells ie.size n (.slice (some ⟨b, o + off, none⟩) n c)).run E.P w.drew = .ok vs.toArray w.drew :=
        run_firstCells_some w.drew ie.size n _ n c vs v1 (fun j v hv => by rw [add_lit]; simpa using v3 j v hv)
      have grow : c < n + q.1 → ∃ r w' g', (Builtin.append_ #[t, tx] ty #[.slice (some ⟨b, o + off, none⟩) n c, u2]).run E.P w = .ok r w' ∧ Post g f w (.sl new 0 (n + q.1) (.u e)) [(new, some (.cells e ((p.2.drop off).take (n * ie.size) ++ q.2)))] new r g' w' :=
        fun hgr => grow_spec hE h hn ht hie hok v2 v1 hfirst hs hx hgr hn6 hq1
      have hxl : q.2.length = q.1 * ie.size := by rw [← hx.length]; exact hs.newsLen
      cases cap with
      | k c0 =>
        have hc0 := hcap c0 rfl
        subst hc0
        have ho : sel (Nat.ble (Nat.add n q.1) c)
          (sel (Nat.ble (Nat.add off (Nat.mul (Nat.add n q.1) ie.size)) p.2.length) (some (SV.sl id off (Nat.add n q.1) (.k c), [(id, some (SO.cells p.1 (splice p.2 (Nat.add off (Nat.mul n ie.size)) q.2)))])) none)
          (newSl new e (Nat.add n q.1) ((p.2.drop off).take (n * ie.size) ++ q.2) []) = some (v, us) := ho
        rw [sel_if] at ho
        split at ho
        · rename_i hle
          have hle : n + q.1 ≤ c := (ble_iff _ _).1 hle
          obtain ⟨hfit, ho⟩ := sel_some ho
          have hfit : off + (n + q.1) * ie.size ≤ p.2.length := (ble_iff _ _).1 hfit
          cases ho
          obtain ⟨w', s1, s2, s3, s4, s5, s6, s7⟩ := hcell.store (P := E.P) (off := off + n * ie.size) hx (by rw [hxl]; rw [Nat.add_mul] at hfit; omega)
          obtain ⟨t1, t2⟩ := h.write (o' := .cells p.1 (splice p.2 (off + n * ie.size) q.2)) hf hρ s3 s4 s2 s5 s6 s7
          refine ⟨_, w', g, append_room ht q1 (by rw [q2]; exact hs) hle (by rw [q2, Nat.add_assoc]; exact s1), ⟨?_, t1, t2, fun _ _ => rfl, fun _ => rfl⟩⟩
          exact .sl hρ hle hcap (fun e he => by cases he)
        · rename_i hle
          have hle : ¬ n + q.1 ≤ c := fun e => hle ((ble_iff _ _).2 e)
          cases ho
          exact grow (by omega)
      | u e0 =>
        obtain ⟨l1, l2⟩ := hlim e0 rfl
        obtain ⟨hc, ho⟩ := sel_some (show sel (Nat.beq (Nat.add off (Nat.mul n ie.size)) p.2.length && Nat.beq e p.1) (newSl new e (Nat.add n q.1) ((p.2.drop off).take (n * ie.size) ++ q.2) [(id, none)]) none = some (v, us) from ho)
        cases ho
        rw [Bool.and_eq_true] at hc
        have hc1 : off + n * ie.size = p.2.length := (beq_iff _ _).1 hc.1
        have hc2 : e = p.1 := (beq_iff _ _).1 hc.2
        have he0 : e0 = e := by rw [← l1, hcell.et, hc2]
        subst he0
        rw [hE.size hie] at l2
        by_cases hle : n + q.1 ≤ c
        · obtain ⟨⟨cur, m1, m0, vs0, m2, m3⟩, m4⟩ := hcell
          have hroom : o + (off + n * ie.size) + news.length ≤ cur.size := by
            have := Nat.mul_le_mul_right ie.size hle
            rw [hs.newsLen]
            rw [Nat.add_mul] at this
            omega
          have hrun := run_storeCells_at E.P b (o + (off + n * ie.size)) p.1 news 0 cur w m1 (by omega) hs.one
          simp only [Nat.add_zero] at hrun
          have hol := v1
          have hor : OR (g.bind new (b, o + off) (g.lim id - off) e0) (w.setRow b (cur.toList.take (o + (off + n * ie.size)) ++ news ++ cur.toList.drop (o + (off + n * ie.size) + news.length)).toArray) new b (o + off) (.cells e0 ((p.2.drop off).take (n * ie.size) ++ q.2)) := by
            refine ⟨⟨(cur.toList.take (o + (off + n * ie.size)) ++ news ++ cur.toList.drop (o + (off + n * ie.size) + news.length)).toArray, ?_, ?_, vs ++ news, (v2.append hx).mono (Gh.le_bind hn), fun j v hv => ?_⟩, Gh.bind_et _ _ _ _ _⟩
            · rw [hc2]; exact setRow_heap w b cur _ p.1 _ m1
            · rw [Gh.bind_lim]; simp; omega
            · rw [List.getElem?_toArray, splice_get (by simp; omega)]
              by_cases hj : j < n * ie.size
              · rw [List.getElem?_append_left (by omega)] at hv
                rw [if_neg (by omega)]
                have := v3 j v hv
                rw [cell_heap m1] at this
                simpa using this
              · have hjl : j < vs.length + news.length := by have := (List.getElem?_eq_some_iff.1 hv).1; simpa using this
                rw [List.getElem?_append_right (by omega)] at hv
                rw [if_pos (by omega), ← hv]
                congr 1
                omega
          obtain ⟨t1, t2⟩ := h.rename (o' := .cells e0 ((p.2.drop off).take (n * ie.size) ++ q.2)) hn hf hρ (by simp) (fun k hk => setRow_other w b k _ hk) hor rfl rfl rfl
          refine ⟨_, _, _, append_room ht q1 (by rw [q2]; exact hs) hle (by rw [q2, Nat.add_assoc]; exact hrun), ⟨?_, t1, t2, fun k hk => Gh.bind_ne _ _ _ _ hk, fun hnil => by cases hnil⟩⟩
          exact .sl (id := new) (off := 0) (o := o + off) (b := b) (cap := .u e0) (Gh.bind_self _ _ _ _ _) hle (fun k hk => by cases hk) (fun e' he => by
            cases he
            refine ⟨Gh.bind_et _ _ _ _ _, ?_⟩
            rw [Gh.bind_lim]
            show 0 + c * g.sz e0 ≤ _
            rw [hE.size hie]; omega)
        · obtain ⟨k1, _⟩ := h.kill id
          obtain ⟨r, w', g', a1, a2⟩ := grow_spec hE k1 hn (ty := ty) ht hie hok v2 v1 hfirst hs hx (by omega) hn6 hq1
          exact ⟨r, w', g', a1, a2.kill h⟩
    | _ => cases ho

end Go.Sim
