/- Single operations: reading, writing, composite values. -/
import Derived.Test.YtjeenahnkcgfcaaGreatDoorSim6
import Derived.Laws.MakeOwn
set_option linter.unusedVariables false
set_option linter.unusedSimpArgs false
namespace Go.Sim
open Go.RowKit

variable {E : Env} {g : Gh} {f : Hf} {w : World}

/-- What is true behind an operation. -/
structure Post (g : Gh) (f : Hf) (w : World) (v : SV) (us : List Up) (new : Nat) (r : Value) (g' : Gh) (w' : World) : Prop where
  val : VR g' r v
  hr : HR g' (upsF f us) w'
  fr : Fr g f w g' (upsF f us) w'
  ro : ∀ id, id ≠ new → g'.ρ id = g.ρ id
  nil : us = [] → g' = g

theorem Post.same (h : HR g f w) {new : Nat} {r : Value} {v : SV} (hv : VR g r v) : Post g f w v [] new r g w := ⟨hv, h, Fr.refl _ _ _, fun _ _ => rfl, fun _ => rfl⟩

theorem HR.at (h : HR g f w) {id b c : Nat} {o : SO} (hf : f id = some o) (hρ : g.ρ id = some (b, c)) : b < w.heap.size ∧ OR g w id b c o := by
  obtain ⟨b', c', q1, q2, q3⟩ := h.ob id o hf
  rw [hρ] at q1
  obtain ⟨rfl, rfl⟩ : b = b' ∧ c = c' := by simpa using q1
  exact ⟨q2, q3⟩

theorem loadVar_agg {P : Program} {t : TypeId} {i : TI} (hT : TIOK P t i) (ha : isAggT i.desc = true) {vs : List Value} (hl : vs.length = i.size) (ad : Addr) (h : ∀ j v, vs[j]? = some v → w.cell? (ad.add j) = some v) : (loadVar t ad).run P w = .ok (.agg vs.toArray) w := by
  have := run_loadCells_list (P := P) w ad vs h
  rw [hl] at this
  simp only [loadVar, Sem.run_bind, run_isAgg' hT, ha, Result.andThen_ok, if_true, run_size hT, this, Sem.run_pure]
theorem loadVar_one {P : Program} {t : TypeId} {i : TI} (hT : TIOK P t i) (ha : isAggT i.desc = false) {v : Value} (ad : Addr) (h : w.cell? ad = some v) : (loadVar t ad).run P w = .ok v w := by
  simp only [loadVar, Sem.run_bind, run_isAgg' hT, ha, Result.andThen_ok, Bool.false_eq_true, if_false, run_load, h]

theorem loadA_spec (hE : EnvOK E g) (h : HR g f w) {t : TypeId} {x z : SV} {u : Value} (hu : VR g u x) (hl0 : loadA E f t x = some z) : ∃ r, (Instr.loadAt t u).run E.P w = .ok r w ∧ VR g r z := by
  obtain ⟨q, h1, hl⟩ := bind1_some hl0
  obtain ⟨i, p, hi, hp, hl⟩ := bind2_some hl
  obtain rfl := ptrOf_some h1
  have hf := cellsO_some hp
  have hT := hE.ty t i hi
  cases hu with
  | @ptr _ _ b o hρ =>
    have hc : Cells g w q.1 b o p.1 p.2 := (h.at hf hρ).2
    unfold partA at hl
    rw [sel_if] at hl
    split at hl
    · rename_i ha
      obtain ⟨hle, hl⟩ := sel_some hl
      have hle := (ble_iff _ _).1 hle
      cases hl
      obtain ⟨vs, v1, v2, v3⟩ := hc.vals q.2 i.size hle
      refine ⟨.agg vs.toArray, ?_, .agg (by simpa using v2)⟩
      simp only [Instr.loadAt, Instr.sureAddr, Sem.run_bind, Sem.run_pure, Result.andThen_ok]
      exact loadVar_agg hT ha v1 _ (fun j v hj => by rw [add_lit]; exact v3 j v hj)
    · rename_i ha
      have hlt : q.2 < p.2.length := (List.getElem?_eq_some_iff.1 hl).1
      obtain ⟨⟨cur, c1, _, vs, c2, c3⟩, _⟩ := hc
      obtain ⟨v, hv, _, hd⟩ := c2.get hl
      refine ⟨v, ?_, hd⟩
      simp only [Instr.loadAt, Instr.sureAddr, Sem.run_bind, Sem.run_pure, Result.andThen_ok]
      exact loadVar_one hT (by simpa using ha) _ (by rw [cell_heap c1]; exact c3 _ _ hv)

theorem storeA_spec (hE : EnvOK E g) (h : HR g f w) {t : TypeId} {x y : SV} {u v : Value} (hu : VR g u x) (hv : VR g v y) {us : List Up} (hl0 : storeA E f t y x = some us) :
    ∃ w', (Instr.storeAt t u v).run E.P w = .ok () w' ∧ HR g (upsF f us) w' ∧ Fr g f w g (upsF f us) w' := by
  obtain ⟨q, h1, hl⟩ := bind1_some hl0
  obtain ⟨i, xs, p, hi, hxs, hp, hl⟩ := bind3_some hl
  obtain rfl := ptrOf_some h1
  obtain ⟨hc, hl⟩ := sel_some hl
  cases hl
  rw [Bool.and_eq_true] at hc
  have hlen := (beq_iff _ _).1 hc.1
  have hle := (ble_iff _ _).1 hc.2
  have hf := cellsO_some hp
  have hT := hE.ty t i hi
  have hcr := hv.cellsR hxs
  cases hu with
  | @ptr _ _ b o hρ =>
    have hcc : Cells g w q.1 b o p.1 p.2 := (h.at hf hρ).2
    obtain ⟨w', q1, q2, q3, q4, q5, q6, q7⟩ := hcc.store (P := E.P) hcr hle
    obtain ⟨r1, r2⟩ := h.write (o' := .cells p.1 (splice p.2 q.2 xs)) hf hρ q3 q4 q2 q5 q6 q7
    refine ⟨w', ?_, r1, r2⟩
    have hsz : v.cells.size = i.size := by rw [← hlen, ← hcr.length]; simp
    simp only [Instr.storeAt, Instr.sureAddr, storeVar, Sem.run_bind, Sem.run_pure, Result.andThen_ok, run_size hT, hsz, ne_eq, not_true, if_false, Sem.run_ite]
    exact q1

/-! ### composite values -/
theorem VCs.splice {vs us : List Value} {cs xs : List SV} {off : Nat} (h : VCs g vs cs) (k : VCs g us xs) : VCs g (vs.take off ++ us ++ vs.drop (off + us.length)) (Sim.splice cs off xs) := by
  rw [splice_eq, k.length]
  exact ((h.take off).append k).append (h.drop _)

theorem fillA_spec (place : Nat → Option (Nat × Nat)) : ∀ (parts : List (Nat × Value)) (pcs : List (Nat × List SV)) (vs : Array Value) (cs rs : List SV), VCs g vs.toList cs →
    parts.length = pcs.length → (∀ (j : Nat) (i : Nat) (v : Value) (i' : Nat) (xs : List SV), parts[j]? = some (i, v) → pcs[j]? = some (i', xs) → i = i' ∧ VCs g v.cells.toList xs) → fillA place cs pcs = some rs →
    ∃ us, Instr.fill place vs parts = some us ∧ VCs g us.toList rs
  | [], [], vs, cs, rs, hc, _, _, h => by cases h; exact ⟨vs, rfl, hc⟩
  | (i, v) :: parts, (i', xs) :: pcs, vs, cs, rs, hc, hl, hp, h => by
    obtain ⟨rfl, hx⟩ := hp 0 i v i' xs rfl rfl
    obtain ⟨q, hpl, h⟩ := bind1_some (show bind1 (place i) (fun q => sel (Nat.beq xs.length q.2 && Nat.ble (Nat.add q.1 q.2) cs.length) (fillA place (Sim.splice cs q.1 xs) pcs) none) = some rs from h)
    obtain ⟨hcond, h⟩ := sel_some h
    rw [Bool.and_eq_true] at hcond
    have h1 := (beq_iff _ _).1 hcond.1
    have h2 : q.1 + q.2 ≤ cs.length := (ble_iff _ _).1 hcond.2
    obtain ⟨off, size⟩ := q
    simp only at h1 h2 hpl h
    have hvl : v.cells.size = size := by rw [← h1, ← hx.length]; simp
    have hcl : vs.size = cs.length := by rw [← hc.length]; simp
    have hfold : (v.cells.zipIdx.foldl (fun cs (c, j) => cs.setIfInBounds (off + j) c) vs).toList = vs.toList.take off ++ v.cells.toList ++ vs.toList.drop (off + v.cells.toList.length) := by
      rw [← Array.foldl_toList, Array.toList_zipIdx]
      obtain ⟨f1, f2⟩ := Great.foldl_set off v.cells.toList 0 vs
      apply List.ext_getElem?
      intro j
      rw [splice_get (by simp; omega)]
      have := f2 j
      simp only [Nat.add_zero] at this
      rw [Array.getElem?_toList]
      refine this.trans ?_
      simp only [Array.length_toList, Array.getElem?_toList]
      by_cases hj : off ≤ j ∧ j < off + v.cells.size
      · rw [if_pos hj, if_pos ⟨hj.1, hj.2, by omega⟩]
      · rw [if_neg hj, if_neg (by omega)]
    have hc' := hc.splice hx (off := off)
    rw [← hfold] at hc'
    obtain ⟨us, hu1, hu2⟩ := fillA_spec place parts pcs _ _ rs hc' (by simpa using hl) (fun j i v i' xs ha hb => hp (j + 1) i v i' xs (by simpa using ha) (by simpa using hb)) h
    refine ⟨us, ?_, hu2⟩
    unfold Instr.fill
    simp only [hpl]
    rw [if_neg (by simp [hvl]; omega)]
    exact hu1
  | [], _ :: _, _, _, _, _, hl, _, _ => by simp at hl
  | _ :: _, [], _, _, _, _, hl, _, _ => by simp at hl

theorem partsA_spec {nt : Nat} {tm : Tf} {a : Act} (h : FR g nt tm a.tmps) : ∀ (parts : List (Nat × Operand)) (l : List (Nat × List SV)), partsA tm parts = some l →
    parts.length = l.length ∧ ∀ (j : Nat) (i : Nat) (v : Value) (i' : Nat) (xs : List SV), (parts.map fun (i, x) => (i, a.eval x))[j]? = some (i, v) → l[j]? = some (i', xs) → i = i' ∧ VCs g v.cells.toList xs
  | [], l, hp => by cases hp; simp
  | (i, x) :: parts, l, hp => by
    obtain ⟨v, hv, hp⟩ := bind1_some hp
    obtain ⟨cs, l', hc, hl', hp⟩ := bind2_some hp
    cases hp
    obtain ⟨h1, h2⟩ := partsA_spec h parts l' hl'
    refine ⟨by simp [h1], fun j i1 u i2 xs ha hb => ?_⟩
    cases j with
    | zero =>
      simp at ha hb
      obtain ⟨rfl, rfl⟩ := ha
      obtain ⟨rfl, rfl⟩ := hb
      exact ⟨rfl, (valA_spec h hv).cellsR hc⟩
    | succ j => simp at ha hb; exact h2 j i1 u i2 xs (by simpa using ha) hb

theorem zero_cells {P : Program} {t : TypeId} {i : TI} (h : TIOK P t i) : ∃ z, (∀ w, (zeroValue t).run P w = .ok z w) ∧ (∀ g, VCs g z.cells.toList i.zero) := by
  obtain ⟨z, h1, h2, _⟩ := run_zero h
  exact ⟨z, h1, h2.1⟩

theorem fillA_mono {p p' : Nat → Option (Nat × Nat)} (hp : ∀ j q, p j = some q → p' j = some q) : ∀ (pcs : List (Nat × List SV)) (cs rs : List SV), fillA p cs pcs = some rs → fillA p' cs pcs = some rs
  | [], cs, rs, h => h
  | (i, xs) :: pcs, cs, rs, h => by
    obtain ⟨q, h1, h⟩ := bind1_some (show bind1 (p i) (fun q => sel (Nat.beq xs.length q.2 && Nat.ble (Nat.add q.1 q.2) cs.length) (fillA p (Sim.splice cs q.1 xs) pcs) none) = some rs from h)
    obtain ⟨hc, h⟩ := sel_some h
    show bind1 (p' i) (fun q => sel (Nat.beq xs.length q.2 && Nat.ble (Nat.add q.1 q.2) cs.length) (fillA p' (Sim.splice cs q.1 xs) pcs) none) = some rs
    rw [hp _ _ h1]
    show sel (Nat.beq xs.length q.2 && Nat.ble (Nat.add q.1 q.2) cs.length) (fillA p' (Sim.splice cs q.1 xs) pcs) none = some rs
    rw [hc]
    exact fillA_mono hp pcs _ _ h

theorem places_some (P : Program) : ∀ (l : List Field), (∀ f ∈ l, (P.info? f.type).isSome = true) → ∃ places, l.mapM (fun f => (P.info? f.type).map fun i => (f.offset, i.size)) = some places ∧
    ∀ (j : Nat) (f : Field) (i : TypeInfo), l[j]? = some f → P.info? f.type = some i → places[j]? = some (f.offset, i.size)
  | [], _ => ⟨[], rfl, by simp⟩
  | f :: l, h => by
    obtain ⟨places, h1, h2⟩ := places_some P l (fun x hx => h x (by simp [hx]))
    obtain ⟨i, hi⟩ := Option.isSome_iff_exists.1 (h f (by simp))
    refine ⟨(f.offset, i.size) :: places, by simp [List.mapM_cons, hi, h1], fun j x ix hx hix => ?_⟩
    cases j with
    | zero => simp at hx; subst hx; rw [hi] at hix; cases hix; rfl
    | succ j => simp at hx; simpa using h2 j x ix hx hix

theorem aggV_some {r : Option (List SV)} {z : SV} (h : aggV r = some z) : ∃ cs, r = some cs ∧ z = .agg cs := by
  obtain ⟨cs, h1, h2⟩ := bind1_some h
  cases h2
  exact ⟨cs, h1, rfl⟩

theorem buildA_spec (hE : EnvOK E g) {t : TypeId} {parts : Array (Nat × Value)} {pcs : List (Nat × List SV)} {x : SV} (hb0 : buildA E t pcs = some x) (hl : parts.size = pcs.length)
    (hp : ∀ (j : Nat) (i : Nat) (v : Value) (i' : Nat) (xs : List SV), parts.toList[j]? = some (i, v) → pcs[j]? = some (i', xs) → i = i' ∧ VCs g v.cells.toList xs) (w : World) :
    ∃ v, (Instr.build t parts).run E.P w = .ok v w ∧ VR g v x := by
  obtain ⟨i, hi, hb⟩ := bind1_some hb0
  have hT := hE.ty t i hi
  obtain ⟨it, zv, q1, _, _, _, q5, q6, _⟩ := hT.info
  have hz := q6.1 g
  have hd := hT.desc
  generalize i.desc = D at hd hb
  cases D with
  | array n e =>
    obtain ⟨ie, hie, hb⟩ := bind1_some (show bind1 (E.ty.get e) (fun ie => aggV (fillA (placeE ie.size) i.zero pcs)) = some x from hb)
    obtain ⟨rs, hf, rfl⟩ := aggV_some hb
    obtain ⟨us, hu1, hu2⟩ := fillA_spec (placeE ie.size) parts.toList pcs zv.cells i.zero rs hz (by simpa using hl) hp hf
    obtain ⟨fe, _, e1, e2, _⟩ := (hE.ty e ie hie).info
    refine ⟨.agg us, run_build w t parts us ?_, .agg hu2⟩
    unfold Program.built
    simp only [q1, (show E.P.underlying t = some (.array n e) from hd), q5, e1, e2]
    exact hu1
  | struct fs =>
    obtain ⟨a, hu, hfs, hin⟩ := hd
    obtain ⟨rs, hf, rfl⟩ := aggV_some (show aggV (fillA (placeF E fs) i.zero pcs) = some x from hb)
    obtain ⟨places, p1, p2⟩ := places_some E.P a.toList hin
    have hf' := fillA_mono (p' := (places.toArray[·]?)) (fun j q hq => by
      obtain ⟨fl, h1, h2⟩ := bind1_some hq
      obtain ⟨fi, h3, h4⟩ := bind1_some h2
      cases h4
      rw [← hfs, List.getElem?_map] at h1
      cases hj : a.toList[j]? with
      | none => rw [hj] at h1; simp at h1
      | some fd =>
        rw [hj] at h1
        simp at h1; subst h1
        obtain ⟨ff, _, e1, e2, _⟩ := (hE.ty _ fi h3).info
        have := p2 j fd ff hj e1
        rw [e2] at this
        simpa using this) pcs _ _ hf
    obtain ⟨us, hu1, hu2⟩ := fillA_spec (places.toArray[·]?) parts.toList pcs zv.cells i.zero rs hz (by simpa using hl) hp hf'
    refine ⟨.agg us, run_build w t parts us ?_, .agg hu2⟩
    unfold Program.built
    simp only [q1, hu, q5, p1]
    exact hu1
  | _ => cases hb

/-! ### new rows -/
theorem rep_range {α : Type} [Inhabited α] (zs : List α) (s : Nat) (hs : zs.length = s) : ∀ n, (List.range (n * s)).map (fun k => zs.toArray[k % s]!) = (List.replicate n zs).flatten
  | 0 => by simp
  | n + 1 => by
    have e : (n + 1) * s = s + n * s := by rw [Nat.add_mul]; omega
    rw [e, List.range_add, List.map_append, List.map_map, List.replicate_succ, List.flatten_cons, ← rep_range zs s hs n]
    congr 1
    · apply List.ext_getElem?
      intro j
      rw [List.getElem?_map]
      by_cases hj : j < s
      · rw [List.getElem?_range hj]
        simp [Nat.mod_eq_of_lt hj, hs, hj]
      · rw [List.getElem?_eq_none (by simp; omega), List.getElem?_eq_none (by omega)]; rfl
    · refine List.map_congr_left fun k _ => ?_
      simp
theorem rep_VCs {vs : List Value} {cs : List SV} (h : VCs g vs cs) : ∀ n, VCs g (List.replicate n vs).flatten (rep cs n)
  | 0 => by simpa using .nil
  | n + 1 => by rw [List.replicate_succ, List.flatten_cons]; exact h.append (rep_VCs h n)
theorem zeros_VCs {P : Program} {t : TypeId} {i : TI} {it : TypeInfo} {z : Value} (hT : TIOK P t i) (h1 : P.info? t = some it) (h2 : it.zero = some z) (hok : elemOk i = true) (n : Nat) :
    VCs g ((Array.range (n * it.size)).map (z.cells[· % z.cells.size]!)).toList (rep i.zero n) ∧ it.size = i.size ∧ 1 ≤ i.size ∧ it.bytes ≤ 65536 ∧ z.cells.size = i.size := by
  obtain ⟨it', z', q1, q2, q3, _, q5, q6, _⟩ := hT.info
  rw [h1] at q1; cases q1
  rw [h2] at q5; cases q5
  unfold elemOk at hok
  rw [Bool.and_eq_true, Bool.and_eq_true] at hok
  have k1 := (ble_iff _ _).1 hok.1
  have k2 := (ble_iff _ _).1 hok.2.1
  have k3 := (beq_iff _ _).1 hok.2.2
  have hzl : z.cells.size = i.size := by rw [← k3, ← (q6.1 g).length]; simp
  refine ⟨?_, q2, k2, by omega, hzl⟩
  have := rep_VCs (q6.1 g) n
  rw [← rep_range z.cells.toList i.size (by simpa using hzl) n] at this
  rw [Array.toList_map, Array.toList_range, q2, hzl]
  simpa using this

/-- A new row of cells. -/
theorem HR.row (h : HR g f w) {new : Nat} (hn : g.ρ new = none) {w0 w' : World} {arr : Array Value} {e : TypeId} {vs : List Value} {cs : List SV} (hw0 : w0.heap = w.heap ∧ w0.os = w.os ∧ w0.tape = w.tape ∧ w0.output = w.output) (hw : w' = w0.alloc (.cells arr e))
    (hc : VCs g vs cs) (hvs : ∀ (j : Nat) (v : Value), vs[j]? = some v → arr[j]? = some v) {v : SV} {r : Value} {l : Nat} (hl : l ≤ arr.size)
    (hv : VR (g.bind new (w.heap.size, 0) l e) r v) : Post g f w v [(new, some (.cells e cs))] new r (g.bind new (w.heap.size, 0) l e) w' := by
  have h0 : HR g f w0 := ⟨fun id o ho => by
      obtain ⟨b, c, q1, q2, q3⟩ := h.ob id o ho
      exact ⟨b, c, q1, by rw [hw0.1]; exact q2, q3.mono (.refl _) q1 (by rw [hw0.1])⟩, h.inj⟩
  have hs : w0.heap.size = w.heap.size := by rw [hw0.1]
  have hcc : OR (g.bind new (w0.heap.size, 0) l e) w' new w0.heap.size 0 (.cells e cs) :=
    ⟨⟨arr, by rw [hw]; exact heap_alloc_new w0 _, by rw [Gh.bind_lim]; omega, vs, hc.mono (Gh.le_bind hn), fun j v hv => by rw [Nat.zero_add]; exact hvs j v hv⟩, Gh.bind_et _ _ _ _ _⟩
  obtain ⟨r1, r2⟩ := h0.alloc hn (o' := .cells e cs) hw hcc
  rw [hs] at r1 r2
  exact ⟨hv, r1, ⟨r2.os.trans hw0.2.1, r2.tape.trans hw0.2.2.1, r2.output.trans hw0.2.2.2, by have := r2.size; omega, r2.le, fun b hb hm => (r2.old b (by omega) hm).trans (by rw [hw0.1]), fun b hb hm => r2.own b (by omega) hm⟩, fun id hne => Gh.bind_ne _ _ _ _ hne, fun hnil => by cases hnil⟩

theorem opBuildSlice_spec (hE : EnvOK E g) (h : HR g f w) {new : Nat} (hn : g.ρ new = none) {nt : Nat} {tm : Tf} {a : Act} (hfr : FR g nt tm a.tmps) {t : TypeId} {len : Nat} {parts : Array (Nat × Operand)} {pcs : List (Nat × List SV)}
    (hpc : partsA tm parts.toList = some pcs) {v : SV} {us : List Up} (ho0 : opBuildSlice E new t len pcs = some (v, us)) :
    ∃ r w' g', (Instr.buildSlice t len (parts.map fun (i, x) => (i, a.eval x))).run E.P w = .ok r w' ∧ Post g f w v us new r g' w' := by
  obtain ⟨i, hi, ho⟩ := bind1_some ho0
  obtain ⟨e, he, ho⟩ := bind1_some ho
  obtain ⟨ie, hie, ho⟩ := bind1_some ho
  obtain ⟨hc, ho⟩ := sel_some ho
  obtain ⟨cs, hf, ho⟩ := bind1_some ho
  cases ho
  rw [Bool.and_eq_true] at hc
  have hsm := (ble_iff _ _).1 hc.2
  have hd := (hE.ty t i hi).desc
  rw [sliceE_some he] at hd
  have hT := hE.ty e ie hie
  obtain ⟨it, z, q1, q2, _, _, q5, _⟩ := hT.info
  obtain ⟨z1, z2, z3, z4, z5⟩ := zeros_VCs (g := g) hT q1 q5 hc.1 len
  obtain ⟨hl, hpt⟩ := partsA_spec hfr parts.toList pcs hpc
  obtain ⟨arr, f1, f2⟩ := fillA_spec (placeE ie.size) (parts.map fun (i, x) => (i, a.eval x)).toList pcs _ _ cs z1 (by simpa using hl) (fun j i v i' xs h1 h2 => hpt j i v i' xs (by simpa using h1) h2) hf
  have hv : VR (g.bind new (w.heap.size, 0) 0 e) (.slice (some ⟨w.heap.size, 0, none⟩) len len) (.sl new 0 len (.k len)) := .sl (id := new) (off := 0) (o := 0) (b := w.heap.size) (cap := .k len) (Gh.bind_self _ _ _ _ _) (Nat.le_refl _) (fun m hm => by cases hm; rfl) (fun e hm => by cases hm)
  refine ⟨_, _, _, ?_, h.row hn (w0 := w) (w' := w.alloc (.cells arr e)) ⟨rfl, rfl, rfl, rfl⟩ rfl f2 (fun j v hv => by simpa using hv) (Nat.zero_le _) hv⟩
  by_cases h0 : len = 0
  · subst h0
    have hcs : pcs = [] := by
      cases pcs with
      | nil => rfl
      | cons p ps =>
        obtain ⟨q, r1, r2⟩ := bind1_some (show bind1 (placeE ie.size p.1) (fun q => sel (Nat.beq p.2.length q.2 && Nat.ble (Nat.add q.1 q.2) (rep ie.zero 0).length) (fillA (placeE ie.size) (Sim.splice (rep ie.zero 0) q.1 p.2) ps) none) = some cs from hf)
        cases r1
        obtain ⟨r3, _⟩ := sel_some r2
        rw [Bool.and_eq_true] at r3
        have := (ble_iff _ _).1 r3.2
        simp [rep] at this
        omega
    subst hcs
    have hp0 : parts = #[] := by apply Array.ext'; exact List.eq_nil_of_length_eq_zero (by simpa using hl)
    subst hp0
    simp at f1
    simp [Instr.fill] at f1
    simp [Instr.buildSlice, run_underlying (show E.P.underlying t = some (.slice e) from hd), sizeOf, typeInfo, q1, Instr.fill, newRow]
    rw [← f1]
    congr 2
    apply Array.ext'
    simp
  · have hpos : ¬ len * it.size = 0 := by
      rw [z2]
      intro he
      rcases Nat.mul_eq_zero.1 he with he | he <;> omega
    have hsm' : ¬ len * it.size > 2 ^ 24 := by rw [z2]; have : len * ie.size ≤ 16777216 := hsm; omega
    refine run_buildSlice w t e len _ _ it z hd q1 q5 hsm' hpos ?_
    rw [z2] at f1 ⊢
    exact f1

theorem opMake_spec (hE : EnvOK E g) (h : HR g f w) {new : Nat} (hn : g.ρ new = none) {t : TypeId} {l c : Nat} {kl kc : IntKind} {v : SV} {us : List Up} (ho0 : opMake E new t l c = some (v, us)) :
    ∃ r w' g', (Instr.makeSlice t (.int kl (.ofNat l)) (.int kc (.ofNat c))).run E.P w = .ok r w' ∧ Post g f w v us new r g' w' := by
  obtain ⟨i, hi, ho⟩ := bind1_some ho0
  obtain ⟨e, he, ho⟩ := bind1_some ho
  obtain ⟨ie, hie, ho⟩ := bind1_some ho
  obtain ⟨hc, ho⟩ := sel_some ho
  cases ho
  rw [Bool.and_eq_true, Bool.and_eq_true] at hc
  have h1 := (ble_iff _ _).1 hc.1
  have h2 := (ble_iff _ _).1 hc.2.1
  have hd := (hE.ty t i hi).desc
  rw [sliceE_some he] at hd
  have hT := hE.ty e ie hie
  obtain ⟨it, z, q1, q2, _, _, q5, _⟩ := hT.info
  obtain ⟨z1, z2, z3, z4, z5⟩ := zeros_VCs (g := g) hT q1 q5 hc.2.2 c
  have hb : it.bytes * c ≤ 65536 * 1000000 := Nat.mul_le_mul z4 h2
  have hrun := run_make w t e it z hd q1 q5 kl kc (.ofNat l) (.ofNat c) (by simp) (by simp; omega) (by
    have : ((it.bytes * c : Nat) : Int) ≤ 281474976710656 := by omega
    simpa using this) (by simp; omega)
  simp only [Int.ofNat_eq_natCast, Int.toNat_natCast] at hrun
  have hv : VR (g.bind new (w.heap.size, 0) 0 e) (.slice (some ⟨w.heap.size, 0, none⟩) l c) (.sl new 0 l (.k c)) := .sl (id := new) (off := 0) (o := 0) (b := w.heap.size) (cap := .k c) (Gh.bind_self _ _ _ _ _) h1 (fun m hm => by cases hm; rfl) (fun e hm => by cases hm)
  exact ⟨_, _, _, hrun, h.row hn (w0 := w) ⟨rfl, rfl, rfl, rfl⟩ rfl z1 (fun j v hv => by rw [Array.getElem?_toList] at hv; exact hv) (Nat.zero_le _) hv⟩

end Go.Sim
