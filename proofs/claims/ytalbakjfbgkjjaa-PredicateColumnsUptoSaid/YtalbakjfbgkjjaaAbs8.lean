import Derived.Test.YtalbakjfbgkjjaaAbs7
set_option linter.unusedSimpArgs false
namespace Go.Abs
open Go.RowKit

variable {P : Program} {A : Ann} {g : Gh} {st : AS} {a : Act} {w : World} {T : Nat → AV} {B : Nat → Option (List AV)}

theorem DR.notLoc {μ : Mem} {v : Value} {x : AV} (h : DR μ v x) : x.isLoc = false := by cases h <;> rfl
theorem PR.dr {v : Value} {x : AV} (h : DR g.μ v x) : PR P g v x := PR.of h h.notLoc

theorem box_vals (h : Rel P A g st a w) {k off s : Nat} {cs : List AV} (hb : st.box k = some cs) (hl : off + s ≤ cs.length) :
    ∃ vs : List Value, vs.length = s ∧ (∀ j v x, vs[j]? = some v → ((cs.drop off).take s)[j]? = some x → v.oneCell' = true ∧ CV P g w (.cell k (off + j)) v x) ∧ ∀ j v, vs[j]? = some v → w.cell? ⟨g.ρ k, off + j, none⟩ = some v := by
  by_cases hne : cs = []
  · subst hne
    have : s = 0 := by simp at hl; omega
    subst this
    exact ⟨[], rfl, by simp, by simp⟩
  obtain ⟨cur, e, hheap, hsz, hcells⟩ := (h.bx k cs hb).mem hne
  refine ⟨(cur.toList.drop off).take s, by simp; omega, fun j v x hv hx => ?_, fun j v hv => ?_⟩
  · rw [List.getElem?_take] at hv hx
    split at hv
    · rename_i hj
      rw [if_pos hj, List.getElem?_drop] at hx
      rw [List.getElem?_drop, Array.getElem?_toList] at hv
      exact hcells (off + j) v x hv hx
    · simp at hv
  · rw [cell_heap hheap]
    rw [List.getElem?_take] at hv
    split at hv
    · rw [List.getElem?_drop, Array.getElem?_toList] at hv; exact hv
    · simp at hv

/-- Cells that lead into no box. -/
def noKeyB (cs : List AV) : Bool := cs.all fun x => x.key.isNone
theorem noKeyB_get {cs : List AV} (h : noKeyB cs = true) {j : Nat} {x : AV} (hx : cs[j]? = some x) : x.key = none := by
  have := List.all_eq_true.1 h x (List.mem_of_getElem? hx)
  simpa using this

/-- A box that holds no slices over boxes. -/
def noHold (A : Ann) (k : Nat) : Bool := A.held.all fun p => p.1 != k
theorem noHold_key (h : Rel P A g st a w) {k : Nat} (hk : noHold A k = true) {cs : List AV} (hb : st.box k = some cs) {j : Nat} {x : AV} (hx : cs[j]? = some x) : x.key = none := by
  cases hq : x.key with
  | none => rfl
  | some k' =>
    have := List.all_eq_true.1 hk _ (h.ct k cs j x k' hb hx hq)
    simp at this

theorem box_load (h : Rel P A g st a w) {k off s : Nat} {cs : List AV} (hb : st.box k = some cs) (hl : off + s ≤ cs.length) (hk : (noHold A k || noKeyB ((cs.drop off).take s)) = true) :
    ∃ vs : List Value, vs.length = s ∧ CellsR g.μ vs ((cs.drop off).take s) ∧ ∀ j v, vs[j]? = some v → w.cell? ⟨g.ρ k, off + j, none⟩ = some v := by
  obtain ⟨vs, h1, h2, h3⟩ := box_vals h hb hl
  refine ⟨vs, h1, CellsR.mk (by rw [h1]; simp; omega) fun j v x hv hx => ?_, h3⟩
  obtain ⟨q1, q2⟩ := h2 j v x hv hx
  refine ⟨q1, (q2.dr P ?_).1⟩
  rw [Bool.or_eq_true] at hk
  rcases hk with hk | hk
  · rw [List.getElem?_take] at hx
    split at hx
    · rw [List.getElem?_drop] at hx; exact noHold_key h hk hb hx
    · simp at hx
  · exact noKeyB_get hk hx

theorem CV.pr {x : Ent} {v : Value} {y : AV} (h : CV P g w x v y) : PR P g v y := by
  cases y with
  | ms k e lo n => exact ⟨fun hl => by simp [AV.isLoc] at hl, fun _ _ he => by simp at he, fun k' e' lo' n' he => by simp at he; obtain ⟨rfl, rfl, rfl, rfl⟩ := he; exact h⟩
  | loc k off => cases h.1
  | ex e rows => cases h.1
  | fs rows => cases h.1
  | _ => exact PR.of h.1 rfl

theorem Sees.box (hs : Sees T B st) {k : Nat} {cs : List AV} (h : B k = some cs) : st.box k = some cs := by
  rcases hs.b k with e | e
  · rw [← e]; exact h
  · rw [e] at h; simp at h
theorem Sees.tmp (hs : Sees T B st) {t : Nat} (h : T t ≠ .undef) : st.tmps t = T t := by
  rcases hs.t t with e | e
  · exact e.symm
  · exact absurd e h

theorem run_loadVar_agg {t : TypeId} (ha : aggT P t = some true) {vs : List Value} (hl : vs.length = P.cellsOf t) (ad : Addr) (h : ∀ j v, vs[j]? = some v → w.cell? (ad.add j) = some v) : (loadVar t ad).run P w = .ok (.agg vs.toArray) w := by
  obtain ⟨i, hi⟩ := info_of_aggT ha
  have := run_loadCells_list (P := P) w ad vs h
  rw [hl] at this
  simp only [loadVar, Sem.run_bind, run_isAgg ha, Result.andThen_ok, if_true, run_sizeOf' hi, this, Sem.run_pure]
theorem run_loadVar_one {t : TypeId} (ha : aggT P t = some false) {v : Value} (ad : Addr) (h : w.cell? ad = some v) : (loadVar t ad).run P w = .ok v w := by
  simp only [loadVar, Sem.run_bind, run_isAgg ha, Result.andThen_ok, Bool.false_eq_true, if_false, run_load, h]

def loadBox (P : Program) (A : Ann) (d : Option Nat) (t : TypeId) (k off : Nat) (cs : List AV) : Option Ups :=
  match aggT P t with
  | some true => if off + P.cellsOf t ≤ cs.length ∧ (noHold A k || noKeyB ((cs.drop off).take (P.cellsOf t))) = true then putA A d (.agg (((cs.drop off).take (P.cellsOf t)).map AV.share)) else none
  | some false =>
    match cs[off]?, d with
    | some (.slice (.own e) rows), some d' => if A.takes.contains d' then some ⟨[(d', .slice (.own e) rows)], [(k, cs.set off (.slice .sh rows))]⟩ else some ⟨[(d', .slice .sh rows)], []⟩
    | some x, _ => putA A d x
    | none, _ => none
  | none => none

def loadA (P : Program) (A : Ann) (d : Option Nat) (t : TypeId) (v : AV) (B : Nat → Option (List AV)) : Option Ups :=
  match v with
  | .imm cs =>
    match aggT P t with
    | some true => if P.cellsOf t ≤ cs.length then putA A d (.agg ((cs.take (P.cellsOf t)).map AV.share)) else none
    | some false =>
      match cs with
      | x :: _ => putA A d x
      | [] => none
    | none => none
  | .loc k off =>
    match B k with
    | none => none
    | some cs => loadBox P A d t k off cs
  | _ => none

theorem loadA_sound (h : Rel P A g st a w) (hs : Sees T B st) {d : Option Nat} {t : TypeId} {x : AV} {v : Value} (hx : PR P g v x) {u : Ups} (hp : loadA P A d t x B = some u) (hlt : ∀ p ∈ u.ts, p.1 < A.n) :
    ∃ r g', (Instr.loadAt t v).run P w = .ok r w ∧ Rel P A g' (st.apply u) (a.put d r) w ∧ Fr w g w g' := by
  unfold loadA at hp
  split at hp
  · rename_i cs
    have hd := hx.1 rfl
    cases hd with
    | @imm b off _ hc =>
      split at hp
      · rename_i ha
        split at hp
        · rename_i hl
          obtain ⟨vs, hv1, hv2⟩ := (hc.take (P.cellsOf t)).vals
          have hlen : vs.length = P.cellsOf t := by rw [hv1.length]; simp; omega
          have hrun := run_loadVar_agg (P := P) (w := w) ha hlen ⟨b, off, none⟩ (fun j v hj => by rw [add_lit]; exact h.mu _ _ _ (hv2 j v hj))
          refine ⟨_, g, by simp only [Instr.loadAt, Instr.sureAddr, Sem.run_bind, Sem.run_pure, Result.andThen_ok]; exact hrun, putA_sound h hp hlt (PR.dr (.agg (by simpa using hv1.share))), Fr.refl _ _⟩
        · simp at hp
      · rename_i ha
        split at hp
        · rename_i y ys
          obtain ⟨r, hr1, _, hr2⟩ := hc.get (j := 0) (x := y) rfl
          have hrun := run_loadVar_one (P := P) (w := w) ha ⟨b, off, none⟩ (by simpa using h.mu _ _ _ hr1)
          exact ⟨r, g, by simp only [Instr.loadAt, Instr.sureAddr, Sem.run_bind, Sem.run_pure, Result.andThen_ok]; exact hrun, putA_sound h hp hlt (PR.dr hr2), Fr.refl _ _⟩
        · simp at hp
      · simp at hp
  · rename_i k off
    have hv := hx.2.1 k off rfl
    subst hv
    split at hp
    · simp at hp
    · rename_i cs hB
      have hb := hs.box hB
      unfold loadBox at hp
      split at hp
      · rename_i ha
        split at hp
        · rename_i hl
          obtain ⟨vs, hv0, hv1, hv2⟩ := box_load h hb hl.1 hl.2
          have hrun := run_loadVar_agg (P := P) (w := w) ha hv0 ⟨g.ρ k, off, none⟩ (fun j v hj => by rw [add_lit]; exact hv2 j v hj)
          refine ⟨_, g, by simp only [Instr.loadAt, Instr.sureAddr, Sem.run_bind, Sem.run_pure, Result.andThen_ok]; exact hrun, putA_sound h hp hlt (PR.dr (.agg (by simpa using hv1.share))), Fr.refl _ _⟩
        · simp at hp
      · rename_i ha
        have one : ∀ y, cs[off]? = some y → ∃ r, w.cell? ⟨g.ρ k, off, none⟩ = some r ∧ CV P g w (.cell k off) r y := by
          intro y hy
          have hoff : off < cs.length := (List.getElem?_eq_some_iff.1 hy).1
          obtain ⟨vs, hv0, hv1, hv2⟩ := box_vals h hb (off := off) (s := 1) (by omega)
          have hr1 : vs[0]? = some (vs[0]'(by omega)) := by simp [hv0]
          have hr2 := hv1 0 _ y hr1 (by simp [List.getElem?_take, List.getElem?_drop, hy])
          exact ⟨_, by simpa using hv2 0 _ hr1, hr2.2⟩
        split at hp
        · rename_i e rows d' hcell
          obtain ⟨r, hr1, hr2⟩ := one _ hcell
          have hrun := run_loadVar_one (P := P) (w := w) ha ⟨g.ρ k, off, none⟩ hr1
          have hrun' : (Instr.loadAt t (.pointer (some ⟨g.ρ k, off, none⟩))).run P w = .ok r w := by simp only [Instr.loadAt, Instr.sureAddr, Sem.run_bind, Sem.run_pure, Result.andThen_ok]; exact hrun
          split at hp
          · simp at hp; subst hp
            obtain ⟨g', q1, q2⟩ := h.moveToTmp (hlt (d', .slice (.own e) rows) (by simp)) hb hcell hr1
            exact ⟨r, g', hrun', by rw [apply_box_one]; exact q1, q2⟩
          · simp at hp; subst hp
            rw [apply_one]
            exact ⟨r, g, hrun', h.putAny (hlt (d', .slice .sh rows) (by simp)) ⟨hr2.1.share, OwnOK.triv P (by simp)⟩ (by simp), Fr.refl _ _⟩
        · rename_i y hcell _
          obtain ⟨r, hr1, hr2⟩ := one _ hcell
          have hrun := run_loadVar_one (P := P) (w := w) ha ⟨g.ρ k, off, none⟩ hr1
          exact ⟨r, g, by simp only [Instr.loadAt, Instr.sureAddr, Sem.run_bind, Sem.run_pure, Result.andThen_ok]; exact hrun, putA_sound h hp hlt hr2.pr, Fr.refl _ _⟩
        · simp at hp
      · simp at hp
  · simp at hp

def storeBox (P : Program) (A : Ann) (t : TypeId) (k off : Nat) (cs : List AV) (y : Operand) (yv : AV) : Option Ups :=
  match yv with
  | .ms k' e lo n => if P.cellsOf t = 1 ∧ off < cs.length ∧ (P.info? t).isSome = true ∧ A.held.contains (k, k') = true then some ⟨[], [(k, splice cs off [.ms k' e lo n])]⟩ else none
  | yv =>
    match yv.cells with
    | some xs =>
      if xs.length = P.cellsOf t ∧ off + xs.length ≤ cs.length ∧ (P.info? t).isSome = true then
        match y, yv with
        | .tmp t', .slice (.own e) rows => some ⟨[(t', .slice .sh rows)], [(k, splice cs off [.slice (.own e) rows])]⟩
        | _, _ => some ⟨[], [(k, splice cs off (xs.map AV.share))]⟩
      else none
    | none => none

def storeA (P : Program) (A : Ann) (t : TypeId) (av : AV) (y : Operand) (yv : AV) (B : Nat → Option (List AV)) : Option Ups :=
  match av with
  | .loc k off =>
    match B k with
    | some cs => storeBox P A t k off cs y yv
    | none => none
  | _ => none

theorem splice_set {cs : List AV} {off : Nat} (h : off < cs.length) (x y : AV) : (splice cs off [x]).set off y = splice cs off [y] := by
  apply List.ext_getElem?
  intro j
  have hl : off + [x].length ≤ cs.length := by simp; omega
  have hl' : off + [y].length ≤ cs.length := by simp; omega
  rw [List.getElem?_set, splice_length hl]
  unfold splice
  rw [splice_get hl, splice_get hl']
  simp only [List.length_singleton]
  by_cases hj : off = j
  · subst hj; simp [h]
  · rw [if_neg hj]
    by_cases hj' : off ≤ j ∧ j < off + 1
    · omega
    · rw [if_neg hj', if_neg hj']

/-- A cell of a box is seen as more than it was. -/
theorem Rel.upCell (h : Rel P A g st a w) {k off : Nat} {cs : List AV} {v : Value} {y : AV} (hb : st.box k = some cs) (hoff : off < cs.length) (hv : w.cell? ⟨g.ρ k, off, none⟩ = some v) (h1 : v.oneCell' = true) (hy : CV P g w (.cell k off) v y)
    (hk : ∀ k', y.key = some k' → (k, k') ∈ A.held) : Rel P A g (st.setBox k (cs.set off y)) a w := by
  have hbox := h.bx k cs hb
  have hne : cs ≠ [] := fun e => by subst e; simp at hoff
  obtain ⟨cur, el, hheap, hsz, hcells⟩ := hbox.mem hne
  have hcell : cur[off]? = some v := by simpa [World.cell?, hheap] using hv
  refine h.addBox ⟨fun _ => hbox.own hne, fun _ => ⟨cur, el, hheap, by simpa using hsz, fun j u x hu hx => ?_⟩, fun _ => hbox.free hne⟩ (fun j x k' hx hk' => ?_)
  · rw [List.getElem?_set] at hx
    split at hx
    · rename_i hj; subst hj
      simp [hoff] at hx; subst hx
      rw [hcell] at hu
      obtain rfl : v = u := by simpa using hu
      exact ⟨h1, hy⟩
    · exact hcells j u x hu hx
  · rw [List.getElem?_set] at hx
    split at hx
    · rename_i hj; subst hj
      simp [hoff] at hx; subst hx
      exact hk k' hk'
    · exact h.ct k cs j x k' hb hx hk'

theorem storeA_sound (h : Rel P A g st a w) (hs : Sees T B st) {t : TypeId} {x : AV} {v : Value} (hx : PR P g v x) {y : Operand} {u : Ups} (hp : storeA P A t x y (valA T y) B = some u) (_hlt : ∀ p ∈ u.ts, p.1 < A.n) :
    ∃ w' g', (Instr.storeAt t v (a.eval y)).run P w = .ok () w' ∧ Rel P A g' (st.apply u) a w' ∧ Fr w g w' g' := by
  unfold storeA at hp
  split at hp
  · rename_i k off
    have hv := hx.2.1 k off rfl
    subst hv
    split at hp
    rotate_left
    · simp at hp
    rename_i cs hB
    have hb := hs.box hB
    unfold storeBox at hp
    split at hp
    · rename_i k' e lo n hyv
      · split at hp
        · rename_i hcond
          obtain ⟨h1, h2, h3, h4⟩ := hcond
          simp at hp; subst hp
          obtain ⟨i, hi⟩ := Option.isSome_iff_exists.1 h3
          have hms := (hs.pr h y).2.2 k' e lo n hyv
          have hone : (a.eval y).cells.toList = [a.eval y] ∧ (a.eval y).oneCell' = true := by
            rcases hms with ⟨_, e1⟩ | ⟨cap, _, e1⟩ <;> rw [e1] <;> exact ⟨rfl, rfl⟩
          have hsz : (a.eval y).cells.size = P.cellsOf t := by rw [h1]; have := congrArg List.length hone.1; simpa using this
          obtain ⟨w', q1, q2, q3, q4⟩ := h.store (off := off) hb (a.eval y).cells.toList [.undef] (by rw [hone.1]; exact .cons hone.2 (.undef _) .nil) (by intro z hz; simp at hz; subst hz; simp) (by simp; omega)
          have hcell := q4 0 (a.eval y) (by rw [hone.1]; rfl)
          have hl : off + ([AV.undef] : List AV).length ≤ cs.length := by simp; omega
          have r := q2.upCell (k := k) (off := off) (cs := splice cs off [.undef]) (v := a.eval y) (y := .ms k' e lo n) (by simp [AS.box_setBox]) (by rw [splice_length hl]; exact h2) hcell hone.2 hms (fun k'' hk'' => by simp at hk''; subst hk''; simpa using h4)
          refine ⟨w', g, ?_, ?_, q3⟩
          · simp only [Instr.storeAt, Instr.sureAddr, storeVar, Sem.run_bind, Sem.run_pure, Result.andThen_ok, run_sizeOf' hi, hsz, ne_eq, not_true, if_false, Sem.run_ite]
            exact q1
          · rw [apply_box]
            rw [splice_set h2] at r
            have : ((st.setBox k (splice cs off [.undef])).setBox k (splice cs off [.ms k' e lo n])) = st.setBox k (splice cs off [.ms k' e lo n]) := by
              simp only [AS.setBox, AS.mk.injEq, true_and]
              funext j; split <;> simp_all
            rw [this] at r
            exact r
        · simp at hp
    · split at hp
      rotate_left
      · simp at hp
      rename_i xs hxs
      split at hp
      · rename_i hcond
        obtain ⟨h1, h2, h3⟩ := hcond
        obtain ⟨i, hi⟩ := Option.isSome_iff_exists.1 h3
        have hdr : DR g.μ (a.eval y) (valA T y) := (hs.pr h y).1 (cells_isLoc hxs)
        have hcr := hdr.cellsR hxs
        have hsz : (a.eval y).cells.size = P.cellsOf t := by rw [← h1, ← hcr.length]; simp
        have hrun : ∀ w', (storeCells ⟨g.ρ k, off, none⟩ (a.eval y).cells.toList 0).run P w = .ok () w' → (Instr.storeAt t (.pointer (some ⟨g.ρ k, off, none⟩)) (a.eval y)).run P w = .ok () w' := by
          intro w' hw
          simp only [Instr.storeAt, Instr.sureAddr, storeVar, Sem.run_bind, Sem.run_pure, Result.andThen_ok, run_sizeOf' hi, hsz, ne_eq, not_true, if_false, Sem.run_ite]
          exact hw
        split at hp
        · rename_i t' e rows hyv0 hyv
          simp at hp; subst hp
          have hxs1 : xs = [.slice (.own e) rows] := by rw [hyv] at hxs; simpa [AV.cells] using hxs.symm
          subst hxs1
          have ht' : st.tmps t' = .slice (.own e) rows := by
            have : T t' = .slice (.own e) rows := hyv
            rw [hs.tmp (by rw [this]; simp), this]
          have hcr' : CellsR g.μ (a.eval (.tmp t')).cells.toList [.slice .sh rows] := hcr.share
          have hoff : off < cs.length := by simp at h2; omega
          obtain ⟨w', q1, q2, q3, q4⟩ := h.store hb _ [.slice .sh rows] hcr' (by intro z hz; simp at hz; subst hz; simp) (by simpa using h2)
          have hvl : (a.eval (.tmp t')).cells.toList = [a.tmps.getD t' undef] := by
            have he : (a.eval (.tmp t')) = a.tmps.getD t' undef := rfl
            have hd : DR g.μ (a.tmps.getD t' undef) (.slice (.own e) rows) := by rw [hyv] at hdr; exact hdr
            rw [he]
            generalize a.tmps.getD t' undef = vv at hd
            cases hd <;> rfl
          have hcell : w'.cell? ⟨g.ρ k, off, none⟩ = some (a.tmps.getD t' undef) := q4 0 (a.tmps.getD t' undef) (by rw [hvl]; rfl)
          obtain ⟨g', r1, r2⟩ := q2.moveToCell (t := t') (k := k) (off := off) (e := e) (rows := rows) (cs := splice cs off [.slice .sh rows]) (by simpa [AS.tmps_setBox] using ht') (by simp [AS.box_setBox]) hcell (by rw [splice_length (by simp; omega)]; exact hoff)
          refine ⟨w', g', hrun w' q1, ?_, q3.trans r2⟩
          rw [splice_set hoff] at r1
          rw [apply_box_one]
          have : ((st.setBox k (splice cs off [.slice .sh rows])).put t' (.slice .sh rows)).setBox k (splice cs off [.slice (.own e) rows]) = (st.setBox k (splice cs off [.slice (.own e) rows])).put t' (.slice .sh rows) := by
            simp only [AS.setBox, AS.put, AS.mk.injEq, true_and]
            funext j; split <;> simp_all
          rw [this] at r1
          exact r1
        · simp at hp; subst hp
          obtain ⟨w', q1, q2, q3, _⟩ := h.store hb _ _ hcr.share (noOwn_share xs) (by simpa using h2)
          exact ⟨w', g, hrun w' q1, by rw [apply_box]; exact q2, q3⟩
      · simp at hp
  · simp at hp

def fieldAddrA (P : Program) (A : Ann) (d : Option Nat) (s : TypeId) (v : AV) (f : Nat) : Option Ups :=
  match P.underlying s with
  | some (.struct fields) =>
    match fields[f]? with
    | some fl =>
      if P.cellsOf fl.type = 0 then none else
      match v with
      | .loc k off => putA A d (.loc k (off + fl.offset))
      | .imm cs => putA A d (.imm (cs.drop fl.offset))
      | _ => none
    | none => none
  | _ => none

theorem info_of_cells {t : TypeId} (h : ¬ P.cellsOf t = 0) : ∃ i, P.info? t = some i := by
  unfold Program.cellsOf at h
  cases hi : P.info? t with
  | none => simp [hi] at h
  | some i => exact ⟨i, rfl⟩

theorem fieldAddrA_sound (h : Rel P A g st a w) {d : Option Nat} {s : TypeId} {f : Nat} {x : AV} {v : Value} (hx : PR P g v x) {u : Ups} (hp : fieldAddrA P A d s x f = some u) (hlt : ∀ p ∈ u.ts, p.1 < A.n) :
    ∃ r, (Instr.fieldAt s v f).run P w = .ok r w ∧ Rel P A g (st.apply u) (a.put d r) w := by
  unfold fieldAddrA at hp
  split at hp
  · rename_i fields hu
    split at hp
    · rename_i fl hf
      split at hp
      · simp at hp
      · rename_i hc
        obtain ⟨i, hi⟩ := info_of_cells hc
        have hrun : ∀ b o, (Instr.fieldAt s (.pointer (some ⟨b, o, none⟩)) f).run P w = .ok (.pointer (some ⟨b, o + fl.offset, none⟩)) w := by
          intro b o
          simp only [Instr.fieldAt, Sem.run_bind, run_underlying hu, Result.andThen_ok, hf, Instr.sureAddr, Sem.run_pure, fieldPlace, run_sizeOf' hi, if_neg hc, Sem.run_ite, add_lit]
        split at hp
        · rename_i k off
          have hv := hx.2.1 k off rfl
          subst hv
          exact ⟨_, hrun _ _, putA_sound h hp hlt ⟨fun hl => by simp [AV.isLoc] at hl, fun k' off' he => by simp at he; obtain ⟨rfl, rfl⟩ := he; rfl, fun _ _ _ _ he => by simp at he⟩⟩
        · rename_i cs
          cases hx.1 rfl with
          | imm hc' => exact ⟨_, hrun _ _, putA_sound h hp hlt (PR.dr (.imm (hc'.drop _)))⟩
        · simp at hp
    · simp at hp
  · simp at hp

theorem flatten_drop {rows : List (List AV)} {s : Nat} (hu : ∀ r ∈ rows, r.length = s) : ∀ l, (rows.drop l).flatten = rows.flatten.drop (l * s) := by
  induction rows with
  | nil => intro l; simp
  | cons r rs ih =>
    intro l
    cases l with
    | zero => simp
    | succ l =>
      rw [List.drop_succ_cons, ih (fun x hx => hu x (by simp [hx])), List.flatten_cons]
      have hr := hu r (by simp)
      rw [List.drop_append, hr]
      have : r.drop ((l + 1) * s) = [] := by apply List.drop_eq_nil_of_le; rw [hr, Nat.add_mul]; omega
      rw [this, List.nil_append]
      congr 1
      rw [Nat.add_mul]; omega
theorem flatten_take {rows : List (List AV)} {s : Nat} (hu : ∀ r ∈ rows, r.length = s) : ∀ l, (rows.take l).flatten = rows.flatten.take (l * s) := by
  induction rows with
  | nil => intro l; simp
  | cons r rs ih =>
    intro l
    cases l with
    | zero => simp
    | succ l =>
      rw [List.take_succ_cons, List.flatten_cons, ih (fun x hx => hu x (by simp [hx])), List.flatten_cons]
      have hr := hu r (by simp)
      rw [List.take_append, hr]
      have h1 : r.take ((l + 1) * s) = r := by apply List.take_of_length_le; rw [hr, Nat.add_mul]; omega
      rw [h1]
      congr 2
      rw [Nat.add_mul]; omega

/-- A slice that is not empty, in memory. -/
theorem DR.rows {μ : Mem} {v : Value} {tag : Tag} {rows : List (List AV)} (h : DR μ v (.slice tag rows)) (hne : rows ≠ []) :
    ∃ b off cap s, v = .slice (some ⟨b, off, none⟩) rows.length cap ∧ tag ≠ .nil ∧ rows.length ≤ cap ∧ (∀ r ∈ rows, r.length = s) ∧ CellsAt μ b off rows.flatten := by
  cases h with
  | sliceE _ => exact absurd rfl hne
  | @slice b off cap _ r rs n ht hu hn hcap hc =>
    subst hn
    refine ⟨b, off, cap, r.length, rfl, ht, hcap, fun x hx => ?_, hc⟩
    simp at hx
    rcases hx with rfl | hx
    · rfl
    · exact hu x hx

theorem DR.empty {μ : Mem} {v : Value} {tag : Tag} (h : DR μ v (.slice tag [])) : ∃ a cap, v = .slice a 0 cap ∧ (tag = .nil → a = none ∧ cap = 0) := by
  cases h with
  | sliceE h => exact ⟨_, _, rfl, h⟩

def indexAddrA (P : Program) (A : Ann) (d : Option Nat) (t : TypeId) (x ix : AV) : Option Ups :=
  match ix with
  | .int _ i =>
    if 0 ≤ i then
      match P.underlying t, x with
      | some (.slice e), .slice _ rows =>
        match rows[i.toNat]? with
        | some r => if r.length = P.cellsOf e ∧ (P.info? e).isSome = true then putA A d (.imm r) else none
        | none => none
      | some (.slice e), .ms k e' lo n => if e' = e ∧ i.toNat < n ∧ (P.info? e).isSome = true then putA A d (.loc k ((lo + i.toNat) * P.cellsOf e)) else none
      | some (.array n e), .loc k off => if i < n ∧ (P.info? e).isSome = true then putA A d (.loc k (off + i.toNat * P.cellsOf e)) else none
      | some (.array n e), .imm cs => if i < n ∧ (P.info? e).isSome = true then putA A d (.imm (cs.drop (i.toNat * P.cellsOf e))) else none
      | _, _ => none
    else none
  | _ => none

theorem indexAddrA_sound (h : Rel P A g st a w) {d : Option Nat} {t : TypeId} {x ix : AV} {v iv : Value} (hx : PR P g v x) (hix : PR P g iv ix) {u : Ups} (hp : indexAddrA P A d t x ix = some u) (hlt : ∀ p ∈ u.ts, p.1 < A.n) :
    ∃ r, (Instr.indexAt t v iv).run P w = .ok r w ∧ Rel P A g (st.apply u) (a.put d r) w := by
  unfold indexAddrA at hp
  split at hp
  · rename_i k i
    have hi := hix.1 rfl
    cases hi
    split at hp
    · rename_i hi0
      split at hp
      · rename_i e _ rows hu
        split at hp
        · rename_i r hr
          split at hp
          · rename_i hc
            obtain ⟨hc1, hc2⟩ := hc
            obtain ⟨ie, hie⟩ := Option.isSome_iff_exists.1 hc2
            have hlt' : i.toNat < rows.length := (List.getElem?_eq_some_iff.1 hr).1
            have hne : rows ≠ [] := by intro he; subst he; simp at hlt'
            obtain ⟨b, off, cap, s, hv, _, _, hus, hca⟩ := (hx.1 rfl).rows hne
            subst hv
            have hs : s = P.cellsOf e := by rw [← hc1]; exact (hus r (List.mem_of_getElem? hr)).symm
            subst hs
            refine ⟨.pointer (some ⟨b, off + i.toNat * P.cellsOf e, none⟩), ?_, putA_sound h hp hlt (PR.dr (.imm ?_))⟩
            · have hin : 0 ≤ i ∧ i < (rows.length : Int) := ⟨hi0, by omega⟩
              simp only [Instr.indexAt, asIntOf, Sem.run_bind, Sem.run_pure, Result.andThen_ok, run_underlying hu, if_pos hin, run_sizeOf' hie, Sem.run_ite, add_lit]
            · have h1 := hca.drop (i.toNat * P.cellsOf e)
              rw [← flatten_drop hus] at h1
              have h2 : rows.drop i.toNat = r :: rows.drop (i.toNat + 1) := by
                rw [List.drop_eq_getElem_cons hlt']
                congr 1
                exact (List.getElem?_eq_some_iff.1 hr).2
              rw [h2, List.flatten_cons] at h1
              have h3 := h1.take r.length
              rwa [List.take_left] at h3
          · simp at hp
        · simp at hp
      · rename_i e k' e' lo n hu
        split at hp
        · rename_i hc
          obtain ⟨rfl, hin', hinf⟩ := hc
          obtain ⟨ie, hie⟩ := Option.isSome_iff_exists.1 hinf
          rcases hx.2.2 k' e' lo n rfl with ⟨h0, _⟩ | ⟨cap, _, hv⟩
          · omega
          · subst hv
            refine ⟨.pointer (some ⟨g.ρ k', (lo + i.toNat) * P.cellsOf e', none⟩), ?_, putA_sound h hp hlt ⟨fun hl => by simp [AV.isLoc] at hl, fun k'' off' he => by simp at he; obtain ⟨rfl, rfl⟩ := he; rfl, fun _ _ _ _ he => by simp at he⟩⟩
            have hin : 0 ≤ i ∧ i < (n : Int) := ⟨hi0, by omega⟩
            simp only [Instr.indexAt, asIntOf, Sem.run_bind, Sem.run_pure, Result.andThen_ok, run_underlying hu, if_pos hin, run_sizeOf' hie, Sem.run_ite, add_lit, Nat.add_mul]
        · simp at hp
      · rename_i n e k' off hu
        split at hp
        · rename_i hc
          obtain ⟨ie, hie⟩ := Option.isSome_iff_exists.1 hc.2
          have hv := hx.2.1 k' off rfl
          subst hv
          refine ⟨.pointer (some ⟨g.ρ k', off + i.toNat * P.cellsOf e, none⟩), ?_, putA_sound h hp hlt ⟨fun hl => by simp [AV.isLoc] at hl, fun k'' off' he => by simp at he; obtain ⟨rfl, rfl⟩ := he; rfl, fun _ _ _ _ he => by simp at he⟩⟩
          have hin : 0 ≤ i ∧ i < (n : Int) := ⟨hi0, hc.1⟩
          simp only [Instr.indexAt, asIntOf, Sem.run_bind, Sem.run_pure, Result.andThen_ok, run_underlying hu, Instr.sureAddr, if_pos hin, run_sizeOf' hie, Sem.run_ite, add_lit]
        · simp at hp
      · rename_i n e cs hu
        split at hp
        · rename_i hc
          obtain ⟨ie, hie⟩ := Option.isSome_iff_exists.1 hc.2
          cases hx.1 rfl with
          | @imm b off _ hca =>
            refine ⟨.pointer (some ⟨b, off + i.toNat * P.cellsOf e, none⟩), ?_, putA_sound h hp hlt (PR.dr (.imm (hca.drop _)))⟩
            have hin : 0 ≤ i ∧ i < (n : Int) := ⟨hi0, hc.1⟩
            simp only [Instr.indexAt, asIntOf, Sem.run_bind, Sem.run_pure, Result.andThen_ok, run_underlying hu, Instr.sureAddr, if_pos hin, run_sizeOf' hie, Sem.run_ite, add_lit]
        · simp at hp
      · simp at hp
    · simp at hp
  · simp at hp

end Go.Abs
