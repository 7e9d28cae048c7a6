import Derived.Test.YtalbakjfbgkjjaaAbs6
import Derived.Great.FillDense
set_option linter.unusedSimpArgs false
namespace Go.Abs
open Go.RowKit

variable {P : Program} {A : Ann} {g : Gh} {st : AS} {a : Act} {w : World}

/-- What a step writes: slots (the first entry counts) and boxes. -/
structure Ups where
  ts : List (Nat × AV) := []
  bs : List (Nat × List AV) := []

def AS.apply (st : AS) (u : Ups) : AS := ⟨fun t => (u.ts.lookup t).getD (st.tmps t), fun k => (u.bs.lookup k).or (st.box k)⟩

theorem lookup_cons_nat {β : Type} (t : Nat) (x : β) (l : List (Nat × β)) (u : Nat) : ((t, x) :: l).lookup u = if u = t then some x else l.lookup u := by
  rw [List.lookup_cons]
  by_cases h : u = t
  · subst h; simp
  · have : (u == t) = false := by simpa using h
    simp [this, h]

theorem apply_none (st : AS) : st.apply {} = st := by simp [AS.apply]
theorem apply_one (st : AS) (d : Nat) (x : AV) : st.apply ⟨[(d, x)], []⟩ = st.put d x := by
  simp only [AS.apply, AS.put, lookup_cons_nat, List.lookup_nil, AS.mk.injEq]
  refine ⟨?_, by funext k; simp⟩
  funext t
  by_cases h : t = d <;> simp [h]
theorem apply_two (st : AS) (d e : Nat) (x y : AV) : st.apply ⟨[(d, x), (e, y)], []⟩ = (st.put e y).put d x := by
  simp only [AS.apply, AS.put, lookup_cons_nat, List.lookup_nil, AS.mk.injEq]
  refine ⟨?_, by funext k; simp⟩
  funext t
  by_cases h : t = d
  · simp [h]
  · by_cases h' : t = e
    · subst h'; simp [h]
    · simp [h, h']
theorem apply_box (st : AS) (k : Nat) (cs : List AV) : st.apply ⟨[], [(k, cs)]⟩ = st.setBox k cs := by
  simp only [AS.apply, AS.setBox, lookup_cons_nat, List.lookup_nil, AS.mk.injEq, Option.getD_none, true_and]
  funext j
  by_cases h : j = k <;> simp [h]
theorem apply_box_one (st : AS) (k d : Nat) (cs : List AV) (x : AV) : st.apply ⟨[(d, x)], [(k, cs)]⟩ = (st.setBox k cs).put d x := by
  simp only [AS.apply, AS.setBox, AS.put, lookup_cons_nat, List.lookup_nil, AS.mk.injEq]
  refine ⟨?_, ?_⟩
  · funext t
    by_cases h : t = d <;> simp [h]
  · funext j
    by_cases h : j = k <;> simp [h]
theorem lookup_undef (l : List Nat) (t : Nat) : (l.map fun u => (u, AV.undef)).lookup t = if t ∈ l then some .undef else none := by
  induction l with
  | nil => simp
  | cons u l ih =>
    rw [List.map_cons, lookup_cons_nat, ih]
    by_cases h : t = u <;> simp [h]
theorem apply_new (A : Ann) (st : AS) (d : Nat) (cs : List AV) : st.apply ⟨(d, .loc d 0) :: (A.derived d).map (fun u => (u, .undef)), [(d, cs)]⟩ = AS.newBox A st d cs := by
  simp only [AS.apply, AS.newBox, AS.put, AS.setBox, AS.mk.injEq]
  refine ⟨?_, ?_⟩
  · funext t
    rw [lookup_cons_nat, lookup_undef, AS.forgets_tmps]
    by_cases h : t = d
    · simp [h]
    · by_cases h' : t ∈ A.derived d <;> simp [h, h']
  · funext j
    rw [AS.forgets_box, lookup_cons_nat]
    by_cases h : j = d <;> simp [h]

/-- A value and what stands for it, ownership aside. -/
def PR (P : Program) (g : Gh) (v : Value) (x : AV) : Prop := (x.isLoc = false → DR g.μ v x) ∧ (∀ k off, x = .loc k off → v = .pointer (some ⟨g.ρ k, off, none⟩)) ∧ ∀ k e lo n, x = .ms k e lo n → MsV P g v k e lo n

theorem PR.of {v : Value} {x : AV} (h : DR g.μ v x) (hl : x.isLoc = false) : PR P g v x := ⟨fun _ => h, fun k off he => by subst he; simp [AV.isLoc] at hl, fun k e lo n he => by subst he; simp [AV.isLoc] at hl⟩
theorem TR.pr {t : Nat} {v : Value} {x : AV} (h : TR P g w t v x) : PR P g v x := by
  cases x with
  | loc k off => exact ⟨fun hl => by simp [AV.isLoc] at hl, fun k' off' he => by simp at he; obtain ⟨rfl, rfl⟩ := he; exact h, fun _ _ _ _ he => by simp at he⟩
  | ms k e lo n => exact ⟨fun hl => by simp [AV.isLoc] at hl, fun _ _ he => by simp at he, fun k' e' lo' n' he => by simp at he; obtain ⟨rfl, rfl, rfl, rfl⟩ := he; exact h⟩
  | ex e rows => exact ⟨fun hl => by simp [AV.isLoc] at hl, fun _ _ he => by simp at he, fun _ _ _ _ he => by simp at he⟩
  | fs rows => exact ⟨fun hl => by simp [AV.isLoc] at hl, fun _ _ he => by simp at he, fun _ _ _ _ he => by simp at he⟩
  | _ => exact PR.of h.1 rfl

def valA (T : Nat → AV) : Operand → AV
  | .tmp t => T t
  | .const v => constAV v
  | .func f => .fn (.func f)
  | .global _ => .undef

/-- The masked view of a state. -/
structure Sees (T : Nat → AV) (B : Nat → Option (List AV)) (st : AS) : Prop where
  t : ∀ t, T t = st.tmps t ∨ T t = .undef
  b : ∀ k, B k = st.box k ∨ B k = none

theorem Sees.tr {T : Nat → AV} {B : Nat → Option (List AV)} (hs : Sees T B st) (h : Rel P A g st a w) (t : Nat) : TR P g w t (a.tmps.getD t undef) (T t) := by
  rcases hs.t t with e | e
  · rw [e]; exact h.tm t
  · rw [e]; exact TR.undef

theorem Sees.pr {T : Nat → AV} {B : Nat → Option (List AV)} (hs : Sees T B st) (h : Rel P A g st a w) (x : Operand) : PR P g (a.eval x) (valA T x) := by
  cases x with
  | tmp t => exact (hs.tr h t).pr
  | const v =>
    refine PR.of (constAV_DR v) ?_
    show (constAV v).isLoc = false
    unfold constAV
    split <;> rfl
  | func f => exact PR.of (.fn _) rfl
  | global g => exact PR.of (.undef _) rfl

/-- A value goes to a slot, shared. -/
def putA (A : Ann) (d : Option Nat) (x : AV) : Option Ups :=
  match d with
  | none => some {}
  | some d =>
    match x with
    | .loc k off => if A.root d = k then some { ts := [(d, .loc k off)] } else none
    | .ms k e lo n => if A.root d = k then some { ts := [(d, .ms k e lo n)] } else none
    | .ex _ _ | .fs _ => none
    | x => some { ts := [(d, x.share)] }

theorem putA_sound (h : Rel P A g st a w) {d : Option Nat} {x : AV} {u : Ups} (hp : putA A d x = some u) (hlt : ∀ p ∈ u.ts, p.1 < A.n) {v : Value} (hv : PR P g v x) : Rel P A g (st.apply u) (a.put d v) w := by
  unfold putA at hp
  split at hp
  · simp at hp; subst hp; rw [apply_none]; exact h
  · rename_i d
    split at hp
    · rename_i k off
      split at hp
      · rename_i hr
        simp at hp; subst hp
        rw [apply_one]
        exact h.putAny (hlt (d, .loc k off) (by simp)) (hv.2.1 k off rfl) (fun k' he => by simp at he; rw [hr]; exact he)
      · simp at hp
    · rename_i k e lo n
      split at hp
      · rename_i hr
        simp at hp; subst hp
        rw [apply_one]
        exact h.putAny (hlt (d, .ms k e lo n) (by simp)) (hv.2.2 k e lo n rfl) (fun k' he => by simp at he; rw [hr]; exact he)
      · simp at hp
    · simp at hp
    · simp at hp
    · rename_i hnl hnm hnx hnf
      simp at hp; subst hp
      rw [apply_one]
      have hl : x.isLoc = false := by
        cases x <;> first | rfl | exact absurd rfl (hnl _ _) | exact absurd rfl (hnm _ _ _ _) | exact absurd rfl (hnx _ _) | exact absurd rfl (hnf _)
      exact h.putAny (hlt (d, x.share) (by simp)) (TR.of P (by rw [share_isLoc]; exact hl) (hv.1 hl).share (OwnOK.triv P (share_own x))) (fun k' he => by
        have : x.share.isLoc = false := by rw [share_isLoc]; exact hl
        rw [key_none this] at he; simp at he)

/-- The value that an operation gives, and the world behind it. -/
def OpRuns (P : Program) (o : Oper) (a : Act) (w : World) (v : Value) (w' : World) : Prop :=
  (execOp a.eval o).run P w = .ok (.value v) w' ∨ ((execOp a.eval o).run P w = .ok .skip w' ∧ v = undef)

def moveA (A : Ann) (d : Option Nat) (x : Operand) (v : AV) : Option Ups :=
  match d, x, v with
  | some d', .tmp t, .slice (.own e) rows =>
    if A.takes.contains d' then (if t = d' then none else some ⟨[(d', .slice (.own e) rows), (t, .slice .sh rows)], []⟩)
    else some ⟨[(d', .slice .sh rows)], []⟩
  | some d', .tmp t, .ex e rows => if A.takes.contains d' = true ∧ t ≠ d' then some ⟨[(d', .ex e rows), (t, .undef)], []⟩ else none
  | _, _, _ => putA A d v

theorem moveA_sound {T : Nat → AV} {B : Nat → Option (List AV)} (h : Rel P A g st a w) (hs : Sees T B st) {d : Option Nat} {x : Operand} {u : Ups} (hp : moveA A d x (valA T x) = some u) (hlt : ∀ p ∈ u.ts, p.1 < A.n) :
    ∃ g', Rel P A g' (st.apply u) (a.put d (a.eval x)) w ∧ Fr w g w g' := by
  unfold moveA at hp
  split at hp
  · rename_i d t e rows hv
    have ht : st.tmps t = .slice (.own e) rows := by
      rcases hs.t t with e' | e'
      · rw [← e']; exact hv
      · simp only [valA, e'] at hv; simp at hv
    split at hp
    · split at hp
      · simp at hp
      · rename_i hne
        simp at hp; subst hp
        obtain ⟨g', q1, q2⟩ := h.takeTmp ht (hlt (d, .slice (.own e) rows) (by simp)) hne
        exact ⟨g', by rw [apply_two]; exact q1, q2⟩
    · simp at hp; subst hp
      rw [apply_one]
      have htr := h.tm t
      rw [ht] at htr
      exact ⟨g, h.putAny (hlt (d, .slice .sh rows) (by simp)) ⟨htr.1.share, OwnOK.triv P (by simp)⟩ (by simp), Fr.refl _ _⟩
  · rename_i d t e rows hv
    have ht : st.tmps t = .ex e rows := by
      rcases hs.t t with e' | e'
      · rw [← e']; exact hv
      · simp only [valA, e'] at hv; simp at hv
    split at hp
    · rename_i hc
      simp at hp; subst hp
      obtain ⟨g', q1, q2⟩ := h.takeEx ht (hlt (d, .ex e rows) (by simp)) hc.2
      exact ⟨g', by rw [apply_two]; exact q1, q2⟩
    · simp at hp
  · exact ⟨g, putA_sound h hp hlt (hs.pr h _), Fr.refl _ _⟩

def newA (A : Ann) (d : Nat) (cs : List AV) : Option Ups :=
  if A.root d = d ∧ A.np ≤ d ∧ (A.held.all fun p => p.2 != d) = true then some ⟨(d, .loc d 0) :: (A.derived d).map (fun u => (u, .undef)), [(d, cs)]⟩ else none

theorem newA_sound (h : Rel P A g st a w) {d : Nat} {cs : List AV} {u : Ups} (hp : newA A d cs = some u) (hlt : ∀ p ∈ u.ts, p.1 < A.n) (e : TypeId) (vs : Array Value) (hc : CellsR g.μ vs.toList cs) (hno : noOwn cs) :
    ∃ g', Rel P A g' (st.apply u) (a.put (some d) (.pointer (some ⟨w.heap.size, 0, none⟩))) (w.alloc (.cells vs e)) ∧ Fr w g (w.alloc (.cells vs e)) g' := by
  unfold newA at hp
  split at hp
  · rename_i hr
    simp at hp; subst hp
    rw [apply_new]
    exact ⟨_, h.newBox (hlt (d, .loc d 0) (by simp)) hr.2.1 hr.1 (fun k hk => by have := List.all_eq_true.1 hr.2.2 _ hk; simp at this) e vs cs hc hno⟩
  · simp at hp

/-- A composite value is filled. -/
def fillA (place : Nat → Option (Nat × Nat)) (cs : List AV) : List (Nat × List AV) → Option (List AV)
  | [] => some cs
  | (i, xs) :: rest =>
    match place i with
    | none => none
    | some (off, size) => if xs.length = size ∧ off + size ≤ cs.length then fillA place (splice cs off xs) rest else none

theorem CellsR.splice {μ : Mem} {vs us : List Value} {cs xs : List AV} {off : Nat} (h : CellsR μ vs cs) (k : CellsR μ us xs) (_hl : off + xs.length ≤ cs.length) : CellsR μ (vs.take off ++ us ++ vs.drop (off + us.length)) (Abs.splice cs off xs) := by
  unfold Abs.splice
  rw [k.length]
  exact ((h.take off).append k).append (h.drop _)

theorem fillA_spec {μ : Mem} (place : Nat → Option (Nat × Nat)) : ∀ (parts : List (Nat × Value)) (pcs : List (Nat × List AV)) (vs : Array Value) (cs rs : List AV), CellsR μ vs.toList cs →
    parts.length = pcs.length → (∀ (j : Nat) (i : Nat) (v : Value) (i' : Nat) (xs : List AV), parts[j]? = some (i, v) → pcs[j]? = some (i', xs) → i = i' ∧ CellsR μ v.cells.toList xs) → fillA place cs pcs = some rs →
    ∃ us, Instr.fill place vs parts = some us ∧ CellsR μ us.toList rs
  | [], [], vs, cs, rs, hc, _, _, h => by simp [fillA] at h; subst h; exact ⟨vs, rfl, hc⟩
  | (i, v) :: parts, (i', xs) :: pcs, vs, cs, rs, hc, hl, hp, h => by
    obtain ⟨rfl, hx⟩ := hp 0 i v i' xs rfl rfl
    unfold fillA at h
    split at h
    · simp at h
    · rename_i off size hpl
      split at h
      · rename_i hcond
        obtain ⟨h1, h2⟩ := hcond
        have hvl : v.cells.size = size := by rw [← h1, ← hx.length]; simp
        have hcl : vs.size = cs.length := by rw [← hc.length]; simp
        have hfold : (v.cells.zipIdx.foldl (fun cs (c, j) => cs.setIfInBounds (off + j) c) vs).toList = vs.toList.take off ++ v.cells.toList ++ vs.toList.drop (off + v.cells.toList.length) := by
          rw [← Array.foldl_toList, Array.toList_zipIdx]
          obtain ⟨f1, f2⟩ := Great.foldl_set off v.cells.toList 0 vs
          apply List.ext_getElem?
          intro j
          rw [splice_get (by simp; omega)]
          have := f2 j
          simp only [Nat.add_zero] at this
          rw [Array.getElem?_toList]
          refine this.trans ?_
          simp only [Array.length_toList, Array.getElem?_toList]
          by_cases hj : off ≤ j ∧ j < off + v.cells.size
          · rw [if_pos hj, if_pos ⟨hj.1, hj.2, by omega⟩]
          · rw [if_neg hj, if_neg (by omega)]
        have hc' := hc.splice hx (off := off) (by omega)
        rw [← hfold] at hc'
        obtain ⟨us, hu1, hu2⟩ := fillA_spec place parts pcs _ _ rs hc' (by simpa using hl) (fun j i v i' xs ha hb => hp (j + 1) i v i' xs (by simpa using ha) (by simpa using hb)) h
        refine ⟨us, ?_, hu2⟩
        unfold Instr.fill
        simp only [hpl]
        rw [if_neg (by simp [hvl]; omega)]
        exact hu1
      · simp at h
  | [], _ :: _, _, _, _, _, hl, _, _ => by simp at hl
  | _ :: _, [], _, _, _, _, hl, _, _ => by simp at hl

/-- The parts of a composite literal. -/
def partsA (T : Nat → AV) : List (Nat × Operand) → Option (List (Nat × List AV))
  | [] => some []
  | (i, x) :: rest =>
    match (valA T x).cells, partsA T rest with
    | some cs, some l => some ((i, cs.map AV.norm1) :: l)
    | _, _ => none

theorem cells_isLoc {x : AV} {cs : List AV} (h : x.cells = some cs) : x.isLoc = false := by cases x <;> first | rfl | simp [AV.cells] at h

theorem partsA_spec {T : Nat → AV} {B : Nat → Option (List AV)} (hs : Sees T B st) (h : Rel P A g st a w) : ∀ (parts : List (Nat × Operand)) (l : List (Nat × List AV)), partsA T parts = some l →
    parts.length = l.length ∧ ∀ (j : Nat) (i : Nat) (v : Value) (i' : Nat) (xs : List AV), (parts.map fun (i, x) => (i, a.eval x))[j]? = some (i, v) → l[j]? = some (i', xs) → i = i' ∧ CellsR g.μ v.cells.toList xs
  | [], l, hp => by simp [partsA] at hp; subst hp; simp
  | (i, x) :: parts, l, hp => by
    unfold partsA at hp
    split at hp
    · rename_i cs l' hc hl
      simp at hp; subst hp
      obtain ⟨h1, h2⟩ := partsA_spec hs h parts l' hl
      refine ⟨by simp [h1], fun j i1 v i2 xs ha hb => ?_⟩
      cases j with
      | zero =>
        simp at ha hb
        obtain ⟨rfl, rfl⟩ := ha
        obtain ⟨rfl, rfl⟩ := hb
        exact ⟨rfl, (((hs.pr h x).1 (cells_isLoc hc)).cellsR hc).norm1⟩
      | succ j => simp at ha hb; exact h2 j i1 v i2 xs (by simpa using ha) hb
    · simp at hp

def placesA (P : Program) (fields : List Field) : Option (List (Nat × Nat)) := fields.mapM (fun f => (P.info? f.type).map fun i => (f.offset, i.size))

def buildA (P : Program) (t : TypeId) (pcs : List (Nat × List AV)) : Option AV :=
  match zeroA P t, P.underlying t with
  | some z, some (.struct fields) =>
    match placesA P fields.toList with
    | some places => (fillA (places.toArray[·]?) z pcs).map .agg
    | none => none
  | some z, some (.array _ e) =>
    match P.info? e with
    | some ie => (fillA (fun i => some (i * ie.size, ie.size)) z pcs).map .agg
    | none => none
  | _, _ => none

theorem buildA_spec {μ : Mem} {t : TypeId} {parts : Array (Nat × Value)} {pcs : List (Nat × List AV)} {x : AV} (hb : buildA P t pcs = some x) (hl : parts.size = pcs.length)
    (hp : ∀ (j : Nat) (i : Nat) (v : Value) (i' : Nat) (xs : List AV), parts.toList[j]? = some (i, v) → pcs[j]? = some (i', xs) → i = i' ∧ CellsR μ v.cells.toList xs) (w : World) :
    ∃ v, (Instr.build t parts).run P w = .ok v w ∧ DR μ v x ∧ x.isLoc = false := by
  unfold buildA at hb
  split at hb
  · rename_i z fields hz hu
    split at hb
    · rename_i places hpl
      obtain ⟨it, zv, hit, hzv, hzc, _⟩ := zeroA_spec (μ := μ) hz
      cases hf : fillA (places.toArray[·]?) z pcs with
      | none => rw [hf] at hb; simp at hb
      | some rs =>
        rw [hf] at hb; simp at hb; subst hb
        obtain ⟨us, hu1, hu2⟩ := fillA_spec (places.toArray[·]?) parts.toList pcs zv.cells z rs hzc (by simpa using hl) hp hf
        refine ⟨.agg us, run_build w t parts us ?_, .agg hu2, rfl⟩
        unfold placesA at hpl
        unfold Program.built
        simp only [hit, hu, hzv, hpl]
        exact hu1
    · simp at hb
  · rename_i z n e hz hu
    split at hb
    · rename_i ie hie
      obtain ⟨it, zv, hit, hzv, hzc, _⟩ := zeroA_spec (μ := μ) hz
      cases hf : fillA (fun i => some (i * ie.size, ie.size)) z pcs with
      | none => rw [hf] at hb; simp at hb
      | some rs =>
        rw [hf] at hb; simp at hb; subst hb
        obtain ⟨us, hu1, hu2⟩ := fillA_spec (fun i => some (i * ie.size, ie.size)) parts.toList pcs zv.cells z rs hzc (by simpa using hl) hp hf
        refine ⟨.agg us, run_build w t parts us ?_, .agg hu2, rfl⟩
        unfold Program.built
        simp only [hit, hu, hzv, hie]
        exact hu1
    · simp at hb
  · simp at hb

end Go.Abs
