import Derived.Test.YtalbakjfbgkjjaaAbs9
set_option linter.unusedSimpArgs false
namespace Go.Abs
open Go.RowKit

variable {P : Program} {A : Ann} {g : Gh} {st : AS} {a : Act} {w : World} {T : Nat → AV} {B : Nat → Option (List AV)}

def buildSliceA (P : Program) (d : Nat) (t : TypeId) (len : Nat) (pcs : List (Nat × List AV)) : Option Ups :=
  match appT P t with
  | some (e, size) =>
    if 0 < size ∧ pcs.map (·.1) = List.range len ∧ (∀ p ∈ pcs, p.2.length = size) ∧ len * size ≤ 16777216 then some ⟨[(d, .slice (.own e) (pcs.map (·.2)))], []⟩ else none
  | none => none

theorem CellsR.flat {μ : Mem} : ∀ (vs : List Value) (rows : List (List AV)), vs.length = rows.length → (∀ (j : Nat) (v : Value) (r : List AV), vs[j]? = some v → rows[j]? = some r → CellsR μ v.cells.toList r) → CellsR μ (vs.flatMap fun (v : Value) => v.cells.toList) rows.flatten
  | [], [], _, _ => .nil
  | v :: vs, r :: rows, hl, h => by
    rw [List.flatMap_cons, List.flatten_cons]
    exact (h 0 v r rfl rfl).append (CellsR.flat vs rows (by simpa using hl) fun j v r hv hr => h (j + 1) v r (by simpa using hv) (by simpa using hr))
  | [], _ :: _, hl, _ => by simp at hl
  | _ :: _, [], hl, _ => by simp at hl

theorem buildSliceA_sound (h : Rel P A g st a w) (hs : Sees T B st) {d : Nat} {t : TypeId} {len : Nat} {parts : Array (Nat × Operand)} {pcs : List (Nat × List AV)} (hpc : partsA T parts.toList = some pcs) {u : Ups}
    (hp : buildSliceA P d t len pcs = some u) (hlt : ∀ p ∈ u.ts, p.1 < A.n) :
    ∃ r w' g', (Instr.buildSlice t len (parts.map fun (i, x) => (i, a.eval x))).run P w = .ok r w' ∧ Rel P A g' (st.apply u) (a.put (some d) r) w' ∧ Fr w g w' g' := by
  unfold buildSliceA at hp
  split at hp
  · rename_i e size happ
    obtain ⟨i, z, hu, hi, hz, hzs, hby, rfl⟩ := appT_spec happ
    split at hp
    · rename_i hc
      obtain ⟨c0, c1, c2, c3⟩ := hc
      simp at hp; subst hp
      obtain ⟨hl, hpt⟩ := partsA_spec hs h parts.toList pcs hpc
      have hlen : pcs.length = len := by have := congrArg List.length c1; simpa using this
      have hpl : parts.toList.length = len := by rw [hl, hlen]
      have hcells : P.cellsOf e = i.size := cellsOf_info hi
      let vs : List Value := parts.toList.map fun p => a.eval p.2
      have hvl : vs.length = len := by simp [vs]; simpa using hpl
      have hidx : ∀ j (hj : j < len), (parts.toList[j]'(by rw [hpl]; exact hj)).1 = j := by
        intro j hj
        obtain ⟨h1, _⟩ := hpt j (parts.toList[j]'(by rw [hpl]; exact hj)).1 (a.eval (parts.toList[j]'(by rw [hpl]; exact hj)).2) (pcs[j]'(by rw [hlen]; exact hj)).1 (pcs[j]'(by rw [hlen]; exact hj)).2
          (by rw [List.getElem?_map, List.getElem?_eq_getElem (by rw [hpl]; exact hj)]; rfl) (by rw [List.getElem?_eq_getElem (by rw [hlen]; exact hj)])
        rw [h1]
        have h2 : (pcs.map (·.1))[j]? = (List.range len)[j]? := by rw [c1]
        rw [List.getElem?_map, List.getElem?_eq_getElem (by rw [hlen]; exact hj), List.getElem?_eq_getElem (by simpa using hj)] at h2
        simpa using h2
      have hparts : (parts.map fun (i, x) => (i, a.eval x)).toList = (vs.zipIdx 0).map fun x => (x.2, x.1) := by
        apply List.ext_getElem
        · simp [vs]
        · intro j h1 h2
          have hj : j < len := by simp at h1; simp at hpl; omega
          have := hidx j hj
          simp [vs] at this ⊢
          exact this
      have hrel : ∀ (j : Nat) (v : Value) (r : List AV), vs[j]? = some v → (pcs.map (·.2))[j]? = some r → CellsR g.μ v.cells.toList r := by
        intro j v r hv hr
        rw [List.getElem?_map] at hr
        cases hq : pcs[j]? with
        | none => simp [hq] at hr
        | some q =>
          simp [hq] at hr
          have hj : j < len := by rw [← hlen]; exact (List.getElem?_eq_some_iff.1 hq).1
          have hv' : (parts.toList.map fun (i, x) => (i, a.eval x))[j]? = some ((parts.toList[j]'(by rw [hpl]; exact hj)).1, v) := by
            rw [List.getElem?_map, List.getElem?_eq_getElem (by rw [hpl]; exact hj)]
            simp only [vs, List.getElem?_map, List.getElem?_eq_getElem (show j < parts.toList.length by rw [hpl]; exact hj), Option.map_some, Option.some.injEq] at hv
            simp only [Option.map_some, Option.some.injEq]
            exact Prod.ext rfl hv
          have := (hpt j _ v q.1 q.2 hv' hq).2
          rw [hr] at this
          exact this
      have hsz : ∀ v ∈ vs, v.cells.size = i.size := by
        intro v hv
        obtain ⟨j, hj⟩ := List.mem_iff_getElem?.1 hv
        have hjl : j < pcs.length := by rw [hlen, ← hvl]; exact (List.getElem?_eq_some_iff.1 hj).1
        have hc := hrel j v (pcs[j]).2 hj (by rw [List.getElem?_map, List.getElem?_eq_getElem hjl]; rfl)
        have := hc.length
        rw [c2 _ (List.getElem_mem hjl)] at this
        simpa using this
      have hflat : CellsR g.μ (vs.flatMap fun (v : Value) => v.cells.toList) (pcs.map (·.2)).flatten := CellsR.flat vs _ (by simp [hvl, hlen]) hrel
      have hrun : (Instr.buildSlice t len (parts.map fun (i, x) => (i, a.eval x))).run P w = .ok (.slice (some ⟨w.heap.size, 0, none⟩) len len) (w.alloc (.cells (vs.flatMap fun (v : Value) => v.cells.toList).toArray e)) := by
        by_cases h0 : len = 0
        · subst h0
          have hv0 : vs = [] := List.eq_nil_of_length_eq_zero hvl
          have hp0 : (parts.map fun (i, x) => (i, a.eval x)).toList = [] := by rw [hparts, hv0]; rfl
          have hpe : (parts.map fun (i, x) => (i, a.eval x)) = #[] := by
            apply Array.ext'; simpa using hp0
          rw [hpe, hv0]
          simp [Instr.buildSlice, run_underlying hu, sizeOf, typeInfo, hi, Instr.fill, newRow]
          congr 2
          apply Array.ext'
          simp
        · have hpos : ¬ len * i.size = 0 := by
            intro he
            rcases Nat.mul_eq_zero.1 he with he | he <;> omega
          refine run_buildSlice w t e len _ _ i z hu hi hz (by omega) hpos ?_
          rw [hparts]
          exact Great.fill_whole c0 vs _ hsz (by simp [hvl])
      obtain ⟨g', q1, q2⟩ := h.newRow (d := d) (e := e) (rows := pcs.map (·.2)) (hlt (d, .slice (.own e) (pcs.map (·.2))) (by simp)) (by
          simp only [maxLen, List.length_map, hlen]
          have : len * 1 ≤ len * i.size := Nat.mul_le_mul_left _ c0
          omega) (fun r hr => by
          obtain ⟨q, hq, rfl⟩ := List.mem_map.1 hr
          rw [hcells]; exact c2 q hq) hflat
      refine ⟨_, _, g', hrun, ?_, q2⟩
      rw [apply_one]
      simp only [List.length_map, hlen] at q1
      exact q1
    · simp at hp
  · simp at hp

/-- The operations that call no function of Go's. -/
def acore (P : Program) (A : Ann) (o : Oper) (T : Nat → AV) (B : Nat → Option (List AV)) : Option Ups :=
  match o.op with
  | .move x | .assign x => moveA A o.dst x (valA T x)
  | .pick c x y =>
    match valA T c with
    | .bool b => putA A o.dst (if b then valA T x else valA T y)
    | _ => none
  | .alloc e =>
    match o.dst, zeroA P e with
    | some d, some cs => newA A d cs
    | _, _ => none
  | .box _ x =>
    match o.dst, (valA T x).cells with
    | some d, some cs => newA A d (cs.map AV.share)
    | _, _ => none
  | .build t parts =>
    match partsA T parts.toList with
    | some pcs => (buildA P t pcs).bind (putA A o.dst)
    | none => none
  | .buildSlice t len parts =>
    match o.dst, partsA T parts.toList with
    | some d, some pcs => buildSliceA P d t len pcs
    | _, _ => none
  | .load t x => loadA P A o.dst t (valA T x) B
  | .store t x y => if o.dst = none then storeA P A t (valA T x) y (valA T y) B else none
  | .nilCheck x =>
    match valA T x with
    | .loc k off => putA A o.dst (.loc k off)
    | .imm cs => putA A o.dst (.imm cs)
    | .fn (.func f) => putA A o.dst (.fn (.func f))
    | _ => none
  | .binOp op t x y _ => (binA P op t (valA T x) (valA T y)).bind (putA A o.dst)
  | .unOp op _ x => (unA op (valA T x)).bind (putA A o.dst)
  | .convert src dst x => (convA P src dst (valA T x)).bind (putA A o.dst)
  | .makeFunc fn first captured => if first = #[] ∧ captured = #[] then putA A o.dst (.fn fn) else none
  | .slice t x lo hi mx =>
    match mx with
    | none =>
      match boundA T lo, boundA T hi with
      | some l, some h => (sliceA P t (valA T x) l h).bind (putA A o.dst)
      | _, _ => none
    | some mx =>
      match lo with
      | none =>
        match boundA T hi, boundA T (some mx) with
        | some (some h), some (some m) => slice3A P o.dst t (valA T x) h m
        | _, _ => none
      | some _ => none
  | .fieldAddr s x f => fieldAddrA P A o.dst s (valA T x) f
  | .field t x f => (fieldA P t (valA T x) f).bind (putA A o.dst)
  | .indexAddr t x ix => indexAddrA P A o.dst t (valA T x) (valA T ix)
  | .index t x ix => (indexA P t (valA T x) (valA T ix)).bind (putA A o.dst)
  | .extract x i =>
    match valA T x with
    | .tuple vs => (vs[i]?).bind (putA A o.dst)
    | _ => none
  | .call c =>
    match c.callee with
    | .builtin .len =>
      match c.args.toList, c.argTypes.toList with
      | [x], [t] => (lenA P t (valA T x)).bind (putA A o.dst)
      | _, _ => none
    | .builtin .append =>
      match o.dst, c.args.toList, c.argTypes.toList with
      | some d, [s, x], [t, t'] => if t = t' then appendA P A d t s (valA T s) (valA T x) B else none
      | _, _, _ => none
    | .builtin .min =>
      match c.args.toList with
      | [x, y] => (minA (valA T x) (valA T y)).bind (putA A o.dst)
      | _ => none
    | _ => none
  | _ => none

theorem share_pr {v : Value} {x : AV} (h : DR g.μ v x) : PR P g v x := PR.dr h

theorem arr1 {α : Type} {xs : Array α} {x : α} (h : xs.toList = [x]) : xs = #[x] := by apply Array.ext'; simpa using h
theorem arr2 {α : Type} {xs : Array α} {x y : α} (h : xs.toList = [x, y]) : xs = #[x, y] := by apply Array.ext'; simpa using h

theorem bind_put {d : Option Nat} {f : Option AV} {u : Ups} (h : f.bind (putA A d) = some u) : ∃ x, f = some x ∧ putA A d x = some u := by
  cases f with
  | none => simp at h
  | some x => exact ⟨x, rfl, by simpa using h⟩

theorem acore_sound (h : Rel P A g st a w) (hs : Sees T B st) {o : Oper} {u : Ups} (hp : acore P A o T B = some u) (hlt : ∀ p ∈ u.ts, p.1 < A.n) :
    ∃ v w' g', OpRuns P o a w v w' ∧ Rel P A g' (st.apply u) (a.put o.dst v) w' ∧ Fr w g w' g' := by
  obtain ⟨dst, op, ty, pos, after, guard⟩ := o
  cases op with
  | move x =>
    simp only [acore] at hp
    obtain ⟨g', q1, q2⟩ := moveA_sound h hs hp hlt
    exact ⟨_, w, g', .inl rfl, q1, q2⟩
  | assign x =>
    simp only [acore] at hp
    obtain ⟨g', q1, q2⟩ := moveA_sound h hs hp hlt
    exact ⟨_, w, g', .inl rfl, q1, q2⟩
  | pick c x y =>
    simp only [acore] at hp
    split at hp
    · rename_i b hb
      have hd := (hs.pr h c).1 (by rw [hb]; rfl)
      rw [hb] at hd
      have hc : a.eval c = .bool b := by generalize a.eval c = cv at hd; cases hd; rfl
      refine ⟨if b then a.eval x else a.eval y, w, g, .inl ?_, putA_sound h hp hlt ?_, Fr.refl _ _⟩
      · simp only [execOp, hc, asBool, Sem.run_bind, Sem.run_pure, Result.andThen_ok]
      · cases b
        · exact hs.pr h y
        · exact hs.pr h x
    · simp at hp
  | alloc e =>
    simp only [acore] at hp
    split at hp
    · rename_i d cs hz
      obtain ⟨i, z, hi, hz', hc, _⟩ := zeroA_spec (μ := g.μ) hz
      have hzr : (zeroValue e).run P w = .ok z w := by simp [zeroValue, typeInfo, hi, hz']
      have hno : noOwn cs := by
        unfold zeroA at hz
        split at hz
        · split at hz
          · simp at hz; subst hz
            intro x hx e' rows he
            obtain ⟨v, _, rfl⟩ := List.mem_map.1 hx
            unfold constAV at he
            split at he <;> simp at he
          · simp at hz
        · simp at hz
      obtain ⟨g', q1, q2⟩ := newA_sound h hp hlt e z.cells hc hno
      exact ⟨_, _, g', .inl (by simp [execOp, Instr.alloc, hzr, newVar, newRow]), q1, q2⟩
    · simp at hp
  | box e x =>
    simp only [acore] at hp
    split at hp
    · rename_i d cs hc
      have hd := (hs.pr h x).1 (cells_isLoc hc)
      obtain ⟨g', q1, q2⟩ := newA_sound h hp hlt e (a.eval x).cells (hd.cellsR hc).share (noOwn_share cs)
      exact ⟨_, _, g', .inl (by simp [execOp, Instr.box, newVar, newRow]), q1, q2⟩
    · simp at hp
  | build t parts =>
    simp only [acore] at hp
    split at hp
    · rename_i pcs hpc
      obtain ⟨x, hx, hput⟩ := bind_put hp
      obtain ⟨hl, hpt⟩ := partsA_spec hs h parts.toList pcs hpc
      obtain ⟨v, hv1, hv2, hv3⟩ := buildA_spec (μ := g.μ) (parts := parts.map fun (i, x) => (i, a.eval x)) hx (by simpa using hl) (fun j i v i' xs h1 h2 => hpt j i v i' xs (by simpa using h1) h2) w
      exact ⟨v, w, g, .inl (by simp only [execOp, Sem.run_bind, hv1, Result.andThen_ok, Sem.run_pure]), putA_sound h hput hlt (PR.of hv2 hv3), Fr.refl _ _⟩
    · simp at hp
  | buildSlice t len parts =>
    simp only [acore] at hp
    split at hp
    · rename_i d pcs hpc
      obtain ⟨r, w', g', q1, q2, q3⟩ := buildSliceA_sound h hs hpc hp hlt
      exact ⟨r, w', g', .inl (by simp only [execOp, Sem.run_bind, q1, Result.andThen_ok, Sem.run_pure]), q2, q3⟩
    · simp at hp
  | load t x =>
    simp only [acore] at hp
    obtain ⟨r, g', q1, q2, q3⟩ := loadA_sound h hs (hs.pr h x) hp hlt
    exact ⟨r, w, g', .inl (by simp only [execOp, Sem.run_bind, q1, Result.andThen_ok, Sem.run_pure]), q2, q3⟩
  | store t x y =>
    simp only [acore] at hp
    split at hp
    · rename_i hd
      subst hd
      obtain ⟨w', g', q1, q2, q3⟩ := storeA_sound h hs (hs.pr h x) hp hlt
      exact ⟨undef, w', g', .inr ⟨by simp only [execOp, Sem.run_bind, q1, Result.andThen_ok, Sem.run_pure], rfl⟩, q2, q3⟩
    · simp at hp
  | nilCheck x =>
    simp only [acore] at hp
    split at hp
    · rename_i k off hx
      have hv := (hs.pr h x).2.1 k off hx
      exact ⟨a.eval x, w, g, .inl (by simp only [execOp, hv, Sem.run_pure]), putA_sound h hp hlt (by rw [← hx]; exact hs.pr h x), Fr.refl _ _⟩
    · rename_i cs hx
      have hd := (hs.pr h x).1 (by rw [hx]; rfl)
      rw [hx] at hd
      refine ⟨a.eval x, w, g, .inl ?_, putA_sound h hp hlt (PR.dr hd), Fr.refl _ _⟩
      generalize hv : a.eval x = v at hd
      cases hd
      simp only [execOp, hv, Sem.run_pure]
    · rename_i f hx
      have hd := (hs.pr h x).1 (by rw [hx]; rfl)
      rw [hx] at hd
      refine ⟨a.eval x, w, g, .inl ?_, putA_sound h hp hlt (PR.dr hd), Fr.refl _ _⟩
      generalize hv : a.eval x = v at hd
      cases hd
      simp only [execOp, hv, Sem.run_pure]
    · simp at hp
  | binOp op t x y yt =>
    simp only [acore] at hp
    obtain ⟨z, hz, hput⟩ := bind_put hp
    have hxl : (valA T x).isLoc = false := by
      cases hv : valA T x <;> first | rfl | (simp [binA, hv] at hz; split at hz <;> first | (simp at hz; done) | (obtain ⟨_, q, hq, _⟩ := hz; simp [eqT] at hq; done) | skip)
      all_goals (simp [eqT] at hz)
    have hyl : (valA T y).isLoc = false := by
      cases hv : valA T y <;> first | rfl | skip
      all_goals simp only [binA, hv] at hz
      all_goals (split at hz <;> first | (rename_i hq; simp at hq; done) | skip)
      all_goals (split at hz <;> first | (simp at hz; done) | (split at hz <;> first | (simp at hz; done) | (simp only [Option.map_eq_some_iff] at hz; obtain ⟨b, hb, _⟩ := hz; unfold eqT at hb; split at hb <;> first | (rename_i hq; simp at hq; done) | (simp at hb; done) | skip)))
    obtain ⟨r, q1, q2, q3⟩ := binA_spec hz ((hs.pr h x).1 hxl) ((hs.pr h y).1 hyl) x y w
    exact ⟨r, w, g, .inl (by simp only [execOp, Sem.run_bind] at q1 ⊢; rw [q1]; rfl), putA_sound h hput hlt (PR.of q2 q3), Fr.refl _ _⟩
  | unOp op t x =>
    simp only [acore] at hp
    obtain ⟨z, hz, hput⟩ := bind_put hp
    have hxl : (valA T x).isLoc = false := by
      cases hv : valA T x <;> first | rfl | (simp [unA, hv] at hz)
    obtain ⟨r, q1, q2⟩ := unA_sound (P := P) ((hs.pr h x).1 hxl) hz w
    exact ⟨r, w, g, .inl (by simp only [execOp, Sem.run_bind, q1, Result.andThen_ok, Sem.run_pure]), putA_sound h hput hlt (PR.dr q2), Fr.refl _ _⟩
  | convert src dst' x =>
    simp only [acore] at hp
    obtain ⟨z, hz, hput⟩ := bind_put hp
    have hxl : (valA T x).isLoc = false := by
      cases hv : valA T x <;> first | rfl | (simp only [convA, hv] at hz; split at hz <;> first | (rename_i hq; simp at hq; done) | (simp at hz; done))
    obtain ⟨r, q1, q2⟩ := convA_sound (P := P) ((hs.pr h x).1 hxl) hz w
    exact ⟨r, w, g, .inl (by simp only [execOp, Sem.run_bind, q1, Result.andThen_ok, Sem.run_pure]), putA_sound h hput hlt (PR.dr q2), Fr.refl _ _⟩
  | makeFunc fn first captured =>
    simp only [acore] at hp
    split at hp
    · rename_i hc
      obtain ⟨rfl, rfl⟩ := hc
      exact ⟨.func fn #[] #[], w, g, .inl (by simp [execOp, Instr.makeFunc]), putA_sound h hp hlt (PR.dr (.fn fn)), Fr.refl _ _⟩
    · simp at hp
  | slice t x lo hi mx =>
    simp only [acore] at hp
    split at hp
    · split at hp
      · rename_i l u' hl hu
        obtain ⟨z, hz, hput⟩ := bind_put hp
        obtain ⟨r, q1, q2⟩ := sliceA_sound h hs (hs.pr h x) hl hu hz
        exact ⟨r, w, g, .inl (by simp only [execOp, Sem.run_bind, Option.map_none, q1, Result.andThen_ok, Sem.run_pure]), putA_sound h hput hlt (PR.dr q2), Fr.refl _ _⟩
      · simp at hp
    · split at hp
      · split at hp
        · rename_i hn mn hh hm
          have hhi : ∃ y, hi = some y := by
            rcases boundA_spec h hs hh with ⟨_, q⟩ | ⟨y, _, _, _, q, _⟩
            · simp at q
            · exact ⟨y, q⟩
          obtain ⟨y, rfl⟩ := hhi
          obtain ⟨r, q1, q2⟩ := slice3A_sound h hs hh hm hp hlt
          exact ⟨r, w, g, .inl (by simp only [execOp, Sem.run_bind, Option.map_none, Option.map_some, q1, Result.andThen_ok, Sem.run_pure]), q2, Fr.refl _ _⟩
        · simp at hp
      · simp at hp
  | fieldAddr s x f =>
    simp only [acore] at hp
    obtain ⟨r, q1, q2⟩ := fieldAddrA_sound h (hs.pr h x) hp hlt
    exact ⟨r, w, g, .inl (by simp only [execOp, Sem.run_bind, q1, Result.andThen_ok, Sem.run_pure]), q2, Fr.refl _ _⟩
  | field t x f =>
    simp only [acore] at hp
    obtain ⟨z, hz, hput⟩ := bind_put hp
    have hxl : (valA T x).isLoc = false := by
      cases hv : valA T x <;> first | rfl | (simp only [fieldA, hv] at hz; split at hz <;> first | (rename_i hq; simp at hq; done) | (simp at hz; done))
    obtain ⟨r, q1, q2⟩ := fieldA_sound (P := P) ((hs.pr h x).1 hxl) hz w
    exact ⟨r, w, g, .inl (by simp only [execOp, Sem.run_bind, q1, Result.andThen_ok, Sem.run_pure]), putA_sound h hput hlt (PR.dr q2), Fr.refl _ _⟩
  | indexAddr t x ix =>
    simp only [acore] at hp
    obtain ⟨r, q1, q2⟩ := indexAddrA_sound h (hs.pr h x) (hs.pr h ix) hp hlt
    exact ⟨r, w, g, .inl (by simp only [execOp, Sem.run_bind, q1, Result.andThen_ok, Sem.run_pure]), q2, Fr.refl _ _⟩
  | index t x ix =>
    simp only [acore] at hp
    obtain ⟨z, hz, hput⟩ := bind_put hp
    have hil : (valA T ix).isLoc = false := by
      cases hv : valA T ix <;> first | rfl | (simp [indexA, hv] at hz)
    have hxl : (valA T x).isLoc = false := by
      cases hv : valA T x <;> first | rfl | (simp only [indexA, hv] at hz; split at hz <;> first | (split at hz <;> first | (split at hz <;> first | (rename_i hq; simp at hq; done) | (simp at hz; done)) | (simp at hz; done)) | (simp at hz; done))
    obtain ⟨r, q1, q2⟩ := indexA_sound (P := P) ((hs.pr h x).1 hxl) ((hs.pr h ix).1 hil) hz w
    exact ⟨r, w, g, .inl (by simp only [execOp, Sem.run_bind, q1, Result.andThen_ok, Sem.run_pure]), putA_sound h hput hlt (PR.dr q2), Fr.refl _ _⟩
  | extract x i =>
    simp only [acore] at hp
    split at hp
    · rename_i vs hx
      obtain ⟨z, hz, hput⟩ := bind_put hp
      have hd := (hs.pr h x).1 (by rw [hx]; rfl)
      rw [hx] at hd
      generalize hv : a.eval x = v at hd
      cases hd with
      | tuple ht =>
        obtain ⟨r, q1, q2⟩ := ht.get hz
        exact ⟨r, w, g, .inl (by simp only [execOp, hv, Instr.extract, Sem.run_bind]; simp at q1; simp [q1]), putA_sound h hput hlt (PR.dr q2), Fr.refl _ _⟩
    · simp at hp
  | call c =>
    simp only [acore] at hp
    obtain ⟨callee, args, argTypes⟩ := c
    cases callee with
    | invoke r m => simp at hp
    | value f => simp at hp
    | builtin b =>
    cases b with
    | len =>
      simp only at hp
      split at hp
      · rename_i x t hargs hty
        obtain rfl := arr1 hargs
        obtain rfl := arr1 hty
        obtain ⟨z, hz, hput⟩ := bind_put hp
        obtain ⟨r, q1, q2⟩ := lenA_sound (P := P) (hs.pr h x) hz ty w
        exact ⟨r, w, g, .inl (by simp [execOp, resolve, invoke, builtin, q1]), putA_sound h hput hlt (PR.dr q2), Fr.refl _ _⟩
      · simp at hp
    | append =>
      simp only at hp
      split at hp
      · rename_i d s x t t' hargs hty
        obtain rfl := arr2 hargs
        obtain rfl := arr2 hty
        split at hp
        · rename_i ht
          subst ht
          obtain ⟨r, w', g', q1, q2, q3⟩ := appendA_sound h hs (ty := ty) hp hlt
          exact ⟨r, w', g', .inl (by simp [execOp, resolve, invoke, builtin, q1]), q2, q3⟩
        · simp at hp
      · simp at hp
    | min =>
      simp only at hp
      split at hp
      · rename_i x y hargs
        obtain rfl := arr2 hargs
        obtain ⟨z, hz, hput⟩ := bind_put hp
        have hxl : (valA T x).isLoc = false := by
          cases hv : valA T x <;> first | rfl | (simp [minA, hv] at hz)
        have hyl : (valA T y).isLoc = false := by
          cases hv : valA T y <;> first | rfl | (simp only [minA, hv] at hz; split at hz <;> first | (rename_i hq; simp at hq; done) | (simp at hz; done))
        obtain ⟨r, q1, q2⟩ := minA_sound (P := P) ((hs.pr h x).1 hxl) ((hs.pr h y).1 hyl) hz argTypes ty w
        exact ⟨r, w, g, .inl (by simp [execOp, resolve, invoke, builtin, q1]), putA_sound h hput hlt (PR.dr q2), Fr.refl _ _⟩
      · simp at hp
    | _ => simp at hp
  | _ => simp [acore] at hp

end Go.Abs
