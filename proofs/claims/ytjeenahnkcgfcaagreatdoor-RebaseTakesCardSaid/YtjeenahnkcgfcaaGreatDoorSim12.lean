/- All operations; what an operation looks at. -/
import Derived.Test.YtjeenahnkcgfcaaGreatDoorSim11
set_option linter.unusedVariables false
set_option linter.unusedSimpArgs false
namespace Go.Sim
open Go.RowKit

variable {E : Env} {g : Gh} {f : Hf} {w : World}

theorem opA_spec (hE : EnvOK E g) (h : HR g f w) {nt : Nat} {tm : Tf} {a : Act} (hfr : FR g nt tm a.tmps) {new : Nat} (hn : g.ρ new = none) {o : Oper} {v : SV} {us : List Up} (ho0 : opA E o.op tm f new = some (v, us)) :
    ∃ r w' g', OpRuns E.P o a w r w' ∧ Post g f w v us new r g' w' := by
  obtain ⟨dst, op, ty, pos, after, guard⟩ := o
  have val := fun {x : Operand} {y : SV} (hx : valA tm x = some y) => valA_spec (g := g) hfr hx
  cases op with
  | move x =>
    obtain ⟨y, hy, ho⟩ := bind1_some (show bind1 (valA tm x) (fun v => some (v, ([] : List Up))) = some (v, us) from ho0)
    cases ho
    exact ⟨_, w, g, .inl rfl, Post.same h (val hy)⟩
  | assign x =>
    obtain ⟨y, hy, ho⟩ := bind1_some (show bind1 (valA tm x) (fun v => some (v, ([] : List Up))) = some (v, us) from ho0)
    cases ho
    exact ⟨_, w, g, .inl rfl, Post.same h (val hy)⟩
  | pick c x y =>
    obtain ⟨cv, hc, ho⟩ := bind1_some (show bind1 (valA tm c) (fun v => bind1 (boolOf v) fun b => one tm (sel b x y) fun v => some (v, ([] : List Up))) = some (v, us) from ho0)
    obtain ⟨b, hb, ho⟩ := bind1_some ho
    obtain ⟨z, hz, ho⟩ := bind1_some ho
    cases ho
    obtain rfl := boolOf_some hb
    have hcv : a.eval c = .bool b := by have := val hc; generalize a.eval c = q at this; cases this; rfl
    refine ⟨if b then a.eval x else a.eval y, w, g, .inl ?_, Post.same h ?_⟩
    · simp only [execOp, hcv, asBool, Sem.run_bind, Sem.run_pure, Result.andThen_ok]
    · cases b
      · exact val hz
      · exact val hz
  | alloc e =>
    obtain ⟨i, hi, ho⟩ := bind1_some (show bind1 (E.ty.get e) (fun i => some (SV.ptr new 0, [(new, some (SO.cells e i.zero))])) = some (v, us) from ho0)
    cases ho
    obtain ⟨z, z1, z2⟩ := zero_cells (hE.ty e i hi)
    refine ⟨.pointer (some ⟨w.heap.size, 0, none⟩), _, _, .inl ?_, h.row hn (w0 := w) (w' := w.alloc (.cells z.cells e)) (l := 0) ⟨rfl, rfl, rfl, rfl⟩ rfl (z2 g) (fun j v hv => by simpa using hv) (Nat.zero_le _) (.ptr (o := 0) (off := 0) (Gh.bind_self _ _ _ _ _))⟩
    simp [execOp, Instr.alloc, z1, newVar, newRow]
  | box e x =>
    obtain ⟨y, hy, ho⟩ := bind1_some (show bind1 (valA tm x) (opBox new e) = some (v, us) from ho0)
    obtain ⟨cs, hc, ho⟩ := bind1_some ho
    cases ho
    refine ⟨.pointer (some ⟨w.heap.size, 0, none⟩), _, _, .inl ?_, h.row hn (w0 := w) (w' := w.alloc (.cells (a.eval x).cells e)) (l := 0) ⟨rfl, rfl, rfl, rfl⟩ rfl ((val hy).cellsR hc) (fun j v hv => by simpa using hv) (Nat.zero_le _) (.ptr (o := 0) (off := 0) (Gh.bind_self _ _ _ _ _))⟩
    simp [execOp, Instr.box, newVar, newRow]
  | build t parts =>
    obtain ⟨pcs, hpc, ho⟩ := bind1_some (show bind1 (partsA tm parts.toList) (fun pcs => same (buildA E t pcs)) = some (v, us) from ho0)
    obtain ⟨x, hx, ho⟩ := bind1_some ho
    cases ho
    obtain ⟨hl, hpt⟩ := partsA_spec hfr parts.toList pcs hpc
    obtain ⟨r, r1, r2⟩ := buildA_spec hE (parts := parts.map fun (i, x) => (i, a.eval x)) hx (by simpa using hl) (fun j i v i' xs h1 h2 => hpt j i v i' xs (by simpa using h1) h2) w
    exact ⟨r, w, g, .inl (by simp only [execOp, Sem.run_bind, r1, Result.andThen_ok, Sem.run_pure]), Post.same h r2⟩
  | buildSlice t len parts =>
    obtain ⟨pcs, hpc, ho⟩ := bind1_some (show bind1 (partsA tm parts.toList) (fun pcs => opBuildSlice E new t len pcs) = some (v, us) from ho0)
    obtain ⟨r, w', g', r1, r2⟩ := opBuildSlice_spec hE h hn hfr hpc ho
    exact ⟨r, w', g', .inl (by simp only [execOp, Sem.run_bind, r1, Result.andThen_ok, Sem.run_pure]), r2⟩
  | insert t m k x =>
    obtain ⟨y1, y2, h1, h2, ho⟩ := bind2_some (show bind2 (valA tm m) (valA tm k) (fun a b => one tm x fun c => unit (updA E f t a b c)) = some (v, us) from ho0)
    obtain ⟨y3, h3, ho⟩ := bind1_some ho
    obtain ⟨us', hu, ho⟩ := bind1_some ho
    cases ho
    obtain ⟨w', r1, r2, r3⟩ := updA_spec hE h (val h1) (val h2) (val h3) hu
    exact ⟨undef, w', g, .inr ⟨by simp only [execOp, Sem.run_bind, r1, Result.andThen_ok, Sem.run_pure], rfl⟩, ⟨.tup .nil, r2, r3, fun _ _ => rfl, fun _ => rfl⟩⟩
  | mapUpdate t m k x =>
    obtain ⟨y1, y2, h1, h2, ho⟩ := bind2_some (show bind2 (valA tm m) (valA tm k) (fun a b => one tm x fun c => unit (updA E f t a b c)) = some (v, us) from ho0)
    obtain ⟨y3, h3, ho⟩ := bind1_some ho
    obtain ⟨us', hu, ho⟩ := bind1_some ho
    cases ho
    obtain ⟨w', r1, r2, r3⟩ := updA_spec hE h (val h1) (val h2) (val h3) hu
    exact ⟨undef, w', g, .inr ⟨by simp only [execOp, Sem.run_bind, r1, Result.andThen_ok, Sem.run_pure], rfl⟩, ⟨.tup .nil, r2, r3, fun _ _ => rfl, fun _ => rfl⟩⟩
  | load t x =>
    obtain ⟨y, hy, ho⟩ := bind1_some (show bind1 (valA tm x) (fun v => same (loadA E f t v)) = some (v, us) from ho0)
    obtain ⟨z, hz, ho⟩ := bind1_some ho
    cases ho
    obtain ⟨r, r1, r2⟩ := loadA_spec hE h (val hy) hz
    exact ⟨r, w, g, .inl (by simp only [execOp, Sem.run_bind, r1, Result.andThen_ok, Sem.run_pure]), Post.same h r2⟩
  | store t x y =>
    obtain ⟨y1, y2, h1, h2, ho⟩ := bind2_some (show bind2 (valA tm x) (valA tm y) (fun a v => unit (storeA E f t v a)) = some (v, us) from ho0)
    obtain ⟨us', hu, ho⟩ := bind1_some ho
    cases ho
    obtain ⟨w', r1, r2, r3⟩ := storeA_spec hE h (val h1) (val h2) hu
    exact ⟨undef, w', g, .inr ⟨by simp only [execOp, Sem.run_bind, r1, Result.andThen_ok, Sem.run_pure], rfl⟩, ⟨.tup .nil, r2, r3, fun _ _ => rfl, fun _ => rfl⟩⟩
  | nilCheck x =>
    obtain ⟨y, hy, ho⟩ := bind1_some (show bind1 (valA tm x) (fun v => same (nilOk v)) = some (v, us) from ho0)
    obtain ⟨z, hz, ho⟩ := bind1_some ho
    cases ho
    obtain ⟨rfl, hk⟩ := nilOk_some hz
    have hv := val hy
    refine ⟨a.eval x, w, g, .inl ?_, Post.same h hv⟩
    rcases hk with ⟨i, o, rfl⟩ | ⟨fn, c1, c2, rfl⟩ | ⟨l, rfl⟩ <;> (generalize hq : a.eval x = q at hv; cases hv; simp only [execOp, hq, Sem.run_pure])
  | binOp op t x y yt =>
    obtain ⟨y1, y2, h1, h2, ho⟩ := bind2_some (show bind2 (valA tm x) (valA tm y) (fun v u => same (binA E op t x y v u)) = some (v, us) from ho0)
    obtain ⟨z, hz, ho⟩ := bind1_some ho
    cases ho
    obtain ⟨r, r1, r2⟩ := binA_spec hE hz (val h1) (val h2) w
    exact ⟨r, w, g, .inl (by simp only [execOp, Sem.run_bind] at r1 ⊢; rw [r1]; rfl), Post.same h r2⟩
  | unOp op t x =>
    obtain ⟨y, hy, ho⟩ := bind1_some (show bind1 (valA tm x) (fun v => same (unA op v)) = some (v, us) from ho0)
    obtain ⟨z, hz, ho⟩ := bind1_some ho
    cases ho
    obtain ⟨r, r1, r2⟩ := unA_spec hz (val hy) (P := E.P) w
    exact ⟨r, w, g, .inl (by simp only [execOp, Sem.run_bind, r1, Result.andThen_ok, Sem.run_pure]), Post.same h r2⟩
  | convert s d x =>
    obtain ⟨y, hy, ho⟩ := bind1_some (show bind1 (valA tm x) (fun v => same (convA E s d v)) = some (v, us) from ho0)
    obtain ⟨z, hz, ho⟩ := bind1_some ho
    cases ho
    obtain ⟨r, r1, r2⟩ := convA_spec hE hz (val hy) w
    exact ⟨r, w, g, .inl (by simp only [execOp, Sem.run_bind, r1, Result.andThen_ok, Sem.run_pure]), Post.same h r2⟩
  | makeInterface t x =>
    obtain ⟨y, hy, ho⟩ := bind1_some (show bind1 (valA tm x) (opIfc E t) = some (v, us) from ho0)
    obtain ⟨r, r1, r2⟩ := opIfc_spec (new := new) hE h (val hy) ho
    exact ⟨r, w, g, .inl (by simp only [execOp, Sem.run_bind, r1, Result.andThen_ok, Sem.run_pure]), r2⟩
  | makeFunc fn first caps =>
    obtain ⟨hok, ho⟩ := sel_some (show sel (okFn fn) (bind2 (vals tm first.toList) (vals tm caps.toList) fun l m => some (SV.fn fn l m, ([] : List Up))) none = some (v, us) from ho0)
    obtain ⟨l, m, h1, h2, ho⟩ := bind2_some ho
    cases ho
    cases fn with
    | func k =>
      refine ⟨.func (.func k) (first.map a.eval) (caps.map a.eval), w, g, .inl ?_, Post.same h (.fn ?_ ?_)⟩
      · simp [execOp, Instr.makeFunc]
      · simpa using vals_spec hfr h1
      · simpa using vals_spec hfr h2
    | _ => cases hok
  | makeMap t r =>
    have mk : ∀ (hv : v = .mp new) (hu : us = [(new, some (.map [] 0))]), ∃ g', Post g f w v us new (.map (some w.heap.size)) g' (w.alloc (.map #[] 0)) := by
      rintro rfl rfl
      obtain ⟨r1, r2⟩ := h.alloc hn (o' := .map [] 0) (w' := w.alloc (.map #[] 0)) (l := 0) (e := 0) rfl ⟨#[], heap_alloc_new w _, .nil⟩
      exact ⟨_, .mp (o := 0) (Gh.bind_self _ _ _ _ _), r1, r2, fun id hne => Gh.bind_ne _ _ _ _ hne, fun hnil => by cases hnil⟩
    cases r with
    | none =>
      cases (show some (SV.mp new, [(new, some (SO.map [] 0))]) = some (v, us) from ho0)
      obtain ⟨g', q⟩ := mk rfl rfl
      refine ⟨_, _, g', .inl ?_, q⟩
      simp [execOp, Instr.makeMap, newObj]
      rfl
    | some x =>
      obtain ⟨i, y, hi, hy, ho⟩ := bind2_some (show bind2 (E.ty.get t) (valA tm x) (fun i v => bind2 (mapE i.desc) (natOf v) fun _ _ => newMap new) = some (v, us) from ho0)
      obtain ⟨q, n, hq, hnat, ho⟩ := bind2_some ho
      cases ho
      obtain ⟨g', p⟩ := mk rfl rfl
      obtain ⟨k, rfl⟩ := natOf_some hnat
      have hx := nat_VR (val hy)
      have ht := (hE.ty t i hi).desc
      rw [mapE_some hq] at ht
      have ht : E.P.underlying t = some (.map q.1 q.2) := ht
      refine ⟨_, _, g', .inl ?_, p⟩
      simp [execOp, Instr.makeMap, newObj, run_underlying ht, hx, asInt]
      rfl
  | makeSlice t l c =>
    obtain ⟨y1, y2, h1, h2, ho⟩ := bind2_some (show bind2 (valA tm l) (valA tm c) (fun u v => bind2 (natOf u) (natOf v) (opMake E new t)) = some (v, us) from ho0)
    obtain ⟨n1, n2, k1, k2, ho⟩ := bind2_some ho
    obtain ⟨q1, rfl⟩ := natOf_some k1
    obtain ⟨q2, rfl⟩ := natOf_some k2
    have e1 := nat_VR (val h1)
    have e2 := nat_VR (val h2)
    obtain ⟨r, w', g', r1, r2⟩ := opMake_spec (kl := q1) (kc := q2) hE h hn ho
    exact ⟨r, w', g', .inl (by simp only [execOp, Sem.run_bind, e1, e2, r1, Result.andThen_ok, Sem.run_pure]), r2⟩
  | slice t x lo hi mx =>
    obtain ⟨y, hy, ho⟩ := bind1_some (show bind1 (valA tm x) (fun v => bind3 (optNat tm lo) (optNat tm hi) (optNat tm mx) fun l u m => same (sliceA E t v l u m)) = some (v, us) from ho0)
    obtain ⟨l, u, m, h1, h2, h3, ho⟩ := bind3_some ho
    obtain ⟨z, hz, ho⟩ := bind1_some ho
    cases ho
    obtain ⟨r, r1, r2⟩ := sliceA_spec (w := w) hE hfr (val hy) h1 h2 h3 hz
    exact ⟨r, w, g, .inl (by simp only [execOp, Sem.run_bind, r1, Result.andThen_ok, Sem.run_pure]), Post.same h r2⟩
  | fieldAddr s x k =>
    obtain ⟨y, hy, ho⟩ := bind1_some (show bind1 (valA tm x) (opFieldAddr E s k) = some (v, us) from ho0)
    obtain ⟨r, r1, r2⟩ := opFieldAddr_spec (new := new) hE h (val hy) ho
    exact ⟨r, w, g, .inl (by simp only [execOp, Sem.run_bind, r1, Result.andThen_ok, Sem.run_pure]), r2⟩
  | field t x k =>
    obtain ⟨y, hy, ho⟩ := bind1_some (show bind1 (valA tm x) (opField E t k) = some (v, us) from ho0)
    obtain ⟨r, r1, r2⟩ := opField_spec (new := new) hE h (val hy) ho
    exact ⟨r, w, g, .inl (by simp only [execOp, Sem.run_bind, r1, Result.andThen_ok, Sem.run_pure]), r2⟩
  | indexAddr t x ix =>
    obtain ⟨y1, y2, h1, h2, ho⟩ := bind2_some (show bind2 (valA tm x) (valA tm ix) (fun v u => bind1 (natOf u) fun k => same (indexAddrA E t v k)) = some (v, us) from ho0)
    obtain ⟨n, hnat, ho⟩ := bind1_some ho
    obtain ⟨z, hz, ho⟩ := bind1_some ho
    cases ho
    obtain ⟨q, rfl⟩ := natOf_some hnat
    have e2 := nat_VR (val h2)
    obtain ⟨r, r1, r2⟩ := indexAddrA_spec (w := w) (kk := q) hE (val h1) hz
    exact ⟨r, w, g, .inl (by simp only [execOp, Sem.run_bind, e2, r1, Result.andThen_ok, Sem.run_pure]), Post.same h r2⟩
  | index t x ix =>
    obtain ⟨y1, y2, h1, h2, ho⟩ := bind2_some (show bind2 (valA tm x) (valA tm ix) (fun v u => bind1 (natOf u) fun k => opIndex E t k v) = some (v, us) from ho0)
    obtain ⟨n, hnat, ho⟩ := bind1_some ho
    obtain ⟨q, rfl⟩ := natOf_some hnat
    have e2 := nat_VR (val h2)
    obtain ⟨r, r1, r2⟩ := opIndex_spec (new := new) (kk := q) hE h (val h1) ho
    exact ⟨r, w, g, .inl (by simp only [execOp, Sem.run_bind, e2, r1, Result.andThen_ok, Sem.run_pure]), r2⟩
  | lookup t x k ok =>
    obtain ⟨y1, y2, h1, h2, ho⟩ := bind2_some (show bind2 (valA tm x) (valA tm k) (fun a b => same (lookupA E f t a b ok)) = some (v, us) from ho0)
    obtain ⟨z, hz, ho⟩ := bind1_some ho
    cases ho
    obtain ⟨r, r1, r2⟩ := lookupA_spec hE h (val h1) (val h2) hz
    exact ⟨r, w, g, .inl (by simp only [execOp, Sem.run_bind, r1, Result.andThen_ok, Sem.run_pure]), Post.same h r2⟩
  | range t x =>
    obtain ⟨y, hy, ho⟩ := bind1_some (show bind1 (valA tm x) (opRange E f new t) = some (v, us) from ho0)
    obtain ⟨r, w', g', r1, r2⟩ := opRange_spec hE h hn (val hy) ho
    exact ⟨r, w', g', .inl (by simp only [execOp, Sem.run_bind, r1, Result.andThen_ok, Sem.run_pure]), r2⟩
  | next it isS =>
    obtain ⟨y, hy, ho⟩ := bind1_some (show bind1 (valA tm it) (opNext f isS) = some (v, us) from ho0)
    obtain ⟨r, w', r1, r2⟩ := opNext_spec (new := new) (ty := ty) hE h (val hy) ho
    exact ⟨r, w', g, .inl (by simp only [execOp, Sem.run_bind, r1, Result.andThen_ok, Sem.run_pure]), r2⟩
  | typeAssert x xt t ok =>
    obtain ⟨y, hy, ho⟩ := bind1_some (show bind1 (valA tm x) (opAssert E t ok) = some (v, us) from ho0)
    obtain ⟨r, r1, r2⟩ := opAssert_spec (new := new) (xt := xt) hE h (val hy) ho
    exact ⟨r, w, g, .inl (by simp only [execOp, Sem.run_bind, r1, Result.andThen_ok, Sem.run_pure]), r2⟩
  | extract x i =>
    obtain ⟨y, hy, ho⟩ := bind1_some (show bind1 (valA tm x) (fun v => bind1 (tupOf v) fun vs => same (vs[i]?)) = some (v, us) from ho0)
    obtain ⟨vs, hvs, ho⟩ := bind1_some ho
    obtain ⟨z, hz, ho⟩ := bind1_some ho
    cases ho
    obtain rfl := tupOf_some hvs
    have hv := val hy
    generalize hq : a.eval x = q at hv
    cases hv with
    | tup hr =>
      obtain ⟨u, u1, u2⟩ := hr.get hz
      refine ⟨u, w, g, .inl ?_, Post.same h u2⟩
      simp only [execOp, hq, Instr.extract]
      rw [Array.getElem?_toList] at u1
      rw [u1]; rfl
  | call c =>
    have ho : opCall E tm f new c = some (v, us) := ho0
    unfold opCall at ho
    split at ho
    · rename_i b hb
      obtain ⟨as, has, ho⟩ := bind1_some ho
      obtain ⟨r, w', g', r1, r2⟩ := opBuiltin_spec hE h hfr hn (ts := c.argTypes) has ty (c.args.map fun | .const _ => true | _ => false) ho
      refine ⟨r, w', g', .inl ?_, r2⟩
      simp only [execOp, resolve, hb, Sem.run_bind, Sem.run_pure, Result.andThen_ok, invoke]
      exact r1
    · cases ho
  | _ => cases ho0

end Go.Sim
