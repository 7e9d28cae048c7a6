/- Single operations: strings, interfaces, small builtins; all operations. -/
import Derived.Test.YtjeenahnkcgfcaaGreatDoorSim10
set_option linter.unusedVariables false
set_option linter.unusedSimpArgs false
namespace Go.Sim
open Go.RowKit Go.MapKept

variable {E : Env} {g : Gh} {f : Hf} {w : World}

/-! ### strings, interfaces -/
theorem opRange_spec (hE : EnvOK E g) (h : HR g f w) {new : Nat} (hn : g.ρ new = none) {t : TypeId} {x : SV} {u : Value} (hu : VR g u x) {v : SV} {us : List Up} (ho0 : opRange E f new t x = some (v, us)) :
    ∃ r w' g', (Instr.range t u).run E.P w = .ok r w' ∧ Post g f w v us new r g' w' := by
  obtain ⟨i, hi, ho⟩ := bind1_some ho0
  obtain ⟨o, ho1, ho⟩ := bind1_some ho
  cases ho
  have ht := (hE.ty t i hi).desc
  have fin : ∀ (ob : Obj), (Instr.range t u).run E.P w = .ok (.pointer (some ⟨w.heap.size, 0, none⟩)) (w.alloc ob) → OR (g.bind new (w.heap.size, 0) 0 0) (w.alloc ob) new w.heap.size 0 o →
      ∃ r w' g', (Instr.range t u).run E.P w = .ok r w' ∧ Post g f w (.ptr new 0) [(new, some o)] new r g' w' := by
    intro ob hrun hor
    obtain ⟨r1, r2⟩ := h.alloc hn (o' := o) (w' := w.alloc ob) (l := 0) (e := 0) rfl hor
    exact ⟨.pointer (some ⟨w.heap.size, 0, none⟩), _, _, hrun, ⟨.ptr (o := 0) (off := 0) (Gh.bind_self _ _ _ _ _), r1, r2, fun id hne => Gh.bind_ne _ _ _ _ hne, fun hnil => by cases hnil⟩⟩
  generalize i.desc = D at ht ho1
  cases D with
  | string =>
    have ht : E.P.underlying t = some .string := ht
    obtain ⟨s, hs, ho1⟩ := bind1_some (show bind1 (strOf x) (fun s => some (SO.strIter s 0)) = some o from ho1)
    cases ho1
    obtain rfl := strOf_some hs
    cases hu
    refine fin (.stringIter s 0) ?_ ⟨rfl, heap_alloc_new w _⟩
    simp [Instr.range, run_underlying ht, newObj]
    rfl
  | map kt et =>
    have ht : E.P.underlying t = some (.map kt et) := ht
    cases hu with
    | nilm =>
      cases (show some (SO.mapIter none 0 [] 0) = some o from ho1)
      refine fin (.mapIter none 0 #[] 0) ?_ ⟨rfl, none, #[], heap_alloc_new w _, rfl, rfl⟩
      simp [Instr.range, run_underlying ht, newObj]
      rfl
    | @mp id b c hρ =>
      obtain ⟨p, hp, ho1⟩ := bind1_some (show bind1 (mapO (f id)) (fun p => some (SO.mapIter (some id) p.2 [] p.2)) = some o from ho1)
      cases ho1
      have hf := mapO_some hp
      obtain ⟨hb, ms, m1, m2⟩ := h.at hf hρ
      have hne : id ≠ new := fun e => by subst e; rw [hn] at hρ; cases hρ
      refine fin (.mapIter (some b) p.2 #[] p.2) ?_ ⟨rfl, some b, #[], heap_alloc_new w _, rfl, b, c, rfl, by rw [Gh.bind_ne _ _ _ _ hne]; exact hρ⟩
      simp [Instr.range, run_underlying ht, newObj, MapKept.run_getObj_map m1]
      rfl
    | _ => cases ho1
  | _ => cases ho1

theorem opNext_spec (hE : EnvOK E g) (h : HR g f w) {new : Nat} {isS : Bool} {ty : TypeId} {x : SV} {u : Value} (hu : VR g u x) {v : SV} {us : List Up} (ho0 : opNext f isS x = some (v, us)) :
    ∃ r w', (Instr.next u isS ty).run E.P w = .ok r w' ∧ Post g f w v us new r g w' := by
  obtain ⟨hs, ho1⟩ := sel_some ho0
  subst hs
  obtain ⟨id, hid, ho2⟩ := bind1_some ho1
  obtain ⟨p, hp, ho3⟩ := bind1_some ho2
  obtain ⟨q, hq, hid2⟩ := bind1_some hid
  obtain ⟨hz, hid3⟩ := sel_some hid2
  cases hid3
  have hz := (beq_iff _ _).1 hz
  obtain rfl := ptrOf_some hq
  have hf := iterO_some hp
  cases hu with
  | @ptr _ _ b o hρ =>
    obtain ⟨hb, rfl, m1⟩ := h.at hf hρ
    rw [hz]
    have hget : (getObj b).run E.P w = .ok (.stringIter p.1 p.2) w := by simp [getObj, Sem.run, m1]
    have ho : some (nextStr q.1 p) = some (v, us) := ho3
    unfold nextStr at ho
    rw [sel_if] at ho
    split at ho
    · rename_i hlt
      have hlt : p.2 < p.1.size := (ble_iff _ _).1 hlt
      cases ho
      obtain ⟨s1, s2⟩ := heap_set (o' := Obj.stringIter p.1 (p.2 + (Utf8.decode p.1 p.2).2)) m1
      obtain ⟨t1, t2⟩ := h.write (o' := .strIter p.1 (p.2 + (Utf8.decode p.1 p.2).2)) (w' := { w with heap := w.heap.setIfInBounds b (.stringIter p.1 (p.2 + (Utf8.decode p.1 p.2).2)) }) hf hρ (by simp) (fun k hk => s2 k hk) ⟨rfl, s1⟩ rfl rfl rfl
      refine ⟨.tuple #[.bool true, goInt p.2, .int .i32 (Utf8.decode p.1 p.2).1], { w with heap := w.heap.setIfInBounds b (.stringIter p.1 (p.2 + (Utf8.decode p.1 p.2).2)) }, ?_, ⟨?_, t1, t2, fun _ _ => rfl, fun _ => rfl⟩⟩
      · simp only [Nat.add_zero, Instr.next, Sem.run_bind, hget, Result.andThen_ok, if_pos hlt]
        simp [setObj, Sem.run, m1]
      · exact .tup (.cons (.bool true) (.cons (.int _ _ (by simp [SI.ev])) (.cons (.int _ _ (by simp [SI.ev])) .nil)))
    · rename_i hlt
      have hlt : ¬ p.2 < p.1.size := fun e => hlt ((ble_iff _ _).2 e)
      cases ho
      refine ⟨.tuple #[.bool false], w, ?_, Post.same h (.tup (.cons (.bool false) .nil))⟩
      simp only [Nat.add_zero, Instr.next, Sem.run_bind, hget, Result.andThen_ok, if_neg hlt, Sem.run_pure]

theorem opIfc_spec (hE : EnvOK E g) (h : HR g f w) {new : Nat} {t : TypeId} {x : SV} {u : Value} (hu : VR g u x) {v : SV} {us : List Up} (ho0 : opIfc E t x = some (v, us)) :
    ∃ r, (Instr.makeInterface t u).run E.P w = .ok r w ∧ Post g f w v us new r g w := by
  obtain ⟨i, hi, ho⟩ := bind1_some ho0
  rw [sel_if] at ho
  split at ho
  · cases ho
  · rename_i hc
    cases ho
    have hd := (hE.ty t i hi).desc
    refine ⟨.iface t u, ?_, Post.same h (.ifc hu)⟩
    generalize i.desc = D at hd hc
    cases D <;> simp only [DescOK] at hd
    case interface => exact absurd rfl hc
    case pointer => obtain ⟨e, he⟩ := hd; simp [Instr.makeInterface, run_underlying he]
    case struct => obtain ⟨e, he, _⟩ := hd; simp [Instr.makeInterface, run_underlying he]
    case func => obtain ⟨_, _, _, he⟩ := hd; simp [Instr.makeInterface, run_underlying he]
    all_goals simp [Instr.makeInterface, run_underlying hd]

theorem opAssert_spec (hE : EnvOK E g) (h : HR g f w) {new : Nat} {t xt : TypeId} {ok : Bool} {x : SV} {u : Value} (hu : VR g u x) {v : SV} {us : List Up} (ho0 : opAssert E t ok x = some (v, us)) :
    ∃ r, (Instr.typeAssert u xt t ok).run E.P w = .ok r w ∧ Post g f w v us new r g w := by
  obtain ⟨i, hi, ho⟩ := bind1_some ho0
  rw [sel_if] at ho
  split at ho
  · cases ho
  · rename_i hc
    obtain ⟨z, hz0, ho⟩ := bind1_some ho
    cases ho
    have hT := hE.ty t i hi
    obtain ⟨zv, z1, z2, z3⟩ := run_zero hT
    obtain ⟨d, hd⟩ := und_of hT
    have hni : ∀ ms, d ≠ .interface ms := by
      intro ms e
      subst e
      have hD := hT.desc
      generalize i.desc = D at hD hc
      cases D <;> simp only [DescOK] at hD <;> first | exact hc rfl | (rw [hd] at hD; simp at hD; done) | (obtain ⟨_, he⟩ := hD; rw [hd] at he; simp at he; done) | (obtain ⟨_, he, _⟩ := hD; rw [hd] at he; simp at he; done) | (obtain ⟨_, _, _, he⟩ := hD; rw [hd] at he; simp at he; done)
    have fail : failV i ok = some v → ∃ r, (do if ok then pure (Value.tuple #[← zeroValue t, .bool false]) else runtimePanic (.typeAssertion (some xt) none t "") : Sem Value).run E.P w = .ok r w ∧ ok = true ∧ r = .tuple #[zv, .bool false] ∧ VR g r v := by
      intro hf
      obtain ⟨hk, hf⟩ := sel_some hf
      obtain ⟨y, hy, hf⟩ := bind1_some hf
      cases hf
      subst hk
      exact ⟨_, by simp [z1], rfl, rfl, .tup (.cons (partA_zero z2 z3 hy) (.cons (.bool false) .nil))⟩
    cases hu with
    | @ifc t2 u2 y hy =>
      have hz : sel (Nat.beq t2 t) (some (okV ok y true)) (failV i ok) = some v := hz0
      rw [sel_if] at hz
      split at hz
      · rename_i he
        have he := (beq_iff _ _).1 he
        subst he
        have hz : some (okV ok y true) = some v := hz
        cases hz
        refine ⟨if ok then .tuple #[u2, .bool true] else u2, ?_, Post.same h ?_⟩
        · cases d <;> first | exact absurd rfl (hni _) | simp [Instr.typeAssert, run_underlying hd]
        · cases ok
          · exact hy
          · exact .tup (.cons hy (.cons (.bool true) .nil))
      · rename_i he
        have he : t2 ≠ t := fun e => he ((beq_iff _ _).2 e)
        obtain ⟨r, r1, rfl, rfl, r2⟩ := fail hz
        refine ⟨_, ?_, Post.same h r2⟩
        cases d <;> first | exact absurd rfl (hni _) | simp [Instr.typeAssert, run_underlying hd, he, z1]
    | nili =>
      obtain ⟨r, r1, rfl, rfl, r2⟩ := fail hz0
      refine ⟨_, ?_, Post.same h r2⟩
      cases d <;> first | exact absurd rfl (hni _) | simp [Instr.typeAssert, run_underlying hd, z1]
    | _ => cases hz0

/-! ### len, min, max -/
theorem lenD_spec (hE : EnvOK E g) (h : HR g f w) {t ty : TypeId} {i : TI} (hi : E.ty.get t = some i) {x z : SV} {u : Value} (hu : VR g u x) (ho0 : lenD i.desc x f = some z) : ∃ r, (Builtin.len_ #[t] ty #[u]).run E.P w = .ok r w ∧ VR g r z := by
  have hd := (hE.ty t i hi).desc
  have lit : ∀ n : Nat, VR g (goInt n) (litN n) := fun n => .int _ _ (by simp [SI.ev])
  generalize i.desc = D at hd ho0
  cases D with
  | string =>
    obtain ⟨s, hs, ho⟩ := bind1_some (show bind1 (strOf x) (fun s => some (litN s.size)) = some z from ho0)
    cases ho
    obtain rfl := strOf_some hs
    cases hu
    exact ⟨goInt s.size, by simp [Builtin.len_, run_underlying (show E.P.underlying t = some .string from hd)], lit _⟩
  | slice e =>
    obtain ⟨n, hn, ho⟩ := bind1_some (show bind1 (lenS x) (fun n => some (litN n)) = some z from ho0)
    cases ho
    have hd : E.P.underlying t = some (.slice e) := hd
    rcases lenS_some hn with ⟨id, off, c, rfl⟩ | ⟨rfl, rfl⟩ | ⟨rfl, rfl⟩ <;> cases hu <;> exact ⟨goInt _, by simp [Builtin.len_, run_underlying hd], lit _⟩
  | array n e =>
    cases (show some (litN n) = some z from ho0)
    have hd : E.P.underlying t = some (.array n e) := hd
    exact ⟨goInt n, by simp [Builtin.len_, run_underlying hd], lit _⟩
  | map k e =>
    have hd : E.P.underlying t = some (.map k e) := hd
    cases hu with
    | nilm =>
      cases (show some (litN 0) = some z from ho0)
      exact ⟨goInt 0, by simp [Builtin.len_, run_underlying hd], lit _⟩
    | @mp id b o hρ =>
      obtain ⟨p, hp, ho⟩ := bind1_some (show bind1 (mapO (f id)) (fun p => some (litN p.1.length)) = some z from ho0)
      cases ho
      obtain ⟨hb, ms, m1, m2⟩ := h.at (mapO_some hp) hρ
      refine ⟨goInt ms.size, by simp [Builtin.len_, run_underlying hd, MapKept.run_getObj_map m1], ?_⟩
      have := m2.length
      rw [← this]
      exact lit _
    | _ => cases ho0
  | _ => cases ho0

theorem minI_spec (hE : EnvOK E g) {x y z : SV} {u v : Value} (hu : VR g u x) (hv : VR g v y) {mx : Bool} (ho0 : minI E mx x y = some z) (ts : Array TypeId) (ty : TypeId) :
    ∃ r, ((if mx then Builtin.max_ ts ty #[u, v] else Builtin.min_ ts ty #[u, v])).run E.P w = .ok r w ∧ VR g r z := by
  obtain ⟨a, b, h1, h2, ho⟩ := bind2_some ho0
  obtain ⟨r, hr, ho⟩ := bind1_some ho
  cases ho
  obtain rfl := intOf_some h1
  obtain rfl := intOf_some h2
  cases hu with | int _ _ e1 => cases hv with | int _ _ e2 =>
  subst e1; subst e2
  cases mx with
  | true =>
    have := ltI_spec hE (show ltI E a.2 b.2 = some r from hr)
    refine ⟨.int a.1 (if b.2.ev g.η > a.2.ev g.η then b.2.ev g.η else a.2.ev g.η), by simp [Builtin.max_, Builtin.max2], .int _ _ ?_⟩
    cases r with
    | true => rw [if_pos (by simpa using this)]
    | false => rw [if_neg (by simpa using this)]
  | false =>
    have := ltI_spec hE (show ltI E b.2 a.2 = some r from hr)
    refine ⟨.int a.1 (if b.2.ev g.η < a.2.ev g.η then b.2.ev g.η else a.2.ev g.η), by simp [Builtin.min_, Builtin.min2], .int _ _ ?_⟩
    cases r with
    | true => rw [if_pos (by simpa using this)]
    | false => rw [if_neg (by simpa using this)]

theorem fst2_some {α : Type} {l : List α} {p : α × α} (h : fst2 l = some p) : l = [p.1, p.2] := by
  unfold fst2 at h
  split at h
  · cases h; rfl
  · cases h

/-! ### all operations -/
/-- The value that an operation gives, and the world behind it. -/
def OpRuns (P : Program) (o : Oper) (a : Act) (w : World) (v : Value) (w' : World) : Prop :=
  (execOp a.eval o).run P w = .ok (.value v) w' ∨ ((execOp a.eval o).run P w = .ok .skip w' ∧ v = undef)

theorem nat_VR {u : Value} {k : IntKind} {n : Nat} (h : VR g u (.int k (.lit (.ofNat n)))) : u = .int k (.ofNat n) := by
  cases h with
  | int _ _ e => rw [e]; rfl

theorem arr_list {α : Type} {xs : Array α} {l : List α} (h : xs.toList = l) : xs = l.toArray := by apply Array.ext'; simpa using h

theorem vrs_two {us : List Value} {x y : SV} (h : VRs g us [x, y]) : ∃ u v, us = [u, v] ∧ VR g u x ∧ VR g v y := by
  cases h with
  | cons h1 h => cases h with
    | cons h2 h => cases h; exact ⟨_, _, rfl, h1, h2⟩
theorem vrs_one {us : List Value} {x : SV} (h : VRs g us [x]) : ∃ u, us = [u] ∧ VR g u x := by
  cases h with
  | cons h1 h => cases h; exact ⟨_, rfl, h1⟩

theorem opBuiltin_spec (hE : EnvOK E g) (h : HR g f w) {nt : Nat} {tm : Tf} {a : Act} (hfr : FR g nt tm a.tmps) {new : Nat} (hn : g.ρ new = none) {b : Builtin} {args : Array Operand} {ts : Array TypeId} {as : List SV} (has : vals tm args.toList = some as) (ty : TypeId) (cs : Array Bool) {v : SV} {us : List Up}
    (ho0 : opBuiltin E f new b as ts.toList = some (v, us)) : ∃ r w' g', (builtin b ts ty cs (args.map a.eval)).run E.P w = .ok (.value r) w' ∧ Post g f w v us new r g' w' := by
  have hvs := vals_spec hfr has
  have hargs : args.map a.eval = (args.toList.map a.eval).toArray := arr_list (by simp)
  rw [hargs]
  generalize args.toList.map a.eval = vs at hvs
  cases b with
  | len =>
    obtain ⟨x, t, h1, h2, ho⟩ := bind2_some (show bind2 as.head? ts.toList.head? (fun x t => sel (Nat.beq as.length 1) (bind1 (E.ty.get t) fun i => same (lenD i.desc x f)) none) = some (v, us) from ho0)
    obtain ⟨hl, ho⟩ := sel_some ho
    obtain ⟨i, hi, ho⟩ := bind1_some ho
    obtain ⟨z, hz, ho⟩ := bind1_some ho
    cases ho
    have hl := (beq_iff _ _).1 hl
    obtain rfl : as = [x] := by
      cases as with
      | nil => simp at hl
      | cons y l => simp at hl h1; simp [hl, h1]
    obtain ⟨u, rfl, hu⟩ := vrs_one hvs
    obtain ⟨r, r1, r2⟩ := lenD_spec (w := w) (ty := ty) hE h hi hu hz
    refine ⟨r, w, g, ?_, Post.same h r2⟩
    have ht : ts[0]? = some t := by
      rw [← Array.getElem?_toList]
      cases hts : ts.toList with
      | nil => rw [hts] at h2; simp at h2
      | cons t' l => rw [hts] at h2; simpa using h2
    have hl1 : (Builtin.len_ ts ty #[u]).run E.P w = (Builtin.len_ #[t] ty #[u]).run E.P w := by simp only [Builtin.len_, ht]; rfl
    simp only [builtin, Sem.run_bind]
    rw [hl1, r1]
    rfl
  | append =>
    obtain ⟨p, q, h1, h2, ho⟩ := bind2_some (show bind2 (fst2 as) (fst2 ts.toList) (fun p q => bind1 (E.ty.get q.2) fun i => sel (rowD i.desc) (appendA E f new q.1 p.1 p.2) none) = some (v, us) from ho0)
    obtain ⟨i, hi, ho⟩ := bind1_some ho
    obtain ⟨hr, ho⟩ := sel_some ho
    obtain rfl := fst2_some h1
    obtain rfl := arr_list (fst2_some h2)
    obtain ⟨u1, u2, rfl, k1, k2⟩ := vrs_two hvs
    obtain ⟨r, w', g', r1, r2⟩ := appendA_spec (ty := ty) hE h hn k1 k2 hi hr ho
    exact ⟨r, w', g', by simp only [builtin, Sem.run_bind]; rw [r1]; rfl, r2⟩
  | copy =>
    obtain ⟨p, t, h1, h2, ho⟩ := bind2_some (show bind2 (fst2 as) ts.toList.head? (fun p t => copyA E f t p.1 p.2) = some (v, us) from ho0)
    obtain rfl := fst2_some h1
    obtain ⟨u1, u2, rfl, k1, k2⟩ := vrs_two hvs
    cases hts : ts.toList with
    | nil => rw [hts] at h2; simp at h2
    | cons t' l =>
      rw [hts] at h2
      obtain rfl : t' = t := by simpa using h2
      obtain rfl := arr_list hts
      obtain ⟨r, w', r1, r2⟩ := copyA_spec (new := new) (ty := ty) (ts := l) hE h k1 k2 ho
      exact ⟨r, w', g, by simp only [builtin, Sem.run_bind]; rw [r1]; rfl, r2⟩
  | min =>
    obtain ⟨p, h1, ho⟩ := bind1_some (show bind1 (fst2 as) (fun p => same (minI E false p.1 p.2)) = some (v, us) from ho0)
    obtain ⟨z, hz, ho⟩ := bind1_some ho
    cases ho
    obtain rfl := fst2_some h1
    obtain ⟨u1, u2, rfl, k1, k2⟩ := vrs_two hvs
    obtain ⟨r, r1, r2⟩ := minI_spec (w := w) hE k1 k2 hz ts ty
    refine ⟨r, w, g, ?_, Post.same h r2⟩
    simp only [Bool.false_eq_true, if_false] at r1
    simp only [builtin, Sem.run_bind]
    rw [r1]; rfl
  | max =>
    obtain ⟨p, h1, ho⟩ := bind1_some (show bind1 (fst2 as) (fun p => same (minI E true p.1 p.2)) = some (v, us) from ho0)
    obtain ⟨z, hz, ho⟩ := bind1_some ho
    cases ho
    obtain rfl := fst2_some h1
    obtain ⟨u1, u2, rfl, k1, k2⟩ := vrs_two hvs
    obtain ⟨r, r1, r2⟩ := minI_spec (w := w) hE k1 k2 hz ts ty
    refine ⟨r, w, g, ?_, Post.same h r2⟩
    simp only [if_true] at r1
    simp only [builtin, Sem.run_bind]
    rw [r1]; rfl
  | _ => cases ho0

end Go.Sim
