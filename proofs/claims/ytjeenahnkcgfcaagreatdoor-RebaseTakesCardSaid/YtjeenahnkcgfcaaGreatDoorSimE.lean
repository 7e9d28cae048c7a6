/- Soundness: the end of a function; calls; the run. -/
import Derived.Test.YtjeenahnkcgfcaaGreatDoorSim23
set_option linter.unusedVariables false
set_option linter.unusedSimpArgs false
namespace Go.Sim
open Go.RowKit

variable {E : Env} {g : Gh} {f : Hf} {w : World}

theorem nilD_eq {l : List Dm} (h : nilD l = true) : l = [] := by cases l <;> first | rfl | cases h
theorem isRetE_exR {e : Ex} {x : Exit} (h : isRetE e = true) (hx : ExR g e x) : x = .normal ∨ x = .ret := by
  cases hx with
  | normal => exact .inl rfl
  | ret => exact .inr rfl
  | exit id => cases h
  | pan hv => cases h

/-- What recover does to the frame below. -/
theorem recover_URel {u : Option SV} {c0 : Frame} {cs : List Frame} (hu : URel g u c0.mode) : ∃ v cs' u', (recoverD (c0 :: cs) = some (v, cs') ∨ (recoverD (c0 :: cs) = none ∧ v = .nilIface ∧ cs' = c0 :: cs)) ∧ VR g v (recV u) ∧ cs' = { c0 with mode := u' } :: cs ∧ settle u' = .returning := by
  cases u with
  | none =>
    have hu : c0.mode = .returning := hu
    refine ⟨.nilIface, c0 :: cs, .returning, .inr ⟨by simp [recoverD, hu], rfl, rfl⟩, .nili, ?_, rfl⟩
    rw [← hu]
  | some v =>
    obtain ⟨x, h1, h2⟩ := hu
    refine ⟨x, { c0 with mode := .panicking [{ v := x, recovered := true }] } :: cs, .panicking [{ v := x, recovered := true }], .inl ?_, h2, rfl, ?_⟩
    · simp [recoverD, h1]
    · simp [settle]

/-- A deferred call, as the machine takes it. -/
theorem dFun_sound (hS : EnvS E) {rec : Job → Out} (hrec : ∀ j, Sound E j (rec j)) {k : FuncId} {as : List SV} {u : Option SV} {h : Hs} {kk : Hs → Out} {l : List Rs} (hres : dFun E rec (E.fn.get k) as u h kk = .ress l) (hb : Bd h) :
    ∃ hs : List Hs, hs ≠ [] ∧ (∀ h' ∈ hs, Fac h h' ∧ ∃ r', kk h' = .ress r' ∧ ∀ x ∈ r', x ∈ l) ∧ (∀ x ∈ l, ∃ h' ∈ hs, ∃ r', kk h' = .ress r' ∧ x ∈ r') ∧
      ∀ (m : Nat) (g : Gh) (w : World) (um : FrameMode) (us : List Value) (R : Ending → FrameMode → World → Prop), EnvOK E g → HR g h.hp.get w → (∀ x, h.nx ≤ x → g.ρ x = none) → URel g u um → VRs g us as →
        (∀ h' ∈ hs, ∀ (g' : Gh) (w' : World) (v : Value) (u' : FrameMode), settle u' = .returning → HR g' h'.hp.get w' → Fr g h.hp.get w g' h'.hp.get w' → (∀ x, h'.nx ≤ x → g'.ρ x = none) → (∀ x, x < h.nx → g'.ρ x = g.ρ x) → R (.returned v) u' w') →
        (∃ args, (callFunc k us.toArray).run E.P w = .ok (.enter k args) w ∧ CallsDIn Fence.wide m E.P k args um w R) := by
  unfold dFun at hres
  cases hfn : E.fn.get k with
  | none => rw [hfn] at hres; cases hres
  | some fn =>
    rw [hfn] at hres
    have hres : dCode E rec fn as u h kk fn.body = .ress l := hres
    unfold dCode at hres
    split at hres
    rotate_left
    · cases hres
    rename_i id ops rest hbody
    rw [sel_if] at hres
    split at hres
    rotate_left
    · cases hres
    rename_i hlen
    have hlen := (ble_iff _ _).1 hlen
    rw [sel_if] at hres
    split at hres
    · cases hres
    rename_i hnum
    unfold dBody at hres
    cases hops : ops.toList with
    | nil => rw [hops] at hres; cases hres
    | cons o ol =>
      rw [hops] at hres
      have hres : sel (isRecover o && dstOk fn.ntmps o.dst) (dRest E rec fn rest (rec (.ops fn.ntmps (o :: ol) ol (putD (setArgs as 0 .nil) o.dst (recV u)) [] h)) kk) (.fail "no recover") = .ress l := hres
      rw [sel_if] at hres
      split at hres
      rotate_left
      · cases hres
      rename_i hcnd
      rw [Bool.and_eq_true] at hcnd
      obtain ⟨hrc, hdst⟩ := hcnd
      unfold dRest at hres
      obtain ⟨l1, h1, h2⟩ := onCode_ress hres
      obtain ⟨n1, q1, q2⟩ := catL_ress h2
      have hs1 := hrec (.ops fn.ntmps (o :: ol) ol (putD (setArgs as 0 .nil) o.dst (recV u)) [] h)
      rw [h1] at hs1
      have hsz : ops.size = ol.length + 1 := by rw [← Array.length_toList, hops]; simp
      obtain ⟨no1, fo1, so1⟩ := hs1 ops hops (by rw [hsz, hops]; simp) hb
      have hokb : codeOk (.seq (.region id ops false) rest) = true := by
        have hok := (hS.fn k fn hfn).2
        have hok : @Option.rec Code (fun _ => Bool) true codeOk fn.body = true := hok
        rw [hbody] at hok; exact hok
      -- each way of the first region
      have way : ∀ o1 ∈ l1, o1.e = .normal ∧ o1.dm = [] ∧ ∃ l2, rec (.code fn.ntmps rest o1.tm [] o1.h) = .codes l2 ∧ CodeS E fn.ntmps rest o1.tm [] o1.h l2 ∧
          (∀ o2 ∈ l2, isRetE o2.e = true ∧ o2.dm = [] ∧ (∃ vs, resVars E o2.tm.get o2.h.hp.get fn.results.toList = some vs) ∧ ∃ r', kk o2.h = .ress r' ∧ ∀ x ∈ r', x ∈ l) := by
        intro o1 ho1
        obtain ⟨r1, e1, e2⟩ := q1 o1 ho1
        rw [sel_if] at e1
        split at e1
        rotate_left
        · cases e1
        rename_i hc1
        rw [Bool.and_eq_true] at hc1
        obtain ⟨l2, e3, e4⟩ := onCode_ress e1
        obtain ⟨n2, p1, p2⟩ := catL_ress e4
        have hs2 := hrec (.code fn.ntmps rest o1.tm [] o1.h)
        rw [e3] at hs2
        refine ⟨isNormal_eq hc1.1, nilD_eq hc1.2, l2, e3, hs2 (fo1 o1 ho1).1.bd, fun o2 ho2 => ?_⟩
        obtain ⟨r2, e5, e6⟩ := p1 o2 ho2
        rw [sel_if] at e5
        split at e5
        rotate_left
        · cases e5
        rename_i hc2
        rw [Bool.and_eq_true] at hc2
        cases hv : resVars E o2.tm.get o2.h.hp.get fn.results.toList with
        | none => rw [hv] at e5; cases e5
        | some vs =>
          rw [hv] at e5
          have e5 : kk o2.h = .ress r2 := e5
          exact ⟨hc2.1, nilD_eq hc2.2, ⟨vs, rfl⟩, r2, e5, fun x hx => e2 x (e6 x hx)⟩
      have back : ∀ x ∈ l, ∃ o1 ∈ l1, ∃ l2, rec (.code fn.ntmps rest o1.tm [] o1.h) = .codes l2 ∧ ∃ o2 ∈ l2, ∃ r', kk o2.h = .ress r' ∧ x ∈ r' := by
        intro x hx
        obtain ⟨o1, ho1, r1, e1, e2⟩ := q2 x hx
        rw [sel_if] at e1
        split at e1
        rotate_left
        · cases e1
        obtain ⟨l2, e3, e4⟩ := onCode_ress e1
        obtain ⟨n2, p1, p2⟩ := catL_ress e4
        obtain ⟨o2, ho2, r2, e5, e6⟩ := p2 x e2
        rw [sel_if] at e5
        split at e5
        rotate_left
        · cases e5
        cases hv : resVars E o2.tm.get o2.h.hp.get fn.results.toList with
        | none => rw [hv] at e5; cases e5
        | some vs =>
          rw [hv] at e5
          exact ⟨o1, ho1, l2, e3, o2, ho2, r2, e5, e6⟩
      let hs : List Hs := l1.flatMap fun o1 => match rec (.code fn.ntmps rest o1.tm [] o1.h) with | .codes l2 => l2.map (·.h) | _ => []
      have hmem : ∀ h', h' ∈ hs ↔ ∃ o1 ∈ l1, ∃ l2, rec (.code fn.ntmps rest o1.tm [] o1.h) = .codes l2 ∧ ∃ o2 ∈ l2, o2.h = h' := by
        intro h'
        simp only [hs, List.mem_flatMap]
        constructor
        · rintro ⟨o1, ho1, hx⟩
          obtain ⟨_, _, l2, e3, _⟩ := way o1 ho1
          rw [e3] at hx
          obtain ⟨o2, ho2, rfl⟩ := List.mem_map.1 hx
          exact ⟨o1, ho1, l2, e3, o2, ho2, rfl⟩
        · rintro ⟨o1, ho1, l2, e3, o2, ho2, rfl⟩
          refine ⟨o1, ho1, ?_⟩
          rw [e3]
          exact List.mem_map.2 ⟨o2, ho2, rfl⟩
      refine ⟨hs, ?_, fun h' hh' => ?_, fun x hx => ?_, fun m g w um us R hE hr hnx hu hus hR => ?_⟩
      · obtain ⟨o1, ho1⟩ := List.exists_mem_of_ne_nil _ no1
        obtain ⟨_, _, l2, e3, k2, _⟩ := way o1 ho1
        obtain ⟨o2, ho2⟩ := List.exists_mem_of_ne_nil _ k2.1
        exact List.ne_nil_of_mem ((hmem o2.h).2 ⟨o1, ho1, l2, e3, o2, ho2, rfl⟩)
      · obtain ⟨o1, ho1, l2, e3, o2, ho2, rfl⟩ := (hmem h').1 hh'
        obtain ⟨_, _, l2', e3', k2, w2⟩ := way o1 ho1
        rw [e3] at e3'
        cases e3'
        obtain ⟨_, _, _, r', z1, z2⟩ := w2 o2 ho2
        exact ⟨(fo1 o1 ho1).1.trans (k2.2.1 o2 ho2).1, r', z1, z2⟩
      · obtain ⟨o1, ho1, l2, e3, o2, ho2, r', z1, z2⟩ := back x hx
        exact ⟨o2.h, (hmem _).2 ⟨o1, ho1, l2, e3, o2, ho2, rfl⟩, r', z1, z2⟩
      obtain ⟨hPf, _⟩ := hS.fn k fn hfn
      refine ⟨us.toArray, ?_, ?_⟩
      · rcases run_callFunc_go hPf (by rw [hbody]; rfl) us.toArray w with ⟨_, hc⟩ | hc
        · exact absurd (by rw [hc]; decide) hnum
        · exact hc
      refine callsDIn_of_wpSIn hPf hbody trivial (fun c0 cs hc0 => wpSIn_seq ?_)
      subst hc0
      obtain ⟨v, cs', u', hv, hvr, hcs', hset⟩ := recover_URel (cs := cs) hu
      have ho0 : ops[0]? = some o := by
        have : ops.toList[0]? = some o := by rw [hops]; rfl
        simpa using this
      refine wpSIn_region_recover ho0 hrc hv ?_
      have hlen2 := hus.length
      have hrange : List.range' (ops.size - ol.length) ol.length = List.range' 1 (ops.size - 1) := by
        have e1 : ops.size - ol.length = 1 := by omega
        have e2 : ops.size - 1 = ol.length := by omega
        rw [e1, e2]
      rw [← hrange]
      refine so1 none m g (Act.put { tmps := us.toArray ++ Array.replicate (fn.ntmps - us.toArray.size) undef, defers := [] } o.dst v) w _ (.inl rfl) hE (by rw [putD_get]; exact (FR.args hus hlen).put hdst hvr) hr (by rw [put_defers]; exact .nil) hnx (fun o1 ho1 g1 a1 w1 x p0 p1 p2 p3 p4 p5 p6 => ?_)
      obtain ⟨he1, hd1, l2, e3, k2, w2⟩ := way o1 ho1
      rw [he1] at p0
      cases p0
      rw [hd1] at p4
      refine wpSIn_of_wpIn (F := Fence.wide) rfl (wpX_in (F := fro none) ?_)
      refine k2.2.2 none m g1 a1 w1 _ (okR hokb) (.inl rfl) (hE.mono p3.le) p1 p2 p4 p5 (fun o2 ho2 g2 a2 w2' x s0 s1 s2 s3 s4 s5 s6 => ?_)
      obtain ⟨z0, z1, ⟨vs, z2⟩, _⟩ := w2 o2 ho2
      rw [z1] at s4
      obtain ⟨rv, y1, y2⟩ := results_spec ((hE.mono p3.le).mono s3.le) s2 s1 z2
      have hd : a2.defers = [] := by
        generalize a2.defers = d at s4
        cases s4; rfl
      have fin : a2.defers = [] ∧ ∃ u'', cs' = { c0 with mode := u'' } :: cs ∧ ∃ v, (results fn a2.tmps).run E.P w2' = .ok v w2' ∧ R (.returned v) u'' w2' :=
        ⟨hd, u', hcs', rv, y1, hR o2.h ((hmem _).2 ⟨o1, ho1, l2, e3, o2, ho2, rfl⟩) g2 w2' rv u' hset s2 (p3.trans s3) s5 (fun y hy => by rw [s6 y (Nat.lt_of_lt_of_le hy (fo1 o1 ho1).1.nx), p6 y hy])⟩
      rcases isRetE_exR z0 s0 with rfl | rfl
      · exact fin
      · exact fin

theorem ite_codes {b : Bool} {x : Out} {s : String} {l : List Rs} (h : sel b x (.fail s) = .ress l) : b = true ∧ x = .ress l := by
  cases b with
  | false => cases h
  | true => exact ⟨rfl, h⟩

/-- A function is left. -/
theorem leaveD_sound (hS : EnvS E) {rec : Job → Out} (hrec : ∀ j, Sound E j (rec j)) {fn : Func} {tm : Tr SV} : ∀ (mk : List Dm) (u : Option SV) (h : Hs) (l : List Rs), leaveD E rec fn tm mk u h = .ress l → Bd h → l ≠ [] ∧ (∀ r ∈ l, Fac h r.h) ∧
    ∀ (m nt : Nat) (g : Gh) (w : World) (a : Act) (ds : List Deferred) (um : FrameMode) (R : Ending → World → Prop), EnvOK E g → FR g nt tm.get a.tmps → HR g h.hp.get w → Marks g mk ds → URel g u um → (∀ x, h.nx ≤ x → g.ρ x = none) →
      (∀ r ∈ l, ∀ e w', PostR g h.hp.get w h.nx r e w' → R e w') → LeavesInM Fence.wide m E.P fn a.tmps R ds um w
  | [], u, h, l, hres, hb => by
    have hres : endR E fn tm u h = .ress l := hres
    unfold endR at hres
    cases u with
    | some v =>
      cases (show Out.ress [⟨true, v, h⟩] = .ress l from hres)
      refine ⟨by simp, fun r hr => ?_, fun m nt g w a ds um R hE hfr hr hmk hu hnx hk => ?_⟩
      · obtain rfl := List.mem_singleton.1 hr
        exact Fac.refl hb
      · cases hmk
        obtain ⟨x, rfl, hx⟩ := hu
        exact hk _ (List.mem_singleton.2 rfl) _ _ ⟨x, g, rfl, hx, hr, Fr.refl _ _ _, fun _ _ => rfl, hnx⟩
    | none =>
      have hres : @Option.rec (List SV) (fun _ => Out) (.fail fn.name) (fun vs => .res (oneOf vs) h) (resVars E tm.get h.hp.get fn.results.toList) = .ress l := hres
      cases hv : resVars E tm.get h.hp.get fn.results.toList with
      | none => rw [hv] at hres; cases hres
      | some vs =>
        rw [hv] at hres
        cases (show Out.ress [⟨false, oneOf vs, h⟩] = .ress l from hres)
        refine ⟨by simp, fun r hr => ?_, fun m nt g w a ds um R hE hfr hr hmk hu hnx hk => ?_⟩
        · obtain rfl := List.mem_singleton.1 hr
          exact Fac.refl hb
        · cases hmk
          have hu : um = .returning := hu
          subst hu
          obtain ⟨v, hv1, hv2⟩ := results_spec hE hr hfr hv
          exact ⟨v, hv1, hk _ (List.mem_singleton.2 rfl) _ _ ⟨v, g, rfl, hv2, hr, Fr.refl _ _ _, fun _ _ => rfl, hnx⟩⟩
  | .mark d :: mk, u, h, l, hres, hb => by
    unfold leaveD at hres
    split at hres
    rotate_left
    · cases hres
    rename_i hd
    have hg : ∀ x, (⟨h.hp.set d none, h.nx, d :: h.lg⟩ : Hs).hp.get x = if x = d then none else h.hp.get x := fun x => Tr.get_set _ _ _ _
    have hb1 : Bd ⟨h.hp.set d none, h.nx, d :: h.lg⟩ := fun x hx => by
      rw [hg]
      split
      · rfl
      · exact hb x hx
    have f1 : Fac h ⟨h.hp.set d none, h.nx, d :: h.lg⟩ := by
      refine ⟨Nat.le_refl _, hb1, fun x hx hn => ?_, fun x hx => List.mem_cons_of_mem _ hx, fun x hx hn => ?_⟩
      · have hn : x ∉ d :: h.lg := hn
        rw [hg, if_neg (fun e => hn (by simp [e]))]
      · rw [hg]
        split
        · rfl
        · exact hn
    obtain ⟨n1, q1, q2⟩ := leaveD_sound hS hrec mk u _ l hres hb1
    refine ⟨n1, fun r hr => f1.trans (q1 r hr), fun m nt g w a ds um R hE hfr hr hmk hu hnx hk => ?_⟩
    cases hmk with
    | @mark _ _ r o ds' hρ ht =>
    obtain ⟨hlt, hor⟩ := hr.at hd hρ
    have hor : w.heap[r]? = some (.deferred (some [])) := hor
    refine ⟨hu.ne_run, .inl ⟨r, _, rfl, run_takeDeferred hor, ?_⟩⟩
    obtain ⟨s1, s2⟩ := HR.drop hr (w' := w.putObj r (.deferred none)) hd hρ (by simp) (fun k hk => World.putObj_heap_other hk) rfl rfl rfl
    have e : (h.hp.set d none).get = upF h.hp.get (d, none) := funext fun x => Tr.get_set _ _ _ _
    rw [← e] at s1 s2
    refine q2 m nt g _ a _ um R hE hfr s1 ht hu hnx (fun r' hr' e' w' ⟨uu, g', p1, p2, p3, p4, p5, p6⟩ => hk r' hr' e' w' ⟨uu, g', p1, p2, p3, s2.trans p4, p5, p6⟩)
  | .fn k as ca :: mk, u, h, l, hres, hb => by
    have hres : dFun E rec (E.fn.get k) (as ++ ca) u h (fun h' => leaveD E rec fn tm mk none h') = .ress l := hres
    obtain ⟨hs, n1, q1, q2, q3⟩ := dFun_sound hS hrec hres hb
    have sub : ∀ h' ∈ hs, ∃ r', leaveD E rec fn tm mk none h' = .ress r' ∧ (∀ x ∈ r', x ∈ l) ∧ Fac h h' := fun h' hh' => by
      obtain ⟨f1, r', e1, e2⟩ := q1 h' hh'
      exact ⟨r', e1, e2, f1⟩
    refine ⟨?_, fun r hr => ?_, fun m nt g w a ds um R hE hfr hr hmk hu hnx hk => ?_⟩
    · obtain ⟨h', hh'⟩ := List.exists_mem_of_ne_nil _ n1
      obtain ⟨r', e1, e2, f1⟩ := sub h' hh'
      obtain ⟨n2, _⟩ := leaveD_sound hS hrec mk none h' r' e1 f1.bd
      obtain ⟨x, hx⟩ := List.exists_mem_of_ne_nil _ n2
      exact List.ne_nil_of_mem (e2 x hx)
    · obtain ⟨h', hh', r', e1, e2⟩ := q2 r hr
      obtain ⟨f1, _⟩ := q1 h' hh'
      obtain ⟨_, f2, _⟩ := leaveD_sound hS hrec mk none h' r' e1 f1.bd
      exact f1.trans (f2 r e2)
    cases hmk with
    | @fn _ _ _ _ ds' us cs h1 h2 ht =>
    have hall : VRs g (us.toList ++ cs.toList) (as ++ ca) := h1.append h2
    obtain ⟨args, hrun, hcall⟩ := q3 (m - 1) g w um (us.toList ++ cs.toList) (fun e u' w' => match e with
        | .returned _ => LeavesInM Fence.wide m E.P fn a.tmps R ds' (settle u') w'
        | .panicked chain => LeavesInM Fence.wide m E.P fn a.tmps R ds' (raised u' chain) w'
        | .outgrown => R .outgrown w') hE hr hnx hu hall (fun h' hh' g' w' v u' hset p1 p2 p3 p4 => by
      obtain ⟨r', e1, e2, f1⟩ := sub h' hh'
      obtain ⟨_, _, s3⟩ := leaveD_sound hS hrec mk none h' r' e1 f1.bd
      show LeavesInM Fence.wide m E.P fn a.tmps R ds' (settle u') w'
      rw [hset]
      exact s3 m nt g' w' a ds' .returning R (hE.mono p2.le) (hfr.mono p2.le) p1 (ht.mono p2.le) rfl p3 (fun x hx e' w2 ⟨uu, g2, t1, t2, t3, t4, t5, t6⟩ => hk x (e2 x hx) e' w2 ⟨uu, g2, t1, t2, t3, p2.trans t4, fun y hy => by rw [t5 y (Nat.lt_of_lt_of_le hy f1.nx), p4 y hy], t6⟩))
    refine ⟨hu.ne_run, .inr ⟨fun hh => by simp [Fence.wide] at hh, .func k, cs, k, args, rfl, ?_, fun _ _ => trivial, ?_⟩⟩
    · have e : us ++ cs = (us.toList ++ cs.toList).toArray := by apply Array.ext'; simp
      show (callFunc k (us ++ cs)).run E.P w = _
      rw [e]; exact hrun
    · refine hcall.mono (fun e u' w' he => ?_)
      cases e <;> exact he

end Go.Sim
