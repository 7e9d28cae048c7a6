/- Steps of a region, and their frames. -/
import Derived.Test.YtjeenahnkcgfcaaGreatDoorSim13
import Derived.RangeFuncCalls
set_option linter.unusedVariables false
set_option linter.unusedSimpArgs false
namespace Go.Sim
open Go.RowKit

variable {E : Env} {g : Gh} {f : Hf} {w : World}

/-- The fence of a frame: everything is let in; the frame may be a round's. -/
def fro (ro : Option Nat) : Fence := { fn := fun _ => True, depth := none, alive := false, round := ro }

def putT (T : Tf) (d : Option Nat) (v : SV) : Tf := fun t => if d = some t then some v else T t
theorem putD_get (tm : Tr SV) (d : Option Nat) (v : SV) : (putD tm d v).get = putT tm.get d v := by
  cases d with
  | none => funext t; simp [putD, putT]
  | some d =>
    funext t
    show (tm.set d (some v)).get t = _
    rw [Tr.get_set]
    simp only [putT, Option.some.injEq]
    by_cases h : t = d
    · subst h; simp
    · rw [if_neg h, if_neg (fun e => h e.symm)]

theorem dstOk_lt {nt d : Nat} (h : dstOk nt (some d) = true) : d < nt := (ble_iff _ _).1 h

theorem FR.put {nt : Nat} {T : Tf} {a : Act} (h : FR g nt T a.tmps) {d : Option Nat} (hd : dstOk nt d = true) {v : SV} {r : Value} (hv : VR g r v) : FR g nt (putT T d v) (a.put d r).tmps := by
  cases d with
  | none =>
    refine ⟨h.sz, fun t x hx => h.tm t x ?_⟩
    simpa [putT] using hx
  | some d =>
    have hlt := dstOk_lt hd
    refine ⟨by simpa [Act.put] using h.sz, fun t x hx => ?_⟩
    simp only [putT, Option.some.injEq] at hx
    show VR g ((a.tmps.setIfInBounds d r).getD t undef) x
    simp only [Array.getD_eq_getD_getElem?, Array.getElem?_setIfInBounds]
    split at hx
    · rename_i e; subst e
      obtain rfl : v = x := by simpa using hx
      have : d < a.tmps.size := by rw [h.sz]; exact hlt
      simpa [this] using hv
    · rename_i e
      rw [if_neg e]
      have := h.tm t x hx
      simpa [Array.getD_eq_getD_getElem?] using this

theorem put_defers (a : Act) (d : Option Nat) (r : Value) : (a.put d r).defers = a.defers := by cases d <;> rfl

/-! ### is it wanted? -/
theorem nthDst_eq : ∀ (l : List Oper) (j : Nat), nthDst l j = (l[j]?).bind (·.dst)
  | [], j => by simp; rfl
  | o :: l, 0 => rfl
  | o :: l, j + 1 => by
    show nthDst l j = _
    rw [nthDst_eq l j]; simp

theorem wanted_spec {nt : Nat} {T : Tf} {a : Act} (h : FR g nt T a.tmps) {all : Array Oper} {o : Oper} {b : Bool} (hw : wantedA all.toList o T = some b) : Region.wanted o (yielded all a.tmps) = b := by
  unfold wantedA at hw
  unfold Region.wanted
  cases hg : o.guard with
  | none => rw [hg] at hw; cases hw; rfl
  | some p =>
    obtain ⟨j, want⟩ := p
    rw [hg] at hw
    have hw : wantedG all.toList T j want = some b := hw
    unfold wantedG at hw
    rw [nthDst_eq, Array.getElem?_toList] at hw
    simp only [yielded]
    cases hd : (all[j]?).bind (·.dst) with
    | none =>
      rw [hd] at hw
      cases hw
      simp
    | some t =>
      rw [hd] at hw
      obtain ⟨x, hx, hw⟩ := bind1_some (show bind1 (T t) (wantB want) = some b from hw)
      have hv := h.tm t x hx
      simp only [Option.bind_some]
      rw [Array.getD_eq_getD_getElem?] at hv
      cases ht : a.tmps[t]? with
      | none =>
        rw [ht] at hv
        simp only [Option.getD_none] at hv
        have hu : (undef : Value) = .tuple #[] := rfl
        rw [hu] at hv
        cases hv with
        | tup _ => cases hw; rfl
        | undef _ => cases hw
      | some u =>
        rw [ht] at hv
        simp only [Option.getD_some] at hv
        cases hv <;> first
          | (cases hw; rfl)
          | (rename_i c; cases hw; cases c <;> cases want <;> rfl)
          | cases hw

/-- What is there behind a step: some numbers anew, the others as they were. -/
def mixF (D : Nat → Bool) (H f : Hf) : Hf := fun x => if D x = true then H x else f x

/-- A step of a region. -/
def StepS (E : Env) (ro : Option Nat) (nt : Nat) (all : Array Oper) (i : Nat) (o : Oper) (T : Tf) (need : Nat → Prop) (H : Hf) (frp newp : Nat → Prop) (v : SV) (D : Nat → Bool) (H' : Hf) : Prop :=
  ∀ (m : Nat) (g : Gh) (f : Hf) (T1 : Tf) (a : Act) (w : World) (K : Act → World → Prop) (Q : Exit → Act → World → Prop), EnvOK E g → FR g nt T1 a.tmps → HR g f w → (∀ t ∈ o.looksAt all, T1 t = T t) → (∀ x, need x → f x = H x) → (∀ x, frp x → g.ρ x = none) →
    (∀ r w' g', FR g' nt (putT T1 o.dst v) (a.put o.dst r).tmps → HR g' (mixF D H' f) w' → Fr g f w g' (mixF D H' f) w' → (∀ x, ¬ newp x → g'.ρ x = g.ρ x) → K (a.put o.dst r) w') →
    wpOpIn (fro ro) m E.P all Q i K a w

theorem operands_look {all : Array Oper} {o : Oper} {T T1 : Tf} (h : ∀ t ∈ o.looksAt all, T1 t = T t) : ∀ x ∈ o.op.operands.toList, valA T1 x = valA T x := fun x hx => valA_congr fun t ht => h t (by
  subst ht
  exact List.mem_append_left _ (List.mem_filterMap.2 ⟨.tmp t, hx, rfl⟩))
theorem wantedA_congr {all : Array Oper} {o : Oper} {T T1 : Tf} (h : ∀ t ∈ o.looksAt all, T1 t = T t) : wantedA all.toList o T1 = wantedA all.toList o T := by
  unfold wantedA
  cases hg : o.guard with
  | none => rfl
  | some p =>
    show wantedG all.toList T1 p.1 p.2 = wantedG all.toList T p.1 p.2
    unfold wantedG
    rw [nthDst_eq, Array.getElem?_toList]
    cases hd : (all[p.1]?).bind (·.dst) with
    | none => rfl
    | some t =>
      show bind1 (T1 t) _ = bind1 (T t) _
      rw [h t (by simp [Oper.looksAt, hg, hd])]

theorem upsF_mix : ∀ (us : List Up) (H f : Hf) (x : Nat), upsF f us x = if x ∈ us.map (·.1) then upsF H us x else f x
  | [], H, f, x => by simp [upsF]
  | u :: us, H, f, x => by
    show upsF (upF f u) us x = if x ∈ (u :: us).map (·.1) then upsF (upF H u) us x else f x
    rw [upsF_mix us (upF H u) (upF f u) x]
    by_cases h1 : x ∈ us.map (·.1)
    · rw [if_pos h1, if_pos (by simp at h1 ⊢; exact .inr h1)]
    · rw [if_neg h1]
      by_cases h2 : x = u.1
      · rw [if_pos (by simp [h2])]
        rw [upsF_mix us (upF f u) (upF H u) x, if_neg h1]
        simp [upF, h2]
      · rw [if_neg (by simp at h1 ⊢; exact ⟨h2, h1⟩)]
        simp [upF, h2]

theorem about_true {ro : Option Nat} {o : Oper} {a : Act} (P : Program) (w : World) : ∀ k, o.about P w a.eval = some k → (fro ro).fn k := fun _ _ => trivial

/-- A simple operation. -/
theorem step_simple {ro : Option Nat} {nt : Nat} {all : Array Oper} {i : Nat} {o : Oper} {T : Tf} {H : Hf} {new : Nat} {v : SV} {us : List Up} (hi : all[i]? = some o) (hw : wantedA all.toList o T = some true) (hd : dstOk nt o.dst = true)
    (ho : opA E o.op T H new = some (v, us)) (hH : H new = none) {D : Nat → Bool} (hD : ∀ x, D x = true ↔ (x ∈ us.map (·.1) ∨ x = new)) (hnd : ∀ c, o.op ≠ .defer c) :
    StepS E ro nt all i o T (fun x => x ∈ readsOf o.op T) H (fun x => x = new) (fun x => x = new ∧ us ≠ []) v D (upsF H us) := by
  intro m g f T1 a w K Q hE hfr hr hT hneed hnew hk
  have e1 : opA E o.op T1 f new = some (v, us) := by
    rw [← ho]
    refine (opA_congr (fun x hx => (operands_look hT x hx).symm) (fun id hid => (hneed id hid).symm)).symm
  have hn := hnew new rfl
  obtain ⟨r, w', g', hrun, hp⟩ := opA_spec hE hr hfr hn e1
  have hmix : upsF f us = mixF D (upsF H us) f := by
    funext x
    unfold mixF
    rw [upsF_mix us H f x]
    by_cases h1 : x ∈ us.map (·.1)
    · rw [if_pos h1, if_pos ((hD x).2 (.inl h1))]
    · rw [if_neg h1]
      by_cases h2 : x = new
      · rw [if_pos ((hD x).2 (.inr h2)), upsF_mix us f H x, if_neg h1, h2, hH, hr.none_of hn]
      · rw [if_neg (fun h => by rcases (hD x).1 h with h | h; exact h1 h; exact h2 h)]
  have hkk := hk r w' g' ((hfr.mono hp.fr.le).put hd hp.val) (hmix ▸ hp.hr) (hmix ▸ hp.fr) (fun x hx => by
    by_cases hu : us = []
    · rw [hp.nil hu]
    · exact hp.ro x (fun he => hx ⟨he, hu⟩))
  unfold wpOpIn
  rw [hi]
  simp only
  rw [if_pos (wanted_spec hfr (by rw [wantedA_congr hT]; exact hw))]
  refine ⟨about_true E.P w, ?_⟩
  rw [Oper.semAt_eq _ _ _ hnd]
  rcases hrun with h1 | ⟨h1, rfl⟩
  · rw [h1]; exact hkk
  · rw [h1]; exact hkk

/-- An operation that is not wanted. -/
theorem step_skip {ro : Option Nat} {nt : Nat} {all : Array Oper} {i : Nat} {o : Oper} {T : Tf} {H : Hf} {new : Nat} (hi : all[i]? = some o) (hw : wantedA all.toList o T = some false) (hd : dstOk nt o.dst = true) (hH : H new = none) {D : Nat → Bool} (hD : ∀ x, D x = true ↔ x = new) :
    StepS E ro nt all i o T (fun _ => False) H (fun x => x = new) (fun _ => False) (.tup []) D H := by
  intro m g f T1 a w K Q hE hfr hr hT hneed hnew hk
  have hn := hnew new rfl
  have hmix : f = mixF D H f := by
    funext x
    unfold mixF
    by_cases h2 : x = new
    · rw [if_pos ((hD x).2 h2), h2, hH, hr.none_of hn]
    · rw [if_neg (fun h => h2 ((hD x).1 h))]
  have hkk := hk undef w g (hfr.put hd (.tup .nil)) (hmix ▸ hr) (hmix ▸ Fr.refl g f w) (fun _ _ => rfl)
  unfold wpOpIn
  rw [hi]
  simp only
  have hwn := wanted_spec hfr (by rw [wantedA_congr hT]; exact hw)
  rw [if_neg (by rw [hwn]; simp)]
  exact ⟨about_true E.P w, hkk⟩

/-! ### calls -/
/-- A value is called. -/
def CallW (P : Program) (m : Nat) (u : Value) (us : Array Value) (w : World) (K : Ending → World → Prop) : Prop :=
  ∃ d, (Deferred.ofValue u us).run P w = .ok d w ∧
    ((∃ k as, (invoke d.target d.args).run P w = .ok (.enter k as) w ∧ CallsIn Fence.wide m P k as w K) ∨
     (∃ l k tmps as bo, (invoke d.target d.args).run P w = .ok (.round l k tmps as bo) w ∧ RoundIn Fence.wide m P l k tmps as bo w K) ∨
     (∃ r w', (invoke d.target d.args).run P w = .ok (.value r) w' ∧ K (.returned r) w'))
theorem CallW.mono {P : Program} {m : Nat} {u : Value} {us : Array Value} {w : World} {K K' : Ending → World → Prop} (h : CallW P m u us w K) (hk : ∀ e w', K e w' → K' e w') : CallW P m u us w K' := by
  obtain ⟨d, h1, h2⟩ := h
  refine ⟨d, h1, ?_⟩
  rcases h2 with ⟨k, as, q1, q2⟩ | ⟨l, k, t, as, bo, q1, q2⟩ | ⟨r, w', q1, q2⟩
  · exact .inl ⟨k, as, q1, CallsIn.mono q2 hk⟩
  · exact .inr (.inl ⟨l, k, t, as, bo, q1, RoundIn.mono q2 hk⟩)
  · exact .inr (.inr ⟨r, w', q1, hk _ _ q2⟩)

/-- How a call ends. -/
def endR' (pan : Bool) (u : Value) : Ending := if pan = true then .panicked [{ v := u, recovered := false }] else .returned u

/-- What lies behind a way of a call. -/
def PostR (g : Gh) (H : Hf) (w : World) (nx : Nat) (r : Rs) (e : Ending) (w' : World) : Prop :=
  ∃ u g', e = endR' r.pan u ∧ VR g' u r.v ∧ HR g' r.h.hp.get w' ∧ Fr g H w g' r.h.hp.get w' ∧ (∀ x, x < nx → g'.ρ x = g.ρ x) ∧ ∀ x, r.h.nx ≤ x → g'.ρ x = none

/-- What a call does: one of these ways is taken. -/
def SemCalls (E : Env) (fv : SV) (as : List SV) (H : Hf) (nx : Nat) (l : List Rs) : Prop :=
  ∀ (m : Nat) (g : Gh) (w : World) (u : Value) (us : List Value), EnvOK E g → HR g H w → (∀ x, nx ≤ x → g.ρ x = none) → VR g u fv → VRs g us as →
    CallW E.P m u us.toArray w fun e w' => ∃ r ∈ l, PostR g H w nx r e w'

/-- One way. -/
def SemCall (E : Env) (pan : Bool) (fv : SV) (as : List SV) (H : Hf) (nx : Nat) (v : SV) (H' : Hf) (nx' : Nat) : Prop :=
  ∀ (m : Nat) (g : Gh) (w : World) (u : Value) (us : List Value), EnvOK E g → HR g H w → (∀ x, nx ≤ x → g.ρ x = none) → VR g u fv → VRs g us as →
    CallW E.P m u us.toArray w fun e w' => ∃ r, e = endR' pan r ∧ ∃ g', VR g' r v ∧ HR g' H' w' ∧ Fr g H w g' H' w' ∧ (∀ x, x < nx → g'.ρ x = g.ρ x) ∧ ∀ x, nx' ≤ x → g'.ρ x = none
theorem SemCalls.one {fv : SV} {as : List SV} {H : Hf} {nx : Nat} {r : Rs} (h : SemCalls E fv as H nx [r]) : SemCall E r.pan fv as H nx r.v r.h.hp.get r.h.nx :=
  fun m g w u us hE hr hnx hu hus => (h m g w u us hE hr hnx hu hus).mono fun e w' ⟨r', hm, u', g', q1, q2, q3, q4, q5, q6⟩ => by
    obtain rfl := List.mem_singleton.1 hm
    exact ⟨u', q1, g', q2, q3, q4, q5, q6⟩

/-- The rest of the heap stays. -/
theorem frame_heap {H H' : Hf} {g' : Gh} {w' : World} {nx : Nat} {D : Nat → Bool} (hr : HR g f w) (hsub : ∀ x o, H x = some o → f x = some o) (hfresh : ∀ x, nx ≤ x → g.ρ x = none) (hr' : HR g' H' w') (hf : Fr g H w g' H' w') (hro : ∀ x, x < nx → g'.ρ x = g.ρ x)
    (hD : ∀ x, D x = false → x < nx → H' x = H x) (hD2 : ∀ x, D x = false → nx ≤ x → H' x = none) : HR g' (mixF D H' f) w' ∧ Fr g f w g' (mixF D H' f) w' := by
  have hfn : ∀ x, nx ≤ x → f x = none := fun x hx => hr.none_of (hfresh x hx)
  -- a number that the call does not see
  have other : ∀ x o, D x = false → f x = some o → H x = none → ∃ b c, g.ρ x = some (b, c) ∧ b < w.heap.size ∧ OR g w x b c o ∧ ¬ Mine g H b := by
    intro x o hd hx hn
    obtain ⟨b, c, q1, q2, q3⟩ := hr.ob x o hx
    refine ⟨b, c, q1, q2, q3, fun ⟨id, o', c', h1, h2⟩ => ?_⟩
    have := hr.inj id x o' o b c' c (hsub id o' h1) hx h2 q1
    subst this
    rw [hn] at h1; simp at h1
  have lt_of : ∀ x o, f x = some o → x < nx := fun x o hx => by
    by_cases h : nx ≤ x
    · rw [hfn x h] at hx; simp at hx
    · omega
  have cls : ∀ x o, mixF D H' f x = some o → H' x = some o ∨ (D x = false ∧ f x = some o ∧ H x = none) := by
    intro x o hx
    unfold mixF at hx
    split at hx
    · exact .inl hx
    · rename_i hd
      have hd : D x = false := by simpa using hd
      cases hh : H x with
      | none => exact .inr ⟨hd, hx, rfl⟩
      | some o' =>
        have := hsub x o' hh
        rw [hx] at this
        cases this
        exact .inl ((hD x hd (lt_of x o hx)).trans hh)
  refine ⟨⟨fun x o hx => ?_, fun i j x y b c d hx hy e1 e2 => ?_⟩, ⟨hf.os, hf.tape, hf.output, hf.size, hf.le, fun b hb hn => hf.old b hb (fun ⟨id, o, c, h1, h2⟩ => hn ⟨id, o, c, hsub id o h1, h2⟩), fun b hb hm => ?_⟩⟩
  · rcases cls x o hx with h1 | ⟨h1, h2, h3⟩
    · exact hr'.ob x o h1
    · obtain ⟨b, c, q1, q2, q3, q4⟩ := other x o h1 h2 h3
      exact ⟨b, c, (hro x (lt_of x o h2)).trans q1, Nat.lt_of_lt_of_le q2 hf.size, q3.mono hf.le q1 (hf.old b q2 q4)⟩
  · have clash : ∀ p q z z' b c d, H' p = some z → D q = false → f q = some z' → H q = none → g'.ρ p = some (b, c) → g'.ρ q = some (b, d) → False := by
      intro p q z z' b c d h1 h2 h3 h4 e1 e2
      obtain ⟨b', c', q1, q2, q3, q4⟩ := other q z' h2 h3 h4
      rw [hro q (lt_of q z' h3), q1] at e2
      cases e2
      exact q4 (hf.own _ q2 ⟨p, z, c, h1, e1⟩)
    rcases cls i x hx with h1 | ⟨h1, h2, h3⟩ <;> rcases cls j y hy with k1 | ⟨k1, k2, k3⟩
    · exact hr'.inj i j x y b c d h1 k1 e1 e2
    · exact (clash i j x y b c d h1 k1 k2 k3 e1 e2).elim
    · exact (clash j i y x b d c k1 h1 h2 h3 e2 e1).elim
    · rw [hro i (lt_of i x h2)] at e1
      rw [hro j (lt_of j y k2)] at e2
      exact hr.inj i j x y b c d h2 k2 e1 e2
  · obtain ⟨x, o, c, hx, e⟩ := hm
    rcases cls x o hx with h1 | ⟨h1, h2, h3⟩
    · obtain ⟨id, o', c', q1, q2⟩ := hf.own b hb ⟨x, o, c, h1, e⟩
      exact ⟨id, o', c', hsub id o' q1, q2⟩
    · rw [hro x (lt_of x o h2)] at e
      exact ⟨x, o, c, h2, e⟩

/-- An operation that calls. -/
theorem op_call {ro : Option Nat} {nt : Nat} {all : Array Oper} {i : Nat} {o : Oper} {c : Call} {T T1 : Tf} {H : Hf} {fv : SV} {as : List SV} {nx m : Nat} {a : Act} {KE : Ending → World → Prop} {K : Act → World → Prop} {Q : Exit → Act → World → Prop} (hi : all[i]? = some o) (hw : wantedA all.toList o T = some true)
    (hop : o.op = .call c) (hc : calleeV T c.callee = some fv) (has : vals T c.args.toList = some as) (hfr : FR g nt T1 a.tmps) (hT : ∀ t ∈ o.looksAt all, T1 t = T t)
    (hs : ∀ (u : Value) (us : List Value), VR g u fv → VRs g us as → CallW E.P (m - 1) u us.toArray w KE) (hk : ∀ e w', KE e w' → ∃ pan r, e = endR' pan r ∧ (pan = false → K (a.put o.dst r) w') ∧ (pan = true → Q (.panic [{ v := r, recovered := false }]) a w')) :
    wpOpIn (fro ro) m E.P all Q i K a w := by
  obtain ⟨x, hx⟩ : ∃ x, c.callee = .value x := by
    cases hcc : c.callee with
    | value x => exact ⟨x, rfl⟩
    | _ => rw [hcc] at hc; cases hc
  have hopr := operands_look hT
  rw [hop] at hopr
  have hfv : valA T1 x = some fv := by
    rw [hopr x (by simp [Op.operands, Call.operands, hx])]
    rw [hx] at hc
    exact hc
  have hva : vals T1 c.args.toList = some as := by
    rw [← has]
    exact vals_congr fun y hy => hopr y (by simp [Op.operands, Call.operands, hx]; exact .inr (by simpa using hy))
  have hu := valA_spec hfr hfv
  have hus := vals_spec hfr hva
  obtain ⟨d, hd1, hd2⟩ := hs (a.eval x) (c.args.toList.map a.eval) hu hus
  have hres : (resolve a.eval c o.type).run E.P w = .ok d w := by
    simp only [resolve, hx]
    have : c.args.map a.eval = (c.args.toList.map a.eval).toArray := arr_list (by simp)
    rw [this]
    exact hd1
  have fin : ∀ e w', KE e w' → (match e, w' with
      | .returned v, w'' => K (a.put o.dst v) w''
      | .panicked chain, w'' => Q (.panic chain) a w''
      | .outgrown, _ => LetsOut Q) := by
    intro e w' he
    obtain ⟨pan, r, rfl, h1, h2⟩ := hk e w' he
    cases pan with
    | false => exact h1 rfl
    | true => exact h2 rfl
  unfold wpOpIn
  rw [hi]
  simp only
  rw [if_pos (wanted_spec hfr (by rw [wantedA_congr hT]; exact hw))]
  refine ⟨about_true E.P w, ?_⟩
  rw [Oper.semAt_eq _ _ _ (fun c' h => by rw [hop] at h; cases h)]
  have hex : (execOp a.eval o).run E.P w = (invoke d.target d.args).run E.P w := by
    simp only [execOp, hop, Sem.run_bind, hres, Result.andThen_ok]
  rw [hex]
  rcases hd2 with ⟨k, as', h1, h2⟩ | ⟨l, k, tmps, as', bo, h1, h2⟩ | ⟨r, w', h1, h2⟩
  · rw [h1]
    refine ⟨fun h => by simp [fro] at h, ?_⟩
    refine CallsIn.mono (F := fro ro) (show CallsIn (fro ro) (m - 1) E.P k as' w _ from h2) ?_
    intro e w' he
    have := fin e w' he
    cases e <;> exact this
  · rw [h1]
    refine ⟨fun h => by simp [fro] at h, ?_⟩
    refine RoundIn.mono (F := fro ro) (show RoundIn (fro ro) (m - 1) E.P l k tmps as' bo w _ from h2) ?_
    intro e w' he
    have := fin e w' he
    cases e <;> exact this
  · rw [h1]
    exact fin _ w' h2

theorem step_call {ro : Option Nat} {nt : Nat} {all : Array Oper} {i : Nat} {o : Oper} {c : Call} {T : Tf} {H H' : Hf} {fv v : SV} {as : List SV} {nx nx' : Nat} (hi : all[i]? = some o) (hw : wantedA all.toList o T = some true) (hd : dstOk nt o.dst = true)
    (hop : o.op = .call c) (hc : calleeV T c.callee = some fv) (has : vals T c.args.toList = some as) (hs : SemCall E false fv as H nx v H' nx') {D : Nat → Bool} (hD : ∀ x, D x = false → x < nx → H' x = H x) (hD2 : ∀ x, D x = false → nx ≤ x → H' x = none) :
    StepS E ro nt all i o T (fun x => H x ≠ none) H (fun x => nx ≤ x) (fun x => nx ≤ x ∧ x < nx') v D H' := by
  intro m g f T1 a w K Q hE hfr hr hT hneed hnew hk
  have hsub : ∀ x y, H x = some y → f x = some y := fun x y hx => by rw [hneed x (by show H x ≠ none; rw [hx]; simp), hx]
  have hr0 : HR g H w := hr.sub hsub
  refine op_call (g := g) (H := H) (nx := nx) hi hw hop hc has hfr hT (fun u us hu hus => hs (m - 1) g w u us hE hr0 (fun y hy => hnew y hy) hu hus) ?_
  rintro e w' ⟨r, rfl, g', h1, h2, h3, h4, h5⟩
  refine ⟨false, r, rfl, fun _ => ?_, fun h => by cases h⟩
  obtain ⟨q1, q2⟩ := frame_heap hr hsub (fun y hy => hnew y hy) h2 h3 h4 hD hD2
  exact hk r w' g' ((hfr.mono h3.le).put hd h1) q1 q2 (fun x hx => by
    by_cases hl : x < nx
    · exact h4 x hl
    · rw [h5 x (by omega), hnew x (by show nx ≤ x; omega)])

end Go.Sim
