/- Soundness: calls; the run. -/
import Derived.Test.YtjeenahnkcgfcaaGreatDoorSim22
import Derived.RecoverIn
set_option linter.unusedVariables false
set_option linter.unusedSimpArgs false
namespace Go.Sim
open Go.RowKit

variable {E : Env} {g : Gh} {f : Hf} {w : World}

/-- The world grows; what was there stays. -/
theorem HR.grow (h : HR g f w) {w' : World} (hsz : w.heap.size ≤ w'.heap.size) (hs : ∀ b, b < w.heap.size → w'.heap[b]? = w.heap[b]?) : HR g f w' :=
  ⟨fun id o ho => let ⟨b, c, q1, q2, q3⟩ := h.ob id o ho; ⟨b, c, q1, Nat.lt_of_lt_of_le q2 hsz, q3.mono (.refl _) q1 (hs b q2)⟩, h.inj⟩

/-- A block is given up and written for the last time. -/
theorem HR.drop (h : HR g f w) {d r c : Nat} {o : SO} {w' : World} (hd : f d = some o) (hρ : g.ρ d = some (r, c)) (hsz : w'.heap.size = w.heap.size) (hoth : ∀ k, k ≠ r → w'.heap[k]? = w.heap[k]?) (h1 : w'.os = w.os) (h2 : w'.tape = w.tape) (h3 : w'.output = w.output) :
    HR g (upF f (d, none)) w' ∧ Fr g f w g (upF f (d, none)) w' := by
  have key : ∀ k z, upF f (d, none) k = some z → k ≠ d ∧ f k = some z := by
    intro k z hz
    simp only [upF] at hz
    split at hz
    · simp at hz
    · rename_i hk; exact ⟨hk, hz⟩
  refine ⟨⟨fun id x hx => ?_, fun i j x y b c d hx hy e1 e2 => h.inj i j x y b c d (key i x hx).2 (key j y hy).2 e1 e2⟩, ⟨h1, h2, h3, by omega, .refl _, fun b hb hn => hoth b (fun e => hn (by subst e; exact ⟨d, o, c, hd, hρ⟩)), fun b hb ⟨j, x, c', hx, hj⟩ => ⟨j, x, c', (key j x hx).2, hj⟩⟩⟩
  obtain ⟨hne, hx⟩ := key id x hx
  obtain ⟨b, c', q1, q2, q3⟩ := h.ob id x hx
  refine ⟨b, c', q1, by omega, q3.mono (.refl _) q1 (hoth b (fun e => ?_))⟩
  subst e
  exact hne (h.inj id d x o b c' c hx hd q1 hρ)

/-! ### the results -/
def resF (a : Act) : ResultVar → Go.Sem Value
  | .tmp t => pure (a.tmps.getD t undef)
  | .cell k t => do loadVar t (← asAddr (a.tmps.getD k undef))

theorem resVar_spec (hE : EnvOK E g) (h : HR g f w) {nt : Nat} {T : Tf} {a : Act} (hfr : FR g nt T a.tmps) {rv : ResultVar} {x : SV} (hx : resVar E T f rv = some x) : ∃ v, (resF a rv).run E.P w = .ok v w ∧ VR g v x := by
  cases rv with
  | tmp t => exact ⟨_, rfl, hfr.tm t x hx⟩
  | cell k t =>
    obtain ⟨y, hy, hl⟩ := bind1_some (show bind1 (T k) (loadA E f t) = some x from hx)
    have hu := hfr.tm k y hy
    obtain ⟨v, hv, hvr⟩ := loadA_spec hE h hu hl
    obtain ⟨q, h1, _⟩ := bind1_some hl
    obtain rfl := ptrOf_some h1
    refine ⟨v, ?_, hvr⟩
    generalize hz : a.tmps.getD k undef = z at hu hv
    cases hu with
    | ptr hρ =>
      simp only [Instr.loadAt, Instr.sureAddr, Sem.run_bind, Sem.run_pure, Result.andThen_ok] at hv
      simp only [resF, hz, asAddr, Sem.run_bind, Sem.run_pure, Result.andThen_ok]
      exact hv

theorem resVars_spec (hE : EnvOK E g) (h : HR g f w) {nt : Nat} {T : Tf} {a : Act} (hfr : FR g nt T a.tmps) : ∀ {rvs : List ResultVar} {xs : List SV}, resVars E T f rvs = some xs → ∃ vs, (rvs.mapM (resF a)).run E.P w = .ok vs w ∧ VRs g vs xs
  | [], xs, hx => by cases hx; exact ⟨[], by simp, .nil⟩
  | rv :: rvs, xs, hx => by
    obtain ⟨x, l, h1, h2, hx⟩ := bind2_some (show bind2 (resVar E T f rv) (resVars E T f rvs) (fun v l => some (v :: l)) = some xs from hx)
    cases hx
    obtain ⟨v, hv1, hv2⟩ := resVar_spec hE h hfr h1
    obtain ⟨vs, hs1, hs2⟩ := resVars_spec hE h hfr h2
    refine ⟨v :: vs, ?_, .cons hv2 hs2⟩
    rw [List.mapM_cons]
    simp only [Sem.run_bind]
    rw [hv1]
    simp only [Result.andThen_ok]
    rw [hs1]
    simp

theorem results_spec (hE : EnvOK E g) (h : HR g f w) {fn : Func} {nt : Nat} {T : Tf} {a : Act} (hfr : FR g nt T a.tmps) {xs : List SV} (hx : resVars E T f fn.results.toList = some xs) : ∃ v, (results fn a.tmps).run E.P w = .ok v w ∧ VR g v (oneOf xs) := by
  obtain ⟨vs, h1, h2⟩ := resVars_spec hE h hfr hx
  refine ⟨if h : vs.toArray.size = 1 then vs.toArray[0] else .tuple vs.toArray, ?_, ?_⟩
  · have e : ∀ f : ResultVar → Go.Sem Value, (∀ x, f x = resF a x) → fn.results.mapM f = fn.results.mapM (resF a) := fun f hf => by rw [funext hf]
    unfold results
    rw [e _ (fun x => by cases x <;> rfl)]
    rw [← Array.toArray_toList (xs := fn.results), List.mapM_toArray]
    simp only [Sem.run_bind, Sem.run_map]
    rw [h1]
    simp
  · cases h2 with
    | nil => exact .tup (by simpa using .nil)
    | @cons v x vs' xs' hv ht =>
      cases ht with
      | nil => simpa [oneOf] using hv
      | @cons v2 x2 vs2 xs2 hv2 ht2 =>
        have : ¬ (v :: v2 :: vs2).toArray.size = 1 := by simp
        rw [dif_neg this]
        exact .tup (by simpa using .cons hv (.cons hv2 ht2))

/-! ### arguments -/
theorem setArgs_get : ∀ (vs : List SV) (i : Nat) (t : Tr SV) (j : Nat), (setArgs vs i t).get j = if i ≤ j ∧ j < i + vs.length then vs[j - i]? else t.get j
  | [], i, t, j => by
    have : ¬ (i ≤ j ∧ j < i + ([] : List SV).length) := by simp
    rw [if_neg this]; rfl
  | v :: vs, i, t, j => by
    have e : setArgs (v :: vs) i t = setArgs vs (i + 1) (t.set i (some v)) := rfl
    rw [e, setArgs_get vs (i + 1) _ j, Tr.get_set]
    by_cases h1 : j = i
    · subst h1
      rw [if_neg (by omega), if_pos rfl, if_pos (by simp)]
      simp
    · by_cases h2 : i + 1 ≤ j ∧ j < i + 1 + vs.length
      · rw [if_pos h2, if_pos (by simp; omega)]
        have : j - i = (j - (i + 1)) + 1 := by omega
        rw [this, List.getElem?_cons_succ]
      · rw [if_neg h2, if_neg h1, if_neg (by simp; omega)]

theorem FR.args {us : List Value} {as : List SV} (h : VRs g us as) {nt : Nat} (hn : as.length ≤ nt) : FR g nt (setArgs as 0 .nil).get (us.toArray ++ Array.replicate (nt - us.toArray.size) undef) := by
  have hl := h.length
  refine ⟨by simp; omega, fun t x hx => ?_⟩
  rw [setArgs_get] at hx
  split at hx
  · rename_i hc
    obtain ⟨v, h1, h2⟩ := h.get hx
    have hlt : t < us.length := by omega
    have e : (us.toArray ++ Array.replicate (nt - us.toArray.size) undef).getD t undef = v := by
      rw [Array.getD_eq_getD_getElem?, Array.getElem?_append_left (by simpa using hlt)]
      simp only [Nat.sub_zero] at h1
      simp [h1]
    rw [e]; exact h2
  · cases hx

theorem setParams_spec {nt : Nat} : ∀ {ps : List Nat} {as : List SV} {tm tm1 : Tr SV} {tmps : Array Value} {us : List Value}, setParams nt tm ps as = some tm1 → VRs g us as → FR g nt tm.get tmps → us.length = ps.length ∧ FR g nt tm1.get ((ps.zip us).foldl (fun tmps p => tmps.setIfInBounds p.1 p.2) tmps)
  | [], [], tm, tm1, tmps, us, h, hu, hfr => by
    cases h
    cases hu
    exact ⟨rfl, hfr⟩
  | p :: ps, v :: as, tm, tm1, tmps, us, h, hu, hfr => by
    cases hu with
    | @cons u _ us' _ hv ht =>
      obtain ⟨hp, h⟩ := sel_some (show sel (Nat.ble (Nat.succ p) nt) (setParams nt (tm.set p (some v)) ps as) none = some tm1 from h)
      have hp : p < tmps.size := by rw [hfr.sz]; exact (ble_iff _ _).1 hp
      obtain ⟨q1, q2⟩ := setParams_spec (tmps := tmps.setIfInBounds p u) h ht ⟨by simp [hfr.sz], fun t x hx => by
        rw [Tr.get_set] at hx
        split at hx
        · rename_i e; subst e; cases hx
          have : (tmps.setIfInBounds t u).getD t undef = u := by
            rw [Array.getD_eq_getD_getElem?, Array.getElem?_setIfInBounds_self_of_lt hp]; rfl
          rw [this]; exact hv
        · rename_i e
          have : (tmps.setIfInBounds p u).getD t undef = tmps.getD t undef := by
            rw [Array.getD_eq_getD_getElem?, Array.getElem?_setIfInBounds_ne (fun e' => e e'.symm), ← Array.getD_eq_getD_getElem?]
          rw [this]; exact hfr.tm t x hx⟩
      exact ⟨by simp [q1], q2⟩
  | [], _ :: _, tm, tm1, tmps, us, h, _, _ => by cases h
  | _ :: _, [], tm, tm1, tmps, us, h, _, _ => by cases h

theorem isReady_eq {s : LoopState} (h : isReady s = true) : s = .ready := by cases s <;> first | rfl | cases h
theorem isNormal_eq {e : Ex} (h : isNormal e = true) : e = .normal := by cases e <;> first | rfl | cases h

/-! ### a round -/
theorem round_code {nt nt1 nt3 l dd dd1 dd3 : Nat} {tm0 tm1 tm2 tm3 tm01 tm03 : Tr SV} {ps ps1 ps3 : List Nat} {as bo as1 bo1 as3 bo3 : Code} {pend pend1 pend3 : Option Code} {st st3 : LoopState} {h h1 h3 : Hs} {args : List SV} {e3 : Ex} (hb : Bd h)
    (hl : h.hp.get l = some (.loop nt tm0 ps as bo st pend dd)) (hp : setParams nt tm0 ps args = some tm1) (k1 : CodeS E nt as tm1 [] h [⟨.normal, tm2, [], h1⟩]) (hl1 : h1.hp.get l = some (.loop nt1 tm01 ps1 as1 bo1 .ready pend1 dd1))
    (k2 : CodeS E nt bo tm2 [] (h1.put l (.loop nt1 tm01 ps1 as1 bo1 .busy pend1 dd1)) [⟨e3, tm3, [], h3⟩]) (hnp : noPan e3 = true) (hl3 : h3.hp.get l = some (.loop nt3 tm03 ps3 as3 bo3 st3 pend3 dd3)) :
    Fac h (h3.put l (.loop nt3 tm03 ps3 as3 bo3 (sel (exJ e3).isNone .ready .done) (exJ e3) dd3)) ∧ SemCall E false (.yld l) args h.hp.get h.nx (.bool (exJ e3).isNone) (h3.put l (.loop nt3 tm03 ps3 as3 bo3 (sel (exJ e3).isNone .ready .done) (exJ e3) dd3)).hp.get h3.nx := by
  obtain ⟨_, f1, s1⟩ := k1
  have f1 : Fac h h1 := (f1 _ (List.mem_singleton.2 rfl)).1
  have fp := put_fac (o' := SO.loop nt1 tm01 ps1 as1 bo1 .busy pend1 dd1) f1.bd hl1
  obtain ⟨_, f2, s2⟩ := k2
  have f2 : Fac _ h3 := (f2 _ (List.mem_singleton.2 rfl)).1
  have f3 := put_fac (o' := SO.loop nt3 tm03 ps3 as3 bo3 (sel (exJ e3).isNone .ready .done) (exJ e3) dd3) f2.bd hl3
  refine ⟨((f1.trans fp).trans f2).trans f3, fun m g w u us hE hr hnx hu hus => ?_⟩
  cases hu with
  | @yld _ b o hρ =>
  obtain ⟨hlt, hor⟩ := hr.at hl hρ
  obtain ⟨c1, c2, r, q1, q2, q3, q4, q5, q6, q7, o', q8⟩ := hor
  obtain ⟨hlen, hfr⟩ := setParams_spec hp hus q7
  subst q4
  subst q5
  subst q6
  have hsz : us.toArray.size = r.params.size := by simpa using hlen
  have htm : ((r.params.zip us.toArray).foldl (fun tmps (t, a) => tmps.setIfInBounds t a) r.tmps) = (r.params.toList.zip us).foldl (fun tmps p => tmps.setIfInBounds p.1 p.2) r.tmps := by
    rw [← Array.foldl_toList, Array.toList_zip]
  refine ⟨{ target := .fn (.yield b) #[], args := #[] ++ us.toArray }, rfl, .inr (.inl ⟨b, r.fn, (r.params.zip us.toArray).foldl (fun tmps (t, a) => tmps.setIfInBounds t a) r.tmps, r.assign, r.body, ?_, ?_⟩)⟩
  · show (Instr.yield b (#[] ++ us.toArray)).run E.P w = _
    rw [Array.empty_append]
    exact run_yield q1 hsz
  rw [htm]
  refine roundIn_of_wpIn (F := Fence.wide) trivial (wpX_in ?_)
  refine s1 (some b) m g { tmps := _, defers := [] } w _ c1 (.inr fun o ho => by obtain rfl := List.mem_singleton.1 ho; rfl) hE hfr hr .nil hnx (fun o ho g1 a1 w1 x p0 p1 p2 p3 p4 p5 p6 => ?_)
  obtain rfl := List.mem_singleton.1 ho
  cases p0
  obtain ⟨r1, t1, t2, t3, t4, t5⟩ := HR.loop p2 hl1 (p3.le.ρ _ _ hρ) .busy pend1
  subst t3
  refine ⟨_, run_beginRound t1 t2, wpX_in ?_⟩
  rw [← put_get] at t4 t5
  refine s2 (some b) m g1 a1 _ _ c2 (.inr fun o ho => by obtain rfl := List.mem_singleton.1 ho; rfl) (hE.mono p3.le) p1 t4 p4 p5 (fun o ho g2 a2 w2 x v0 v1 v2 v3 v4 v5 v6 => ?_)
  obtain rfl := List.mem_singleton.1 ho
  obtain ⟨r2, y1, y2, y3, y4, y5⟩ := HR.loop v2 hl3 (v3.le.ρ _ _ (p3.le.ρ _ _ hρ)) (sel (exJ e3).isNone .ready .done) (exJ e3)
  rw [← put_get] at y4 y5
  have fin : ∃ v w', (Instr.endRound b (exJ e3)).run E.P w2 = .ok v w' ∧ ∃ r', Ending.returned v = endR' false r' ∧ ∃ g', VR g' r' (.bool (exJ e3).isNone) ∧ HR g' (h3.put l (.loop nt3 tm03 ps3 as3 bo3 (sel (exJ e3).isNone .ready .done) (exJ e3) dd3)).hp.get w' ∧
      Fr g h.hp.get w g' (h3.put l (.loop nt3 tm03 ps3 as3 bo3 (sel (exJ e3).isNone .ready .done) (exJ e3) dd3)).hp.get w' ∧ (∀ x, x < h.nx → g'.ρ x = g.ρ x) ∧ ∀ x, h3.nx ≤ x → g'.ρ x = none := by
    refine ⟨_, _, run_endRound _ y1, _, rfl, g2, .bool _, ?_, ?_, fun x hx => ?_, v5⟩
    · rw [sel_if] at y4 ⊢; exact y4
    · rw [sel_if] at y5 ⊢; exact ((p3.trans t5).trans v3).trans y5
    · rw [v6 x (Nat.lt_of_lt_of_le hx f1.nx), p6 x hx]
  cases v0 with
  | normal => exact fin
  | ret => exact fin
  | exit id => exact fin
  | pan hv => cases hnp

/-- One way, as the machine has it. -/
theorem SemCall.calls {pan : Bool} {fv : SV} {as : List SV} {H : Hf} {nx : Nat} {v : SV} {h' : Hs} (h : SemCall E pan fv as H nx v h'.hp.get h'.nx) : SemCalls E fv as H nx [⟨pan, v, h'⟩] :=
  fun m g w u us hE hr hnx hu hus => (h m g w u us hE hr hnx hu hus).mono fun e w' ⟨r, q1, g', q2, q3, q4, q5, q6⟩ => ⟨_, List.mem_singleton.2 rfl, r, g', q1, q2, q3, q4, q5, q6⟩
theorem call_one {fv : SV} {as : List SV} {h : Hs} {r : Rs} (h1 : Bd h → Fac h r.h ∧ SemCall E r.pan fv as h.hp.get h.nx r.v r.h.hp.get r.h.nx) : Sound E (.call fv as h) (.ress [r]) := by
  intro hb
  obtain ⟨q1, q2⟩ := h1 hb
  refine ⟨by simp, fun r' hr => ?_, q2.calls⟩
  obtain rfl := List.mem_singleton.1 hr
  exact q1

theorem oneC_inv {r : Out} {k : Ex → Tr SV → List Dm → Hs → Out} {Q : Out → Prop} (hf : ∀ s, Q (.fail s)) (ht : ∀ a b c, Q (.trap a b c)) (hr : ∀ e tm mk h, r = .code e tm mk h → Q (k e tm mk h)) : Q (oneC r k) := by
  cases r with
  | codes l =>
    cases l with
    | nil => exact hf _
    | cons o l =>
      cases l with
      | nil => exact hr o.e o.tm o.dm o.h rfl
      | cons _ _ => exact hf _
  | fail s => exact hf _
  | trap a b c => exact ht _ _ _
  | _ => exact hf _

theorem yield_sound {rec : Job → Out} (hrec : ∀ j, Sound E j (rec j)) (l : Nat) (as : List SV) (h : Hs) : Sound E (.call (.yld l) as h) (yieldK rec l (h.hp.get l) as h) := by
  unfold yieldK
  split
  rotate_left
  · trivial
  rename_i nt tm0 ps as' bo st pend dd hl
  rw [sel_if]
  split
  rotate_left
  · trivial
  unfold roundK
  split
  · trivial
  rename_i tm1 hp
  refine oneC_inv (Q := Sound E _) (fun _ => trivial) (fun _ _ _ => trivial) (fun e tm2 mk2 h1 he => ?_)
  have hs1 := hrec (.code nt as' tm1 [] h)
  rw [he] at hs1
  rw [sel_if]
  split
  rotate_left
  · trivial
  rename_i hn
  obtain rfl := isNormal_eq hn
  unfold bodyK
  split
  rotate_left
  · trivial
  rename_i nt1 tm01 ps1 as1 bo1 st1 pend1 dd1 hl1
  split
  rotate_left
  · trivial
  rw [sel_if]
  split
  rotate_left
  · trivial
  rename_i hrd
  obtain rfl := isReady_eq hrd
  unfold roundEnd
  refine oneC_inv (Q := Sound E _) (fun _ => trivial) (fun _ _ _ => trivial) (fun e3 tm3 mk3 h3 he3 => ?_)
  have hs2 := hrec (.code nt bo tm2 [] (h1.put l (.loop nt1 tm01 ps1 as1 bo1 .busy pend1 dd1)))
  rw [he3] at hs2
  split
  rotate_left
  · trivial
  rw [sel_if]
  split
  rotate_left
  · trivial
  rename_i hnp
  unfold finK
  split
  rotate_left
  · trivial
  rename_i nt3 tm03 ps3 as3 bo3 st3 pend3 dd3 hl3
  refine call_one (fun hb => ?_)
  have k1 := hs1 hb
  exact round_code hb hl hp k1 hl1 (hs2 (put_fac (k1.2.1 _ (List.mem_singleton.2 rfl)).1.bd hl1).bd) hnp hl3

/-! ### the end of a function -/
/-- The mode of a frame on its way out. -/
def URel (g : Gh) (u : Option SV) (um : FrameMode) : Prop :=
  match u with
  | none => um = .returning
  | some v => ∃ x, um = .panicking [{ v := x, recovered := false }] ∧ VR g x v
theorem URel.mono {g g' : Gh} (hle : g.le g') {u : Option SV} {um : FrameMode} (h : URel g u um) : URel g' u um := by
  cases u with
  | none => exact h
  | some v => obtain ⟨x, h1, h2⟩ := h; exact ⟨x, h1, h2.mono hle⟩
theorem URel.ne_run {u : Option SV} {um : FrameMode} (h : URel g u um) : um ≠ .run := by
  cases u with
  | none => rw [show um = .returning from h]; simp
  | some v => obtain ⟨x, h1, _⟩ := h; rw [h1]; simp

theorem isRecover_some {o : Oper} (h : isRecover o = true) : ∃ c, o.op = .call c ∧ c.callee = .builtin .recover ∧ o.guard = none := by
  unfold isRecover at h
  split at h
  · rename_i c hop hg
    split at h
    · rename_i hc; exact ⟨c, hop, hc, hg⟩
    · cases h
  · cases h

/-- A region of a deferred function that begins with 'recover'. -/
theorem wpSIn_region_recover {n : Nat} {P : Program} {id : Nat} {ops : Array Oper} {Q : Exit → Act → List Frame → World → Prop} {a : Act} {cs cs' : List Frame} {w : World} {o : Oper} {v : Value} (ho : ops[0]? = some o) (hrc : isRecover o = true)
    (hv : recoverD cs = some (v, cs') ∨ (recoverD cs = none ∧ v = .nilIface ∧ cs' = cs)) (h : wpOpsIn (fro none) n P ops (fun e a' w' => Q e a' cs' w') (List.range' 1 (ops.size - 1)) (a.put o.dst v) w) : (Code.region id ops false).wpSIn Fence.wide n P Q a cs w := by
  intro b k hb hro hF hroom
  obtain ⟨c, hop, hcal, hg⟩ := isRecover_some hrc
  have hlen : cs'.length = cs.length := by
    rcases hv with hv | ⟨_, _, rfl⟩
    · exact recoverD_length hv
    · rfl
  have hsz : 0 < ops.size := by
    by_cases h0 : 0 < ops.size
    · exact h0
    · rw [Array.getElem?_eq_none (by omega)] at ho; cases ho
  have hrange : List.range ops.size = 0 :: List.range' 1 (ops.size - 1) := by
    rw [List.range_eq_range']
    have : ops.size = (ops.size - 1) + 1 := by omega
    rw [this, List.range'_succ]
    rfl
  have hwant : Region.wanted o (yielded ops a.tmps) = true := by simp [Region.wanted, hg]
  have h0 : (lone (b.atR a (.inRegion ops (0 :: List.range' 1 (ops.size - 1)) :: k)) cs w).fenced P Fence.wide := fenced_oper hF hroom ho (fun _ _ => trivial)
  have hgo := stepGR_op (P := P) (b := b) (a := a) (k := k) (cs := cs) (w := w) (rest := List.range' 1 (ops.size - 1)) ho hwant
  rw [hro, Oper.semAt_none] at hgo
  have hfin : ∀ v, (b.atR a (.inRegion ops (0 :: List.range' 1 (ops.size - 1)) :: k)).finish v = b.atR (a.put o.dst v) (.inRegion ops (List.range' 1 (ops.size - 1)) :: k) := by
    intro v; rw [Frame.finish_atR, ho]; rfl
  have hr : (execOp a.eval o).run P w = .ok .recover w := by
    simp [execOp, hop, resolve, hcal, invoke, builtin, Sem.run_bind, Sem.run, Result.andThen]
  have hk : (b.atR a (.inRegion ops (0 :: List.range' 1 (ops.size - 1)) :: k)).kind = .deferred := hb
  have htr := tryRecover_deferred hk cs
  have hstep : Go.step P (lone (b.atR a (.inRegion ops (0 :: List.range' 1 (ops.size - 1)) :: k)) cs w) = .next (lone (b.atR (a.put o.dst v) (.inRegion ops (List.range' 1 (ops.size - 1)) :: k)) cs' w) := by
    refine step_lone_go ?_
    rw [hgo, ← hfin]
    simp only [Frame.atR, hro] at htr ⊢
    rcases hv with hv | ⟨hv, rfl, rfl⟩
    · simp [stepG.apply, hr, htr, hv]
    · simp [stepG.apply, hr, htr, hv]
  obtain ⟨e, a', w', hq, harr⟩ := wp_opsIn (F := fro none) _ _ _ h b k cs' hro hF (hlen ▸ hroom)
  refine ⟨e, a', cs', w', hlen, hq, .of_steps (.head (fenced_calm (fr := b.atR a (.code (.region id ops false) :: k)) hF hroom rfl) stepR_region ?_) harr⟩
  rw [hrange]
  exact .one h0 hstep


end Go.Sim
