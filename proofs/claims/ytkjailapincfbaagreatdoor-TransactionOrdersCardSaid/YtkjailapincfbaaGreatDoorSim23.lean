/- Soundness: calls; the run. -/
import Derived.Test.YtkjailapincfbaaGreatDoorSim22
set_option linter.unusedVariables false
set_option linter.unusedSimpArgs false
namespace Go.Sim
open Go.RowKit

variable {E : Env} {g : Gh} {f : Hf} {w : World}

/-- The world grows; what was there stays. -/
theorem HR.grow (h : HR g f w) {w' : World} (hsz : w.heap.size ≤ w'.heap.size) (hs : ∀ b, b < w.heap.size → w'.heap[b]? = w.heap[b]?) : HR g f w' :=
  ⟨fun id o ho => let ⟨b, c, q1, q2, q3⟩ := h.ob id o ho; ⟨b, c, q1, Nat.lt_of_lt_of_le q2 hsz, q3.mono (.refl _) q1 (hs b q2)⟩, h.inj⟩

/-- A block is given up and written for the last time. -/
theorem HR.drop (h : HR g f w) {d r c : Nat} {o : SO} {w' : World} (hd : f d = some o) (hρ : g.ρ d = some (r, c)) (hsz : w'.heap.size = w.heap.size) (hoth : ∀ k, k ≠ r → w'.heap[k]? = w.heap[k]?) (h1 : w'.os = w.os) (h2 : w'.tape = w.tape) (h3 : w'.output = w.output) :
    HR g (upF f (d, none)) w' ∧ Fr g f w g (upF f (d, none)) w' := by
  have key : ∀ k z, upF f (d, none) k = some z → k ≠ d ∧ f k = some z := by
    intro k z hz
    simp only [upF] at hz
    split at hz
    · simp at hz
    · rename_i hk; exact ⟨hk, hz⟩
  refine ⟨⟨fun id x hx => ?_, fun i j x y b c d hx hy e1 e2 => h.inj i j x y b c d (key i x hx).2 (key j y hy).2 e1 e2⟩, ⟨h1, h2, h3, by omega, .refl _, fun b hb hn => hoth b (fun e => hn (by subst e; exact ⟨d, o, c, hd, hρ⟩)), fun b hb ⟨j, x, c', hx, hj⟩ => ⟨j, x, c', (key j x hx).2, hj⟩⟩⟩
  obtain ⟨hne, hx⟩ := key id x hx
  obtain ⟨b, c', q1, q2, q3⟩ := h.ob id x hx
  refine ⟨b, c', q1, by omega, q3.mono (.refl _) q1 (hoth b (fun e => ?_))⟩
  subst e
  exact hne (h.inj id d x o b c' c hx hd q1 hρ)

theorem killM_get : ∀ {mk : List Nat} {hp hp' : Hp}, killM mk hp = some hp' → ∀ x, hp'.get x = if x ∈ mk then none else hp.get x
  | [], hp, hp', h, x => by cases h; simp
  | d :: mk, hp, hp', h, x => by
    unfold killM at h
    split at h
    · have := killM_get h x
      rw [this, Tr.get_set]
      by_cases h1 : x ∈ mk
      · simp [h1]
      · by_cases h2 : x = d <;> simp [h1, h2]
    · cases h

theorem leaves_marks {n : Nat} {P : Program} {fn : Func} {tmps : Array Value} {R : Ending → World → Prop} : ∀ {mk : List Nat} {ds : List Deferred} {hp hp' : Hp} {w : World}, Marks g mk ds → HR g hp.get w → killM mk hp = some hp' →
    (∀ w', HR g hp'.get w' → Fr g hp.get w g hp'.get w' → LeavesIn Fence.wide n P fn tmps R [] .returning w') → LeavesInM Fence.wide n P fn tmps R ds .returning w
  | [], _, hp, hp', w, .nil, hr, hk, h => by cases hk; exact h w hr (Fr.refl _ _ _)
  | d :: mk, _, hp, hp', w, .cons (r := r) (o := o) hρ ht, hr, hk, h => by
    unfold killM at hk
    split at hk
    · rename_i hd
      obtain ⟨hlt, hor⟩ := hr.at hd hρ
      have hor : w.heap[r]? = some (.deferred (some [])) := hor
      refine ⟨by simp, .inl ⟨r, _, rfl, run_takeDeferred hor, ?_⟩⟩
      obtain ⟨q1, q2⟩ := HR.drop hr (w' := w.putObj r (.deferred none)) hd hρ (by simp) (fun k hk => World.putObj_heap_other hk) rfl rfl rfl
      have e : (hp.set d none).get = upF hp.get (d, none) := funext fun x => Tr.get_set _ _ _ _
      rw [← e] at q1 q2
      exact leaves_marks ht q1 hk (fun w' s1 s2 => h w' s1 (q2.trans s2))
    · cases hk

/-! ### the results -/
def resF (a : Act) : ResultVar → Go.Sem Value
  | .tmp t => pure (a.tmps.getD t undef)
  | .cell k t => do loadVar t (← asAddr (a.tmps.getD k undef))

theorem resVar_spec (hE : EnvOK E g) (h : HR g f w) {nt : Nat} {T : Tf} {a : Act} (hfr : FR g nt T a.tmps) {rv : ResultVar} {x : SV} (hx : resVar E T f rv = some x) : ∃ v, (resF a rv).run E.P w = .ok v w ∧ VR g v x := by
  cases rv with
  | tmp t => exact ⟨_, rfl, hfr.tm t x hx⟩
  | cell k t =>
    obtain ⟨y, hy, hl⟩ := bind1_some (show bind1 (T k) (loadA E f t) = some x from hx)
    have hu := hfr.tm k y hy
    obtain ⟨v, hv, hvr⟩ := loadA_spec hE h hu hl
    obtain ⟨q, h1, _⟩ := bind1_some hl
    obtain rfl := ptrOf_some h1
    refine ⟨v, ?_, hvr⟩
    generalize hz : a.tmps.getD k undef = z at hu hv
    cases hu with
    | ptr hρ =>
      simp only [Instr.loadAt, Instr.sureAddr, Sem.run_bind, Sem.run_pure, Result.andThen_ok] at hv
      simp only [resF, hz, asAddr, Sem.run_bind, Sem.run_pure, Result.andThen_ok]
      exact hv

theorem resVars_spec (hE : EnvOK E g) (h : HR g f w) {nt : Nat} {T : Tf} {a : Act} (hfr : FR g nt T a.tmps) : ∀ {rvs : List ResultVar} {xs : List SV}, resVars E T f rvs = some xs → ∃ vs, (rvs.mapM (resF a)).run E.P w = .ok vs w ∧ VRs g vs xs
  | [], xs, hx => by cases hx; exact ⟨[], by simp, .nil⟩
  | rv :: rvs, xs, hx => by
    obtain ⟨x, l, h1, h2, hx⟩ := bind2_some (show bind2 (resVar E T f rv) (resVars E T f rvs) (fun v l => some (v :: l)) = some xs from hx)
    cases hx
    obtain ⟨v, hv1, hv2⟩ := resVar_spec hE h hfr h1
    obtain ⟨vs, hs1, hs2⟩ := resVars_spec hE h hfr h2
    refine ⟨v :: vs, ?_, .cons hv2 hs2⟩
    rw [List.mapM_cons]
    simp only [Sem.run_bind]
    rw [hv1]
    simp only [Result.andThen_ok]
    rw [hs1]
    simp

theorem results_spec (hE : EnvOK E g) (h : HR g f w) {fn : Func} {nt : Nat} {T : Tf} {a : Act} (hfr : FR g nt T a.tmps) {xs : List SV} (hx : resVars E T f fn.results.toList = some xs) : ∃ v, (results fn a.tmps).run E.P w = .ok v w ∧ VR g v (oneOf xs) := by
  obtain ⟨vs, h1, h2⟩ := resVars_spec hE h hfr hx
  refine ⟨if h : vs.toArray.size = 1 then vs.toArray[0] else .tuple vs.toArray, ?_, ?_⟩
  · have e : ∀ f : ResultVar → Go.Sem Value, (∀ x, f x = resF a x) → fn.results.mapM f = fn.results.mapM (resF a) := fun f hf => by rw [funext hf]
    unfold results
    rw [e _ (fun x => by cases x <;> rfl)]
    rw [← Array.toArray_toList (xs := fn.results), List.mapM_toArray]
    simp only [Sem.run_bind, Sem.run_map]
    rw [h1]
    simp
  · cases h2 with
    | nil => exact .tup (by simpa using .nil)
    | @cons v x vs' xs' hv ht =>
      cases ht with
      | nil => simpa [oneOf] using hv
      | @cons v2 x2 vs2 xs2 hv2 ht2 =>
        have : ¬ (v :: v2 :: vs2).toArray.size = 1 := by simp
        rw [dif_neg this]
        exact .tup (by simpa using .cons hv (.cons hv2 ht2))

/-! ### arguments -/
theorem setArgs_get : ∀ (vs : List SV) (i : Nat) (t : Tr SV) (j : Nat), (setArgs vs i t).get j = if i ≤ j ∧ j < i + vs.length then vs[j - i]? else t.get j
  | [], i, t, j => by
    have : ¬ (i ≤ j ∧ j < i + ([] : List SV).length) := by simp
    rw [if_neg this]; rfl
  | v :: vs, i, t, j => by
    have e : setArgs (v :: vs) i t = setArgs vs (i + 1) (t.set i (some v)) := rfl
    rw [e, setArgs_get vs (i + 1) _ j, Tr.get_set]
    by_cases h1 : j = i
    · subst h1
      rw [if_neg (by omega), if_pos rfl, if_pos (by simp)]
      simp
    · by_cases h2 : i + 1 ≤ j ∧ j < i + 1 + vs.length
      · rw [if_pos h2, if_pos (by simp; omega)]
        have : j - i = (j - (i + 1)) + 1 := by omega
        rw [this, List.getElem?_cons_succ]
      · rw [if_neg h2, if_neg h1, if_neg (by simp; omega)]

theorem FR.args {us : List Value} {as : List SV} (h : VRs g us as) {nt : Nat} (hn : as.length ≤ nt) : FR g nt (setArgs as 0 .nil).get (us.toArray ++ Array.replicate (nt - us.toArray.size) undef) := by
  have hl := h.length
  refine ⟨by simp; omega, fun t x hx => ?_⟩
  rw [setArgs_get] at hx
  split at hx
  · rename_i hc
    obtain ⟨v, h1, h2⟩ := h.get hx
    have hlt : t < us.length := by omega
    have e : (us.toArray ++ Array.replicate (nt - us.toArray.size) undef).getD t undef = v := by
      rw [Array.getD_eq_getD_getElem?, Array.getElem?_append_left (by simpa using hlt)]
      simp only [Nat.sub_zero] at h1
      simp [h1]
    rw [e]; exact h2
  · cases hx

theorem setParams_spec {nt : Nat} : ∀ {ps : List Nat} {as : List SV} {tm tm1 : Tr SV} {tmps : Array Value} {us : List Value}, setParams nt tm ps as = some tm1 → VRs g us as → FR g nt tm.get tmps → us.length = ps.length ∧ FR g nt tm1.get ((ps.zip us).foldl (fun tmps p => tmps.setIfInBounds p.1 p.2) tmps)
  | [], [], tm, tm1, tmps, us, h, hu, hfr => by
    cases h
    cases hu
    exact ⟨rfl, hfr⟩
  | p :: ps, v :: as, tm, tm1, tmps, us, h, hu, hfr => by
    cases hu with
    | @cons u _ us' _ hv ht =>
      obtain ⟨hp, h⟩ := sel_some (show sel (Nat.ble (Nat.succ p) nt) (setParams nt (tm.set p (some v)) ps as) none = some tm1 from h)
      have hp : p < tmps.size := by rw [hfr.sz]; exact (ble_iff _ _).1 hp
      obtain ⟨q1, q2⟩ := setParams_spec (tmps := tmps.setIfInBounds p u) h ht ⟨by simp [hfr.sz], fun t x hx => by
        rw [Tr.get_set] at hx
        split at hx
        · rename_i e; subst e; cases hx
          have : (tmps.setIfInBounds t u).getD t undef = u := by
            rw [Array.getD_eq_getD_getElem?, Array.getElem?_setIfInBounds_self_of_lt hp]; rfl
          rw [this]; exact hv
        · rename_i e
          have : (tmps.setIfInBounds p u).getD t undef = tmps.getD t undef := by
            rw [Array.getD_eq_getD_getElem?, Array.getElem?_setIfInBounds_ne (fun e' => e e'.symm), ← Array.getD_eq_getD_getElem?]
          rw [this]; exact hfr.tm t x hx⟩
      exact ⟨by simp [q1], q2⟩
  | [], _ :: _, tm, tm1, tmps, us, h, _, _ => by cases h
  | _ :: _, [], tm, tm1, tmps, us, h, _, _ => by cases h

theorem isReady_eq {s : LoopState} (h : isReady s = true) : s = .ready := by cases s <;> first | rfl | cases h
theorem isNormal_eq {e : Ex} (h : isNormal e = true) : e = .normal := by cases e <;> first | rfl | cases h

/-! ### a round -/
theorem round_code {nt nt1 nt3 l dd dd1 dd3 : Nat} {tm0 tm1 tm2 tm3 tm01 tm03 : Tr SV} {ps ps1 ps3 : List Nat} {as bo as1 bo1 as3 bo3 : Code} {pend pend1 pend3 : Option Code} {st st3 : LoopState} {h h1 h3 : Hs} {args : List SV} {e3 : Ex} (hb : Bd h)
    (hl : h.hp.get l = some (.loop nt tm0 ps as bo st pend dd)) (hp : setParams nt tm0 ps args = some tm1) (k1 : CodeS E nt as tm1 [] h .normal tm2 [] h1) (hl1 : h1.hp.get l = some (.loop nt1 tm01 ps1 as1 bo1 .ready pend1 dd1))
    (k2 : CodeS E nt bo tm2 [] (h1.put l (.loop nt1 tm01 ps1 as1 bo1 .busy pend1 dd1)) e3 tm3 [] h3) (hl3 : h3.hp.get l = some (.loop nt3 tm03 ps3 as3 bo3 st3 pend3 dd3)) :
    Fac h (h3.put l (.loop nt3 tm03 ps3 as3 bo3 (sel (exJ e3).isNone .ready .done) (exJ e3) dd3)) ∧ SemCall E (.yld l) args h.hp.get h.nx (.bool (exJ e3).isNone) (h3.put l (.loop nt3 tm03 ps3 as3 bo3 (sel (exJ e3).isNone .ready .done) (exJ e3) dd3)).hp.get h3.nx := by
  obtain ⟨f1, _, s1⟩ := k1
  have fp := put_fac (o' := SO.loop nt1 tm01 ps1 as1 bo1 .busy pend1 dd1) f1.bd hl1
  obtain ⟨f2, _, s2⟩ := k2
  have f3 := put_fac (o' := SO.loop nt3 tm03 ps3 as3 bo3 (sel (exJ e3).isNone .ready .done) (exJ e3) dd3) f2.bd hl3
  refine ⟨((f1.trans fp).trans f2).trans f3, fun m g w u us hE hr hnx hu hus => ?_⟩
  cases hu with
  | @yld _ b o hρ =>
  obtain ⟨hlt, hor⟩ := hr.at hl hρ
  obtain ⟨c1, c2, r, q1, q2, q3, q4, q5, q6, q7, o', q8⟩ := hor
  obtain ⟨hlen, hfr⟩ := setParams_spec hp hus q7
  subst q4
  subst q5
  subst q6
  have hsz : us.toArray.size = r.params.size := by simpa using hlen
  have htm : ((r.params.zip us.toArray).foldl (fun tmps (t, a) => tmps.setIfInBounds t a) r.tmps) = (r.params.toList.zip us).foldl (fun tmps p => tmps.setIfInBounds p.1 p.2) r.tmps := by
    rw [← Array.foldl_toList, Array.toList_zip]
  refine ⟨{ target := .fn (.yield b) #[], args := #[] ++ us.toArray }, rfl, .inr (.inl ⟨b, r.fn, (r.params.zip us.toArray).foldl (fun tmps (t, a) => tmps.setIfInBounds t a) r.tmps, r.assign, r.body, ?_, ?_⟩)⟩
  · show (Instr.yield b (#[] ++ us.toArray)).run E.P w = _
    rw [Array.empty_append]
    exact run_yield q1 hsz
  rw [htm]
  refine roundIn_of_wpIn (F := Fence.wide) trivial (wpX_in ?_)
  refine s1 (some b) m g { tmps := _, defers := [] } w _ c1 (.inr rfl) hE hfr hr .nil hnx (fun g1 a1 w1 p1 p2 p3 p4 p5 p6 => ?_)
  obtain ⟨r1, t1, t2, t3, t4, t5⟩ := HR.loop p2 hl1 (p3.le.ρ _ _ hρ) .busy pend1
  subst t3
  refine ⟨_, run_beginRound t1 t2, wpX_in ?_⟩
  rw [← put_get] at t4 t5
  refine s2 (some b) m g1 a1 _ _ c2 (.inr rfl) (hE.mono p3.le) p1 t4 p4 p5 (fun g2 a2 w2 v1 v2 v3 v4 v5 v6 => ?_)
  obtain ⟨r2, y1, y2, y3, y4, y5⟩ := HR.loop v2 hl3 (v3.le.ρ _ _ (p3.le.ρ _ _ hρ)) (sel (exJ e3).isNone .ready .done) (exJ e3)
  rw [← put_get] at y4 y5
  have fin : ∃ v w', (Instr.endRound b (exJ e3)).run E.P w2 = .ok v w' ∧ ∃ r', Ending.returned v = .returned r' ∧ ∃ g', VR g' r' (.bool (exJ e3).isNone) ∧ HR g' (h3.put l (.loop nt3 tm03 ps3 as3 bo3 (sel (exJ e3).isNone .ready .done) (exJ e3) dd3)).hp.get w' ∧
      Fr g h.hp.get w g' (h3.put l (.loop nt3 tm03 ps3 as3 bo3 (sel (exJ e3).isNone .ready .done) (exJ e3) dd3)).hp.get w' ∧ (∀ x, x < h.nx → g'.ρ x = g.ρ x) ∧ ∀ x, h3.nx ≤ x → g'.ρ x = none := by
    refine ⟨_, _, run_endRound _ y1, _, rfl, g2, .bool _, ?_, ?_, fun x hx => ?_, v5⟩
    · rw [sel_if] at y4 ⊢; exact y4
    · rw [sel_if] at y5 ⊢; exact ((p3.trans t5).trans v3).trans y5
    · rw [v6 x (Nat.lt_of_lt_of_le hx f1.nx), p6 x hx]
  cases e3 with
  | normal => exact fin
  | ret => exact fin
  | exit id => exact fin

theorem yield_sound {rec : Job → Out} (hrec : ∀ j, Sound E j (rec j)) (l : Nat) (as : List SV) (h : Hs) : Sound E (.call (.yld l) as h) (yieldK rec l (h.hp.get l) as h) := by
  unfold yieldK
  split
  rotate_left
  · trivial
  rename_i nt tm0 ps as' bo st pend dd hl
  rw [sel_if]
  split
  rotate_left
  · trivial
  unfold roundK
  split
  · trivial
  rename_i tm1 hp
  refine onCode_inv (Q := Sound E _) (fun _ => trivial) (fun _ _ _ => trivial) (fun e tm2 mk2 h1 he => ?_)
  have hs1 := hrec (.code nt as' tm1 [] h)
  rw [he] at hs1
  rw [sel_if]
  split
  rotate_left
  · trivial
  rename_i hn
  obtain rfl := isNormal_eq hn
  unfold bodyK
  split
  rotate_left
  · trivial
  rename_i nt1 tm01 ps1 as1 bo1 st1 pend1 dd1 hl1
  split
  rotate_left
  · trivial
  rw [sel_if]
  split
  rotate_left
  · trivial
  rename_i hrd
  obtain rfl := isReady_eq hrd
  unfold roundEnd
  refine onCode_inv (Q := Sound E _) (fun _ => trivial) (fun _ _ _ => trivial) (fun e3 tm3 mk3 h3 he3 => ?_)
  have hs2 := hrec (.code nt bo tm2 [] (h1.put l (.loop nt1 tm01 ps1 as1 bo1 .busy pend1 dd1)))
  rw [he3] at hs2
  split
  rotate_left
  · trivial
  unfold finK
  split
  rotate_left
  · trivial
  rename_i nt3 tm03 ps3 as3 bo3 st3 pend3 dd3 hl3
  intro hb
  have k1 := hs1 hb
  exact round_code hb hl hp k1 hl1 (hs2 (put_fac k1.1.bd hl1).bd) hl3

/-! ### a function -/
theorem oneOf_eq (vs : List SV) : oneOf vs = oneOf vs := rfl

theorem VRs.append' {g : Gh} {us vs : List Value} {as bs : List SV} (h : VRs g us as) (k : VRs g vs bs) : VRs g (us ++ vs) (as ++ bs) := h.append k

/-- A function of Go's with a body. -/
theorem fun_code (hS : EnvS E) {k : FuncId} {fn : Func} {c : Code} {fi as ca vs : List SV} {tm : Tr SV} {mk : List Nat} {h h1 : Hs} {hp : Hp} {e : Ex} (hfn : E.fn.get k = some fn) (hbody : fn.body = some c) (hnum : fn.name ≠ "runtime.NumGoroutine") (hlen : (fi ++ as ++ ca).length ≤ fn.ntmps) (hb : Bd h)
    (hc : CodeS E fn.ntmps c (setArgs (fi ++ as ++ ca) 0 .nil) [] ⟨h.hp, h.nx, []⟩ e tm mk h1) (he : e ≠ .exit 0 → True) (hret : isRetE e = true) (hk : killM mk h1.hp = some hp) (hv : resVars E tm.get hp.get fn.results.toList = some vs) :
    Fac h ⟨hp, h1.nx, below h.nx h1.lg h.lg⟩ ∧ SemCall E (.fn (.func k) fi ca) as h.hp.get h.nx (oneOf vs) hp.get h1.nx := by
  obtain ⟨f1, ⟨_, l1⟩, s1⟩ := hc
  have hget := killM_get hk
  have hnew : ∀ x ∈ mk, h.nx ≤ x := fun x hx => by
    rcases l1 x hx with h | h
    · simp at h
    · exact h
  have hsame : ∀ x, x < h.nx → hp.get x = h1.hp.get x := fun x hx => by rw [hget, if_neg (fun hc => by have := hnew x hc; omega)]
  refine ⟨⟨f1.nx, fun x hx => ?_, fun x hx hn => ?_, fun x hx => mem_below.2 (.inr hx), fun x hx hn => ?_⟩, fun m g w u us hE hr hnx hu hus => ?_⟩
  · have hx : h1.nx ≤ x := hx
    show hp.get x = none
    rw [hget]; split
    · rfl
    · exact f1.bd x hx
  · show hp.get x = _
    rw [hsame x hx]
    exact f1.lg x hx (fun hc => hn (mem_below.2 (.inl ⟨hc, hx⟩)))
  · show hp.get x = none
    rw [hsame x hx]
    exact f1.dead x hx hn
  cases hu with
  | @fn _ first caps _ _ hv1 hv2 =>
  obtain ⟨hPf, hok⟩ := hS.fn k fn hfn
  have hargs : VRs g (first.toList ++ us ++ caps.toList) (fi ++ as ++ ca) := (hv1.append hus).append hv2
  have harr : first ++ us.toArray ++ caps = (first.toList ++ us ++ caps.toList).toArray := by apply Array.ext'; simp
  have hokc : codeOk c = true := by
    have hok : @Option.rec Code (fun _ => Bool) true codeOk fn.body = true := hok
    rw [hbody] at hok; exact hok
  refine ⟨{ target := .fn (.func k) caps, args := first ++ us.toArray }, rfl, .inl ⟨k, first ++ us.toArray ++ caps, ?_, ?_⟩⟩
  · show (callFunc k (first ++ us.toArray ++ caps)).run E.P w = _
    rcases run_callFunc_go hPf (by rw [hbody]; rfl) (first ++ us.toArray ++ caps) w with ⟨_, hc⟩ | hc
    · exact absurd hc hnum
    · exact hc
  rw [harr]
  refine callsIn_of_wp_marks (F := Fence.wide) hPf hbody trivial (wpX_in ?_)
  refine s1 none m g { tmps := _, defers := [] } w _ hokc (.inl rfl) hE (FR.args hargs hlen) hr .nil hnx (fun g1 a1 w1 p1 p2 p3 p4 p5 p6 => ?_)
  have fin : LeavesInM Fence.wide m E.P fn a1.tmps (fun e w' => ∃ r, e = .returned r ∧ ∃ g', VR g' r (oneOf vs) ∧ HR g' hp.get w' ∧ Fr g h.hp.get w g' hp.get w' ∧ (∀ x, x < h.nx → g'.ρ x = g.ρ x) ∧ ∀ x, h1.nx ≤ x → g'.ρ x = none) a1.defers .returning w1 := by
    refine leaves_marks p4 p2 hk (fun w2 q1 q2 => ?_)
    obtain ⟨v, hv1, hv2⟩ := results_spec (hE.mono p3.le) q1 p1 hv
    exact ⟨v, hv1, v, rfl, g1, hv2, q1, p3.trans q2, p6, p5⟩
  cases e with
  | normal => exact fin
  | ret => exact fin
  | exit id => cases hret

theorem cmpStr_eq (a b : ByteArray) : Lib.compareBytes a.data.toList b.data.toList = cmpStr a b := by
  have key : ∀ (l m : List UInt8), Lib.compareBytes l m = if bytesLt l m = true then -1 else if bytesB l m = true then 0 else 1 := by
    intro l
    induction l with
    | nil => intro m; cases m <;> simp [Lib.compareBytes, bytesLt, bytesB]
    | cons x l ih =>
      intro m
      cases m with
      | nil => simp [Lib.compareBytes, bytesLt, bytesB]
      | cons y m =>
        unfold Lib.compareBytes bytesLt bytesB
        rw [ih m, sel_if, sel_if, ble_eq, beq_eq]
        have h1 : (x < y) ↔ x.toNat + 1 ≤ y.toNat := by rw [UInt8.lt_iff_toNat_lt]; omega
        have h2 : (y < x) ↔ y.toNat < x.toNat := UInt8.lt_iff_toNat_lt
        by_cases hxy : x < y
        · simp [hxy, h1.1 hxy]
        · by_cases hyx : y < x
          · have a1 : ¬ (x.toNat + 1 ≤ y.toNat) := fun h => hxy (h1.2 h)
            have a2 : ¬ (x.toNat = y.toNat) := fun h => by have := h2.1 hyx; omega
            simp [hxy, hyx, a1, a2]
          · have a1 : ¬ (x.toNat + 1 ≤ y.toNat) := fun h => hxy (h1.2 h)
            have a3 : ¬ (y.toNat < x.toNat) := fun h => hyx (h2.2 h)
            have a2 : x.toNat = y.toNat := by omega
            have a4 : ¬ (y.toNat + 1 ≤ y.toNat) := by omega
            simp [hxy, hyx, a2, a4]
  rw [key]
  unfold cmpStr
  rw [sel_if, sel_if]

theorem ext_sound (hS : EnvS E) {k : FuncId} {fn : Func} {fi as ca : List SV} {h : Hs} (hfn : E.fn.get k = some fn) (hbody : fn.body = none) : Sound E (.call (.fn (.func k) fi ca) as h) (extK fn (fi ++ as ++ ca) h) := by
  generalize hl : fi ++ as ++ ca = l
  unfold extK
  split
  rotate_left
  · trivial
  rename_i x y
  split
  rotate_left
  · trivial
  rename_i s1 hs1
  split
  rotate_left
  · trivial
  rename_i s2 hs2
  obtain rfl := strOf_some hs1
  obtain rfl := strOf_some hs2
  rw [sel_if]
  split
  rotate_left
  · trivial
  rename_i hname
  intro hb
  refine ⟨Fac.refl hb, fun m g w u us hE hr hnx hu hus => ?_⟩
  cases hu with
  | @fn _ first caps _ _ hv1 hv2 =>
  have hargs : VRs g (first.toList ++ us ++ caps.toList) [.str s1, .str s2] := by rw [← hl]; exact (hv1.append hus).append hv2
  have harr : first ++ us.toArray ++ caps = (first.toList ++ us ++ caps.toList).toArray := by apply Array.ext'; simp
  obtain ⟨v1, v2, e, h1, h2⟩ := vrs_two hargs
  rw [e] at harr
  cases h1
  cases h2
  obtain ⟨e1, e2⟩ := hS.ext k fn hfn hbody hname
  refine ⟨{ target := .fn (.func k) caps, args := first ++ us.toArray }, rfl, .inr (.inr ⟨.int .i64 (Lib.compareBytes s1.data.toList s2.data.toList), w, ?_, g, .int _ _ ?_, hr, Fr.refl _ _ _, fun _ _ => rfl, hnx⟩)⟩
  · show (callFunc k (first ++ us.toArray ++ caps)).run E.P w = _
    rw [harr, run_callFunc_extern (hS.fn k fn hfn).1 (by
      have : fn.name = "internal/bytealg.abigen_runtime_cmpstring" := by simpa using hname
      rw [this]; decide) (by rw [hbody]; rfl) e1 e2, Lib.run_compareString]
    rfl
  · rw [cmpStr_eq]; rfl

theorem findDone_nil {k : FuncId} {l : List SV} {v : SV} (h : findDone E k l = some v) : l = [] := by
  cases l with
  | nil => rfl
  | cons a l => cases h

theorem done_sound (hS : EnvS E) {k : FuncId} {fi as ca : List SV} {h : Hs} {v : SV} (hd : findDone E k (fi ++ as ++ ca) = some v) : Sound E (.call (.fn (.func k) fi ca) as h) (.res v h) := by
  intro hb
  have hnil := findDone_nil hd
  obtain ⟨hfa, rfl⟩ := List.append_eq_nil_iff.1 hnil
  obtain ⟨rfl, rfl⟩ := List.append_eq_nil_iff.1 hfa
  obtain ⟨⟨fn, h1, h2, h3⟩, h4⟩ := hS.done k v hd
  refine ⟨Fac.refl hb, fun m g w u us hE hr hnx hu hus => ?_⟩
  cases hu with
  | @fn _ first caps _ _ hv1 hv2 =>
  have ef : first = #[] := by
    generalize hz : first.toList = z at hv1
    cases hv1; simpa using hz
  have ec : caps = #[] := by
    generalize hz : caps.toList = z at hv2
    cases hv2; simpa using hz
  cases hus
  subst ef
  subst ec
  refine ⟨{ target := .fn (.func k) #[], args := #[] }, rfl, .inl ⟨k, #[], ?_, ?_⟩⟩
  · show (callFunc k #[]).run E.P w = _
    rcases run_callFunc_go h1 h2 #[] w with ⟨_, hc⟩ | hc
    · exact absurd hc h3
    · exact hc
  refine CallsIn.mono (h4 m w) ?_
  rintro e w' ⟨r, rfl, hv, o1, o2, o3, o4, o5⟩
  exact ⟨r, rfl, g, hv g, hr.grow o4 o5, ⟨o1, o2, o3, o4, .refl _, fun b hb _ => o5 b hb, fun b hb hm => hm⟩, fun _ _ => rfl, hnx⟩

theorem step_call_sound (hS : EnvS E) {rec : Job → Out} (hrec : ∀ j, Sound E j (rec j)) (fv : SV) (as : List SV) (h : Hs) : Sound E (.call fv as h) (callD fv E rec as h) := by
  cases fv with
  | yld l => exact yield_sound hrec l as h
  | fn f fi ca =>
    cases f with
    | func k =>
      show Sound E _ (@Option.rec SV (fun _ => Out) (funK E rec (E.fn.get k) (fi ++ as ++ ca) h) (fun v => .res v h) (findDone E k (fi ++ as ++ ca)))
      cases hd : findDone E k (fi ++ as ++ ca) with
      | some v => exact done_sound hS hd
      | none =>
        show Sound E _ (funK E rec (E.fn.get k) (fi ++ as ++ ca) h)
        cases hfn : E.fn.get k with
        | none => trivial
        | some fn =>
          show Sound E _ (bodyOf E rec fn (fi ++ as ++ ca) h)
          unfold bodyOf
          cases hbody : fn.body with
          | none => exact ext_sound hS hfn hbody
          | some c =>
            show Sound E _ (sel (Nat.ble (fi ++ as ++ ca).length fn.ntmps) (sel (isNumG fn.name) (.fail "NumGoroutine") (retK E fn h.nx h.lg (rec (.code fn.ntmps c (setArgs (fi ++ as ++ ca) 0 .nil) [] ⟨h.hp, h.nx, []⟩)))) (.fail "args"))
            rw [sel_if, sel_if]
            split
            rotate_left
            · trivial
            rename_i hlen
            split
            · trivial
            rename_i hnum
            unfold retK
            refine onCode_inv (Q := Sound E _) (fun _ => trivial) (fun _ _ _ => trivial) (fun e tm mk h1 he => ?_)
            have hs := hrec (.code fn.ntmps c (setArgs (fi ++ as ++ ca) 0 .nil) [] ⟨h.hp, h.nx, []⟩)
            rw [he] at hs
            rw [sel_if]
            split
            rotate_left
            · trivial
            rename_i hret
            cases hp : bind1 (killM mk h1.hp) fun hp => bind1 (resVars E tm.get hp.get fn.results.toList) fun vs => some (vs, hp) with
            | none => trivial
            | some p =>
              obtain ⟨hp', hk, hp⟩ := bind1_some hp
              obtain ⟨vs, hv, hp⟩ := bind1_some hp
              cases hp
              intro hb
              exact fun_code hS hfn hbody (fun hc => hnum (by rw [hc]; decide)) ((ble_iff _ _).1 hlen) hb (hs hb) (fun _ => trivial) hret hk hv
    | _ => trivial
  | _ => trivial

/-- THE RUN IS SOUND. -/
theorem sound_run (hS : EnvS E) : ∀ (n : Nat) (j : Job), Sound E j (run E n j)
  | 0, j => by cases j <;> trivial
  | n + 1, j => by
    have ih := sound_run hS n
    show Sound E j (step E (run E n) j)
    cases j with
    | code nt c tm mk h => exact step_code_sound hS ih nt c tm mk h
    | ops nt all l tm h => exact step_ops_sound ih nt all l tm h
    | draw nt W all base i M prev l tm h => exact step_draw_sound ih nt W all base i M prev l tm h
    | call fv as h => exact step_call_sound hS ih fv as h

end Go.Sim
