/- Soundness: a range over a function. -/
import Derived.Test.YtjeenahnkcgfcaaGreatDoorSim21
import Derived.RangeFuncLeaves
set_option linter.unusedVariables false
set_option linter.unusedSimpArgs false
namespace Go.Sim
open Go.RowKit

variable {E : Env} {g : Gh} {f : Hf} {w : World}

theorem goFn_some {x : SV} (h : goFn E x = true) : ∃ k fi ca fn, x = .fn (.func k) fi ca ∧ E.fn.get k = some fn ∧ fn.body.isSome = true := by
  cases x with
  | fn f fi ca =>
    cases f with
    | func k =>
      have h : @Option.rec Func (fun _ => Bool) false (fun fn => fn.body.isSome) (E.fn.get k) = true := h
      cases hf : E.fn.get k with
      | none => rw [hf] at h; cases h
      | some fn => rw [hf] at h; exact ⟨k, fi, ca, fn, rfl, hf, h⟩
    | _ => cases h
  | _ => cases h

theorem run_callFunc_go {P : Program} {k : FuncId} {fn : Func} (hf : P.funcs[k]? = some fn) (hb : fn.body.isSome = true) (args : Array Value) (w : World) :
    ((callFunc k args).run P w = .ok .numGoroutine w ∧ fn.name = "runtime.NumGoroutine") ∨ (callFunc k args).run P w = .ok (.enter k args) w := by
  have h2 : fn.body ≠ none := by cases hfb : fn.body <;> simp_all
  by_cases h : fn.name = "runtime.NumGoroutine"
  · left; exact ⟨by simp [callFunc, hf, h, Sem.run], h⟩
  · right; simp [callFunc, hf, h, h2, Sem.run]

theorem ofValue_func {P : Program} (k : FuncId) (fi ca us : Array Value) (w : World) : (Deferred.ofValue (.func (.func k) fi ca) us).run P w = .ok { target := .fn (.func k) ca, args := fi ++ us } w := rfl

theorem range_code (hS : EnvS E) {nt : Nat} {fop : Operand} {ps : Array Nat} {as bo as' bo' : Code} {tm tm0 : Tr SV} {mk : List Dm} {ps' : List Nat} {h h2 : Hs} {gv v : SV} {nt' dd : Nat} {st : LoopState} {pend : Option Code} {e : Ex}
    (hgo : goFn E gv = true) (hgv : valA tm.get fop = some gv) (hs : Bd (enterH nt tm ps.toList as bo h) → Fac (enterH nt tm ps.toList as bo h) h2 ∧ SemCall E false gv [.yld (h.nx + 1)] (enterH nt tm ps.toList as bo h).hp.get (h.nx + 2) v h2.hp.get h2.nx)
    (hl : h2.hp.get (h.nx + 1) = some (.loop nt' tm0 ps' as' bo' st pend dd)) (hst : notBusy st = true) (he : (pend = none ∧ e = .normal) ∨ (pend = some .ret ∧ e = .ret) ∨ (∃ id, pend = some (.exit id) ∧ e = .exit id))
    (hb : Bd h) : CodeS E nt (.rangeFunc fop ps as bo) tm mk h [⟨e, tm, .mark h.nx :: mk, h2.put (h.nx + 1) (.loop nt' tm0 ps' as' bo' .exhausted pend dd)⟩] := by
  have f0 := enterH_fac (nt := nt) (tm := tm) (ps := ps.toList) (as := as) (bo := bo) hb
  obtain ⟨f1, sem⟩ := hs f0.bd
  have f3 := put_fac (o' := SO.loop nt' tm0 ps' as' bo' .exhausted pend dd) f1.bd hl
  refine ⟨by simp, fun o ho => ?_, fun ro m g a w Q hok hro hE hfr hr hm hnx hk => ?_⟩
  · obtain rfl := List.mem_singleton.1 ho
    refine ⟨(f0.trans f1).trans f3, by simp, fun x hx => ?_⟩
    rcases List.mem_cons.1 hx with hx | hx
    · cases hx; exact .inr (Nat.le_refl _)
    · exact .inl hx
  have hok : (codeOk as && codeOk bo) = true := hok
  rw [Bool.and_eq_true] at hok
  obtain ⟨ha, hbo⟩ := hok
  have hro : ro = none := by
    rcases hro with hh | hh
    · exact hh
    · have := hh ⟨e, tm, .mark h.nx :: mk, h2.put (h.nx + 1) (.loop nt' tm0 ps' as' bo' .exhausted pend dd)⟩ (by simp)
      simp at this
  subst hro
  show (Code.rangeFunc fop ps as bo).wpIn (fro none) m E.P Q a w
  refine wpIn_rangeFunc (fun fn _ => ?_)
  obtain ⟨r1, F1⟩ := HR.alloc (l := 0) (e := 0) hr (hnx h.nx (Nat.le_refl _)) (o' := .dfr) (w' := w.alloc (.deferred (some []))) rfl (World.alloc_heap_new _ _)
  have hn1 : (g.bind h.nx (w.heap.size, 0) 0 0).ρ (h.nx + 1) = none := by rw [Gh.bind_ne _ _ _ _ (by omega)]; exact hnx _ (by omega)
  have hs1 : (w.alloc (.deferred (some []))).heap.size = w.heap.size + 1 := by simp
  have hle1 := Gh.le_bind (p := ((w.alloc (.deferred (some []))).heap.size, 0)) (l := 0) (e := 0) hn1
  obtain ⟨r2, F2⟩ := HR.alloc (l := 0) (e := 0) r1 hn1 (o' := .loop nt tm ps.toList as bo .ready none h.nx) (w' := (w.alloc (.deferred (some []))).alloc (.loop { state := .ready, pending := none, fn := fn, tmps := a.tmps, params := ps, assign := as, body := bo, defers := w.heap.size })) rfl
    ⟨ha, hbo, _, World.alloc_heap_new _ _, rfl, rfl, rfl, rfl, rfl, hfr.mono (F1.le.trans hle1), 0, by
      rw [Gh.bind_ne _ _ _ _ (by omega)]; exact Gh.bind_self _ _ _ _ _⟩
  rw [← enterH_get] at r2 F2
  generalize hg2 : (g.bind h.nx (w.heap.size, 0) 0 0).bind (h.nx + 1) ((w.alloc (.deferred (some []))).heap.size, 0) 0 0 = g2 at r2 F2 hle1
  have hρl : g2.ρ (h.nx + 1) = some (w.heap.size + 1, 0) := by rw [← hg2, Gh.bind_self, hs1]
  have hρd : g2.ρ h.nx = some (w.heap.size, 0) := hle1.ρ _ _ (Gh.bind_self _ _ _ _ _)
  have hρo : ∀ x, x ≠ h.nx → x ≠ h.nx + 1 → g2.ρ x = g.ρ x := fun x h1 h2 => by rw [← hg2, Gh.bind_ne _ _ _ _ h2, Gh.bind_ne _ _ _ _ h1]
  have hle : g.le g2 := F1.le.trans F2.le
  obtain ⟨k, fi, ca, fn', rfl, hfn, hbody⟩ := goFn_some hgo
  have hu := (valA_spec hfr hgv).mono hle
  generalize hae : a.eval fop = u at hu
  cases hu with
  | @fn _ first caps _ _ hv1 hv2 =>
  obtain ⟨d, hd1, hd2⟩ := sem (m - 1) g2 ((w.alloc (.deferred (some []))).alloc (.loop { state := .ready, pending := none, fn := fn, tmps := a.tmps, params := ps, assign := as, body := bo, defers := w.heap.size })) _ [.func (.yield (w.heap.size + 1)) #[] #[]] (hE.mono hle) r2 (fun x hx => by rw [hρo x (by omega) (by omega)]; exact hnx x (by omega)) (.fn hv1 hv2) (.cons (.yld hρl) .nil)
  have hd : d = { target := .fn (.func k) caps, args := first ++ #[.func (.yield (w.heap.size + 1)) #[] #[]] } := by
    rw [ofValue_func] at hd1
    cases hd1; rfl
  subst hd
  have hcall : ∃ as', (invoke (.fn (.func k) caps) (first ++ #[.func (.yield (w.heap.size + 1)) #[] #[]])).run E.P ((w.alloc (.deferred (some []))).alloc (.loop { state := .ready, pending := none, fn := fn, tmps := a.tmps, params := ps, assign := as, body := bo, defers := w.heap.size })) = .ok (.enter k as') ((w.alloc (.deferred (some []))).alloc (.loop { state := .ready, pending := none, fn := fn, tmps := a.tmps, params := ps, assign := as, body := bo, defers := w.heap.size })) ∧
      CallsIn Fence.wide (m - 1) E.P k as' ((w.alloc (.deferred (some []))).alloc (.loop { state := .ready, pending := none, fn := fn, tmps := a.tmps, params := ps, assign := as, body := bo, defers := w.heap.size })) fun e w' => ∃ r, e = endR' false r ∧ ∃ g', VR g' r v ∧ HR g' h2.hp.get w' ∧ Fr g2 (enterH nt tm ps.toList as bo h).hp.get ((w.alloc (.deferred (some []))).alloc (.loop { state := .ready, pending := none, fn := fn, tmps := a.tmps, params := ps, assign := as, body := bo, defers := w.heap.size })) g' h2.hp.get w' ∧ (∀ x, x < h.nx + 2 → g'.ρ x = g2.ρ x) ∧ ∀ x, h2.nx ≤ x → g'.ρ x = none := by
    have hrun : ∀ (args : Array Value) (w : World), (invoke (.fn (.func k) caps) args).run E.P w = (callFunc k (args ++ caps)).run E.P w := fun _ _ => rfl
    rcases run_callFunc_go (hS.fn k fn' hfn).1 hbody (first ++ #[.func (.yield (w.heap.size + 1)) #[] #[]] ++ caps) ((w.alloc (.deferred (some []))).alloc (.loop { state := .ready, pending := none, fn := fn, tmps := a.tmps, params := ps, assign := as, body := bo, defers := w.heap.size })) with ⟨hc, _⟩ | hc
    · rcases hd2 with ⟨k', as', q1, q2⟩ | ⟨l, k', t', as', b', q1, _⟩ | ⟨r, w', q1, _⟩ <;> (rw [hrun, hc] at q1; cases q1)
    · rcases hd2 with ⟨k', as', q1, q2⟩ | ⟨l, k', t', as', b', q1, _⟩ | ⟨r, w', q1, _⟩
      · have q0 := q1
        rw [hrun, hc] at q1
        cases q1
        exact ⟨_, q0, q2⟩
      · rw [hrun, hc] at q1; cases q1
      · rw [hrun, hc] at q1; cases q1
  obtain ⟨as2, hinv, hcall⟩ := hcall
  refine ⟨w.heap.size + 1, [{ target := .collected w.heap.size, args := #[] }], _, { target := .fn (.func k) caps, args := first ++ #[.func (.yield (w.heap.size + 1)) #[] #[]] }, _, k, as2, _, run_enterLoop_outer _ _ _ _ _, ?_, fun _ _ => trivial, hinv, fun h => by simp [fro] at h, ?_⟩
  · have hmap : (#[Operand.const (.func (.yield (w.heap.size + 1)) #[] #[])] : Array Operand).map a.eval = #[.func (.yield (w.heap.size + 1)) #[] #[]] := by
      apply Array.ext'
      rw [Array.toList_map]
      rfl
    simp only [resolve, rangeCall]
    rw [hmap, hae]
    rfl
  refine CallsIn.mono (F := fro none) (show CallsIn (fro none) (m - 1) E.P k as2 _ _ from hcall) ?_
  rintro e' w3 ⟨r, rfl, g3, hv3, hr3, hf3, hρ3, hn3⟩
  obtain ⟨rec, q1, q2, q3, q4, q5⟩ := HR.loop hr3 hl (hf3.le.ρ _ _ hρl) .exhausted pend
  subst q3
  refine ⟨rec.pending, _, run_endLoop q1 (by rw [q2]; exact notBusy_ne hst), ?_⟩
  rw [← put_get] at q4 q5
  have fin := fun x hx => hk ⟨e, tm, .mark h.nx :: mk, h2.put (h.nx + 1) (.loop nt' tm0 ps' as' bo' .exhausted rec.pending dd)⟩ (by simp) g3 { a with defers := [{ target := .collected w.heap.size, args := #[] }] ++ a.defers } _ x hx (hfr.mono (hle.trans hf3.le)) q4 (((F1.trans F2).trans hf3).trans q5) (.mark (hf3.le.ρ _ _ hρd) (hm.mono (hle.trans hf3.le))) hn3 (fun x hx => by rw [hρ3 x (by omega), hρo x (by omega) (by omega)])
  rcases he with ⟨hp, rfl⟩ | ⟨hp, rfl⟩ | ⟨id, hp, rfl⟩
  · have fin := fin _ .normal; rw [hp] at fin ⊢; exact fin
  · have fin := fin _ .ret; rw [hp] at fin ⊢; exact wpIn_ret fin
  · have fin := fin _ (.exit id); rw [hp] at fin ⊢; exact wpIn_exit fin

theorem oneK_inv {r : Out} {k kp : SV → Hs → Out} {Q : Out → Prop} (hf : ∀ s, Q (.fail s)) (ht : ∀ a b c, Q (.trap a b c)) (hr : ∀ v h2, r = .res v h2 → Q (k v h2)) (hp : ∀ v h2, r = .pan v h2 → Q (kp v h2)) : Q (oneK r k kp) := by
  cases r with
  | ress l =>
    cases l with
    | nil => exact hf _
    | cons r l =>
      cases l with
      | nil =>
        obtain ⟨pan, v, h2⟩ := r
        cases pan with
        | false => exact hr v h2 rfl
        | true => exact hp v h2 rfl
      | cons _ _ => exact hf _
  | fail s => exact hf _
  | trap a b c => exact ht _ _ _
  | _ => exact hf _

theorem range_sound (hS : EnvS E) {rec : Job → Out} (hrec : ∀ j, Sound E j (rec j)) (nt : Nat) (fop : Operand) (ps : Array Nat) (as bo : Code) (tm : Tr SV) (mk : List Dm) (h : Hs) :
    Sound E (.code nt (.rangeFunc fop ps as bo) tm mk h) (rangeK E rec nt (valA tm.get fop) ps.toList as bo tm mk h) := by
  unfold rangeK
  cases hg : valA tm.get fop with
  | none => trivial
  | some gv =>
    show Sound E _ (sel (goFn E gv) (oneK (rec (.call gv [.yld (h.nx + 1)] (enterH nt tm ps.toList as bo h))) (fun _ h2 => endLoopK (h.nx + 1) h.nx tm mk h2) fun _ _ => .fail "panic in a range") (.fail "rangeFunc"))
    rw [sel_if]
    split
    rotate_left
    · trivial
    rename_i hgo
    refine oneK_inv (Q := Sound E _) (fun _ => trivial) (fun _ _ _ => trivial) (fun v h2 hv => ?_) (fun _ _ _ => trivial)
    have hs := hrec (.call gv [.yld (h.nx + 1)] (enterH nt tm ps.toList as bo h))
    rw [hv] at hs
    have hs : Bd (enterH nt tm ps.toList as bo h) → [(⟨false, v, h2⟩ : Rs)] ≠ [] ∧ (∀ r ∈ [(⟨false, v, h2⟩ : Rs)], Fac (enterH nt tm ps.toList as bo h) r.h) ∧ SemCalls E gv [.yld (h.nx + 1)] (enterH nt tm ps.toList as bo h).hp.get (h.nx + 2) [⟨false, v, h2⟩] := hs
    have hs : Bd (enterH nt tm ps.toList as bo h) → Fac (enterH nt tm ps.toList as bo h) h2 ∧ SemCall E false gv [.yld (h.nx + 1)] (enterH nt tm ps.toList as bo h).hp.get (h.nx + 2) v h2.hp.get h2.nx := fun hb => ⟨(hs hb).2.1 ⟨false, v, h2⟩ (by simp), (hs hb).2.2.one⟩
    unfold endLoopK
    split
    rotate_left
    · trivial
    rename_i nt' tm0 ps' as' bo' st pend dd hl
    rw [sel_if]
    split
    rotate_left
    · trivial
    rename_i hst
    have key : ∀ e, ((pend = none ∧ e = .normal) ∨ (pend = some .ret ∧ e = .ret) ∨ (∃ id, pend = some (.exit id) ∧ e = .exit id)) → Sound E (.code nt (.rangeFunc fop ps as bo) tm mk h) (.code e tm (.mark h.nx :: mk) (h2.put (h.nx + 1) (.loop nt' tm0 ps' as' bo' .exhausted pend dd))) := by
      intro e he hb
      exact range_code hS hgo hg hs hl hst he hb
    exact jumpK_inv (Q := Sound E _) (fun _ => trivial) (fun hp => key _ (.inl ⟨hp, rfl⟩)) (fun hp => key _ (.inr (.inl ⟨hp, rfl⟩))) (fun id hp => key _ (.inr (.inr ⟨id, hp, rfl⟩)))

/-- What stands behind a piece of code that ended somehow. -/
theorem seqE_codes {e : Ex} {tm : Tr SV} {mk : List Dm} {h : Hs} {k : Tr SV → List Dm → Hs → Out} {r : List Oc} (hs : seqE e tm mk h k = .codes r) : (e = .normal ∧ k tm mk h = .codes r) ∨ (e ≠ .normal ∧ r = [⟨e, tm, mk, h⟩]) := by
  cases e with
  | normal => exact .inl ⟨rfl, hs⟩
  | exit id => cases hs; exact .inr ⟨fun e => (by cases e), rfl⟩
  | ret => cases hs; exact .inr ⟨fun e => (by cases e), rfl⟩
  | pan v => cases hs; exact .inr ⟨fun e => (by cases e), rfl⟩

/-! ### code -/
theorem step_code_sound (hS : EnvS E) {rec : Job → Out} (hrec : ∀ j, Sound E j (rec j)) (nt : Nat) (c : Code) (tm : Tr SV) (mk : List Dm) (h : Hs) : Sound E (.code nt c tm mk h) (codeD c E rec nt tm mk h) := by
  cases c with
  | skip => exact fun hb => CodeS.calm .normal (fun _ => .normal) hb fun ro m Q a w hq => wpIn_skip hq
  | ret => exact fun hb => CodeS.calm .ret (fun _ => .ret) hb fun ro m Q a w hq => wpIn_ret hq
  | exit id => exact fun hb => CodeS.calm (.exit id) (fun _ => .exit id) hb fun ro m Q a w hq => wpIn_exit hq
  | region id ops draw =>
    cases draw with
    | false =>
      show Sound E _ (rec (.ops nt ops.toList ops.toList tm mk h))
      have hs := hrec (.ops nt ops.toList ops.toList tm mk h)
      cases hr : rec (.ops nt ops.toList ops.toList tm mk h) with
      | codes r =>
        rw [hr] at hs
        intro hb
        exact CodeS.ops (hs ops rfl (by simp) hb)
      | _ => trivial
    | true =>
      show Sound E _ (stK (rec (.draw nt ops.size ops.toList h.nx 0 0 [] ops.toList tm ⟨h.hp, Nat.add h.nx ops.size, h.lg⟩)) (fun e tm' _ h' => .code e tm' mk h') fun tm' h' => .code .normal tm' mk h')
      have hs := hrec (.draw nt ops.size ops.toList h.nx 0 0 [] ops.toList tm ⟨h.hp, Nat.add h.nx ops.size, h.lg⟩)
      cases hr : rec (.draw nt ops.size ops.toList h.nx 0 0 [] ops.toList tm ⟨h.hp, Nat.add h.nx ops.size, h.lg⟩) with
      | st tm1 h1 =>
        rw [hr] at hs
        intro hb
        obtain ⟨f1, out, hd⟩ := hs ops rfl rfl (by simp) (Nat.le_refl _) (fun x hx => hb x (Nat.le_trans (Nat.le_add_right _ _) hx)) (fun x hx hc => hx (hb x (by omega))) (InvM.zero _ _) (fun p hp => by simp at hp) [] rfl
        exact CodeS.draw f1 hd
      | codes r =>
        rw [hr] at hs
        have hs : Sound E (.draw nt ops.size ops.toList h.nx 0 0 [] ops.toList tm ⟨h.hp, Nat.add h.nx ops.size, h.lg⟩) (.codes r) := hs
        cases hres : stK (.codes r) (fun e tm' _ h' => .code e tm' mk h') fun tm' h' => .code .normal tm' mk h' with
        | codes r2 =>
          intro hb
          obtain ⟨v, tm', dm, h', rfl, f1, l0, o, out, F1, nx1, e1, d1, d2⟩ := hs ops rfl rfl (by simp) (Nat.le_refl _) (fun x hx => hb x (Nat.le_trans (Nat.le_add_right _ _) hx)) (fun x hx hc => hx (hb x (by omega))) (InvM.zero _ _) (fun p hp => by simp at hp) [] rfl
          cases (show Out.codes [⟨.pan v, tm', mk, h'⟩] = .codes r2 from hres)
          exact CodeS.drawPan f1 e1 d1 d2
        | _ => trivial
      | _ => trivial
  | seq a b =>
    show Sound E _ (seqK (rec (.code nt a tm mk h)) fun tm' mk' h' => rec (.code nt b tm' mk' h'))
    cases hres : seqK (rec (.code nt a tm mk h)) fun tm' mk' h' => rec (.code nt b tm' mk' h') with
    | codes r =>
      obtain ⟨l1, h1, h2⟩ := onCode_codes hres
      obtain ⟨_, q1, q2⟩ := catL_codes h2
      have hs := hrec (.code nt a tm mk h)
      rw [h1] at hs
      intro hb
      have k1 := hs hb
      have sub : ∀ (o : Oc) r', o ∈ l1 → rec (.code nt b o.tm o.dm o.h) = .codes r' → CodeS E nt b o.tm o.dm o.h r' := fun o r' ho hr' => by
        have := hrec (.code nt b o.tm o.dm o.h)
        rw [hr'] at this
        exact this (k1.2.1 o ho).1.bd
      refine k1.seq (fun o ho => ?_) (fun x hx => ?_)
      · obtain ⟨r', e1, e2⟩ := q1 o ho
        rcases seqE_codes e1 with ⟨he, hr'⟩ | ⟨he, rfl⟩
        · exact .inl ⟨he, r', sub o r' ho hr', e2⟩
        · exact .inr ⟨he, e2 _ (by simp)⟩
      · obtain ⟨o, ho, r', e1, e2⟩ := q2 x hx
        rcases seqE_codes e1 with ⟨he, hr'⟩ | ⟨he, rfl⟩
        · exact ⟨o, ho, .inl ⟨r', sub o r' ho hr', e2⟩⟩
        · exact ⟨o, ho, .inr (List.mem_singleton.1 e2)⟩
    | _ => trivial
  | cond c a b =>
    show Sound E _ (condK (valA tm.get c) (rec (.code nt a tm mk h)) (rec (.code nt b tm mk h)))
    unfold condK
    cases hv : bind1 (valA tm.get c) boolOf with
    | none => trivial
    | some t =>
      obtain ⟨x, h1, h2⟩ := bind1_some hv
      obtain rfl := boolOf_some h2
      have hev : ∀ (g : Gh) (ac : Act), FR g nt tm.get ac.tmps → ac.eval c = .bool t := fun g ac hfr => by
        have := valA_spec hfr h1
        generalize ac.eval c = u at this
        cases this; rfl
      show Sound E _ (sel t (rec (.code nt a tm mk h)) (rec (.code nt b tm mk h)))
      cases t with
      | true =>
        show Sound E _ (rec (.code nt a tm mk h))
        have hs := hrec (.code nt a tm mk h)
        cases hr : rec (.code nt a tm mk h) with
        | codes r =>
          rw [hr] at hs
          intro hb
          obtain ⟨n1, f1, s1⟩ := hs hb
          exact ⟨n1, f1, fun ro m g ac w Q hok hro hE hfr hrr hm hnx hk => wpIn_cond_true (hev g ac hfr) (wpX_in (s1 ro m g ac w Q (okL hok) hro hE hfr hrr hm hnx hk))⟩
        | _ => trivial
      | false =>
        show Sound E _ (rec (.code nt b tm mk h))
        have hs := hrec (.code nt b tm mk h)
        cases hr : rec (.code nt b tm mk h) with
        | codes r =>
          rw [hr] at hs
          intro hb
          obtain ⟨n1, f1, s1⟩ := hs hb
          exact ⟨n1, f1, fun ro m g ac w Q hok hro hE hfr hrr hm hnx hk => wpIn_cond_false (hev g ac hfr) (wpX_in (s1 ro m g ac w Q (okR hok) hro hE hfr hrr hm hnx hk))⟩
        | _ => trivial
  | block id c =>
    show Sound E _ (blockK id (rec (.code nt c tm mk h)))
    cases hres : blockK id (rec (.code nt c tm mk h)) with
    | codes r =>
      obtain ⟨l1, h1, h2⟩ := onCode_codes hres
      obtain ⟨_, q1, q2⟩ := catL_codes h2
      have hs := hrec (.code nt c tm mk h)
      rw [h1] at hs
      intro hb
      refine (hs hb).block (fun x => ⟨fun hx => ?_, fun ⟨o, ho, hx⟩ => ?_⟩)
      · obtain ⟨o, ho, r', e1, e2⟩ := q2 x hx
        cases e1
        exact ⟨o, ho, List.mem_singleton.1 e2⟩
      · obtain ⟨r', e1, e2⟩ := q1 o ho
        cases e1
        subst hx
        exact e2 _ (by simp)
    | _ => trivial
  | loop c =>
    show Sound E _ (seqK (rec (.code nt c tm mk h)) fun tm' mk' h' => rec (.code nt (.loop c) tm' mk' h'))
    cases hres : seqK (rec (.code nt c tm mk h)) fun tm' mk' h' => rec (.code nt (.loop c) tm' mk' h') with
    | codes r =>
      obtain ⟨l1, h1, h2⟩ := onCode_codes hres
      obtain ⟨_, q1, q2⟩ := catL_codes h2
      have hs := hrec (.code nt c tm mk h)
      rw [h1] at hs
      intro hb
      have k1 := hs hb
      have sub : ∀ (o : Oc) r', o ∈ l1 → rec (.code nt (.loop c) o.tm o.dm o.h) = .codes r' → CodeS E nt (.loop c) o.tm o.dm o.h r' := fun o r' ho hr' => by
        have := hrec (.code nt (.loop c) o.tm o.dm o.h)
        rw [hr'] at this
        exact this (k1.2.1 o ho).1.bd
      refine k1.loop (fun o ho => ?_) (fun x hx => ?_)
      · obtain ⟨r', e1, e2⟩ := q1 o ho
        rcases seqE_codes e1 with ⟨he, hr'⟩ | ⟨he, rfl⟩
        · exact .inl ⟨he, r', sub o r' ho hr', e2⟩
        · exact .inr ⟨he, e2 _ (by simp)⟩
      · obtain ⟨o, ho, r', e1, e2⟩ := q2 x hx
        rcases seqE_codes e1 with ⟨he, hr'⟩ | ⟨he, rfl⟩
        · exact ⟨o, ho, .inl ⟨r', sub o r' ho hr', e2⟩⟩
        · exact ⟨o, ho, .inr (List.mem_singleton.1 e2)⟩
    | _ => trivial
  | rangeFunc fop ps as bo => exact range_sound hS hrec nt fop ps as bo tm mk h
  | _ => trivial

end Go.Sim
