import Derived.Test.YtalbakjfbgkjjaaAbs16
set_option linter.unusedSimpArgs false
namespace Go.Abs
open Go.RowKit

variable {P : Program} {ann : FuncId → Ann} {A : Ann} {g : Gh} {st : AS} {a : Act} {w : World}

def Sem (P : Program) (ann : FuncId → Ann) : Job → Out → Prop
  | .op A o T B, .ups u => SemOp P A o T B u
  | .ops A all l st, .st st' => ∃ us, Trace P ann A all l us st st'
  | .code A c st, .code e st' => SemCode P A c st e st' ∧ ∀ b, c = .loop b → SemLoop P A b st e st'
  | .call f args, .res r outs => SoundCall P ann f args r outs
  | _, _ => True

theorem ptrsOk_spec {F : Ann} : ∀ (args : List AV) (i : Nat), ptrsOk F i args = true → ∀ (j : Nat) (cs : List AV), (args[j]?).bind AV.pbox = some cs → F.root (i + j) = i + j ∧ noHold F (i + j) = true
  | [], _, _, j, cs, h => by simp at h
  | x :: xs, i, hp, j, cs, h => by
    unfold ptrsOk at hp
    cases j with
    | zero =>
      simp at h
      rw [h] at hp
      simp only [Bool.and_eq_true, decide_eq_true_eq] at hp
      exact hp.1
    | succ j =>
      simp at h
      have hp' : ptrsOk F (i + 1) xs = true := by
        split at hp
        · simp only [Bool.and_eq_true] at hp; exact hp.2
        · exact hp
      have := ptrsOk_spec xs (i + 1) hp' j cs (by simpa using h)
      rwa [show i + 1 + j = i + (j + 1) from by omega] at this

theorem outsA_spec {st : AS} : ∀ (args : List AV) (i : Nat) (outs : List (Nat × List AV)), outsA st i args = some outs →
    (∀ (j : Nat) (cs : List AV), outs.lookup j = some cs → (∃ ds, st.box j = some ds ∧ cs = ds.map AV.norm1) ∧ ∃ m cs0, j = i + m ∧ (args[m]?).bind AV.pbox = some cs0) ∧
    (∀ (j : Nat) (cs : List AV), (args[j]?).bind AV.pbox = some cs → (outs.lookup (i + j)).isSome = true)
  | [], i, outs, h => by simp [outsA] at h; subst h; simp
  | x :: xs, i, outs, h => by
    unfold outsA at h
    split at h
    · simp at h
    · rename_i l hl
      obtain ⟨i1, i2⟩ := outsA_spec xs (i + 1) l hl
      have shift1 : ∀ (j : Nat) (cs : List AV), l.lookup j = some cs → (∃ ds, st.box j = some ds ∧ cs = ds.map AV.norm1) ∧ ∃ m cs0, j = i + m ∧ ((x :: xs)[m]?).bind AV.pbox = some cs0 := fun j cs hj => by
        obtain ⟨a, m, cs0, h1, h2⟩ := i1 j cs hj
        exact ⟨a, m + 1, cs0, by omega, by simpa using h2⟩
      have shift2 : ∀ (j : Nat) (cs : List AV), (xs[j]?).bind AV.pbox = some cs → (l.lookup (i + (j + 1))).isSome = true := fun j cs hj => by
        have := i2 j cs hj; rwa [show i + 1 + j = i + (j + 1) from by omega] at this
      split at h
      · rename_i c0 hx
        split at h
        · rename_i ds hb
          simp at h; subst h
          refine ⟨fun j cs hj => ?_, fun j cs hj => ?_⟩
          · rw [lookup_cons_nat] at hj
            split at hj
            · rename_i e; subst e; simp at hj; exact ⟨⟨ds, hb, hj.symm⟩, 0, c0, rfl, by simpa using hx⟩
            · exact shift1 j cs hj
          · rw [lookup_cons_nat]
            split
            · simp
            · rename_i hne
              cases j with
              | zero => simp at hne
              | succ j => exact shift2 j cs (by simpa using hj)
        · simp at h
      · rename_i hx
        simp at h; subst h
        refine ⟨shift1, fun j cs hj => ?_⟩
        cases j with
        | zero => simp [hx] at hj
        | succ j => exact shift2 j cs (by simpa using hj)

theorem clean_isLoc {x : AV} (h : x.clean = true) : x.isLoc = false := by cases x <;> first | rfl | simp [AV.clean] at h

def resF (a : Act) : ResultVar → Go.Sem Value
  | .tmp t => pure (a.tmps.getD t undef)
  | .cell b t => do loadVar t (← asAddr (a.tmps.getD b undef))

/-- One result. -/
theorem resVar_spec (h : Rel P A g st a w) {rv : ResultVar} {x : AV} (hx : resVar P st rv = some x) :
    ∃ v, (resF a rv).run P w = .ok v w ∧ ∃ t, TR P g w t v x := by
  cases rv with
  | tmp t =>
    simp [resVar] at hx
    exact ⟨a.tmps.getD t undef, rfl, t, by rw [← hx]; exact h.tm t⟩
  | cell t ty =>
    simp only [resVar] at hx
    split at hx
    · rename_i k off hloc
      have htr := h.tm t
      rw [hloc] at htr
      have hv : a.tmps.getD t undef = .pointer (some ⟨g.ρ k, off, none⟩) := htr
      split at hx
      · rename_i cs hb
        split at hx
        rotate_left
        · simp at hx
        rename_i hnk
        have hnk' : ∀ (o s : Nat), (noHold A k || noKeyB ((cs.drop o).take s)) = true := by
          intro o s
          rw [Bool.or_eq_true]
          right
          refine List.all_eq_true.2 fun x hx => ?_
          exact List.all_eq_true.1 hnk x (List.mem_of_mem_drop (List.mem_of_mem_take hx))
        cases hp : partA P ty cs off with
        | none => simp [hp] at hx
        | some y =>
          simp [hp] at hx
          subst hx
          have hmem : ∃ v, (loadVar ty ⟨g.ρ k, off, none⟩).run P w = .ok v w ∧ DR g.μ v y := by
            unfold partA at hp
            split at hp
            · rename_i hagg
              split at hp
              · rename_i hl
                simp at hp; subst hp
                obtain ⟨vs, hv0, hv1, hv2⟩ := box_load h hb hl (hnk' _ _)
                exact ⟨_, run_loadVar_agg hagg hv0 ⟨g.ρ k, off, none⟩ (fun j v hj => by rw [add_lit]; exact hv2 j v hj), .agg (by simpa using hv1)⟩
              · simp at hp
            · rename_i hagg
              have hoff : off < cs.length := (List.getElem?_eq_some_iff.1 hp).1
              obtain ⟨vs, hv0, hv1, hv2⟩ := box_load h hb (off := off) (s := 1) (by omega) (hnk' _ _)
              obtain ⟨r, hr1, _, hr2⟩ := hv1.get (j := 0) (x := y) (by simp [List.getElem?_take, List.getElem?_drop, hp])
              exact ⟨r, run_loadVar_one hagg ⟨g.ρ k, off, none⟩ (by simpa using hv2 0 r hr1), hr2⟩
            · simp at hp
          obtain ⟨v, hr, hd⟩ := hmem
          refine ⟨v, ?_, 0, TR.of P (by rw [norm_isLoc]; exact hd.notLoc) hd.norm (OwnOK.triv P (norm_own y))⟩
          simp only [resF, hv, asAddr, Sem.run_bind, Sem.run_pure, Result.andThen_ok, hr]
      · simp at hx
    · simp at hx

theorem resList_spec (h : Rel P A g st a w) : ∀ (rvs : List ResultVar) (xs : List AV), resList P st rvs = some xs →
    ∃ vs, (rvs.mapM (resF a)).run P w = .ok vs w ∧ ValsR g.μ vs xs
  | [], xs, hx => by simp [resList] at hx; subst hx; exact ⟨[], by simp, .nil⟩
  | rv :: rvs, xs, hx => by
    unfold resList at hx
    split at hx
    · rename_i x l h1 h2
      split at hx
      · rename_i hc
        simp at hx; subst hx
        obtain ⟨v, hv1, t, hv2⟩ := resVar_spec h h1
        obtain ⟨vs, hs1, hs2⟩ := resList_spec h rvs l h2
        refine ⟨v :: vs, ?_, .cons (TR.dr P hv2 (clean_isLoc hc)).1.norm hs2⟩
        rw [List.mapM_cons]
        simp only [Sem.run_bind]
        rw [hv1]
        simp only [Result.andThen_ok]
        rw [hs1]
        simp
      · simp at hx
    · simp at hx

theorem results_run {fn : Func} (h : Rel P A g st a w) {np : Nat} {r : AV} (hnp : g.np = np) (hr : resultA P fn st np = some r) : ∃ v, (results fn a.tmps).run P w = .ok v w ∧ RetR P g w v r := by
  have hmap : ∀ vs, (fn.results.toList.mapM (resF a)).run P w = .ok vs w →
      (results fn a.tmps).run P w = .ok (if h : vs.toArray.size = 1 then vs.toArray[0] else .tuple vs.toArray) w := by
    intro vs hvs
    have e : ∀ f : ResultVar → Go.Sem Value, (∀ x, f x = resF a x) → fn.results.mapM f = fn.results.mapM (resF a) := fun f hf => by rw [funext hf]
    unfold results
    rw [e _ (fun x => by cases x <;> rfl)]
    rw [← Array.toArray_toList (xs := fn.results), List.mapM_toArray]
    simp only [Sem.run_bind, Sem.run_map]
    rw [hvs]
    simp
  unfold resultA at hr
  split at hr
  · rename_i rv hres
    have one : ∀ v, (resF a rv).run P w = .ok v w → (results fn a.tmps).run P w = .ok v w := by
      intro v hv
      have := hmap [v] (by
        rw [hres, List.mapM_cons]
        simp only [Sem.run_bind]
        rw [hv]
        simp)
      simpa using this
    split at hr
    · rename_i k off hx
      split at hr
      · rename_i hc
        obtain ⟨rfl, hk⟩ := hc
        split at hr
        · rename_i cs hb
          split at hr
          · rename_i hnk
            simp at hr
            subst hr
            obtain ⟨v, hv1, t, hv2⟩ := resVar_spec h hx
            have hkeys : noKeys (cs.map AV.norm1) := by
              intro y hy
              obtain ⟨z, hz, rfl⟩ := List.mem_map.1 hy
              have := List.all_eq_true.1 hnk z hz
              cases z <;> first | rfl | simp at this
            refine ⟨v, one v hv1, k, by rw [hnp]; exact hk, hv2, ?_, noOwn_norm1 cs, hkeys⟩
            have hbx := h.bx k cs hb
            have hne : cs.map AV.norm1 ≠ [] → cs ≠ [] := fun q e => q (by rw [e]; rfl)
            refine ⟨fun q => hbx.own (hne q), fun q => ?_, fun q => hbx.free (hne q)⟩
            obtain ⟨cur, e, m1, m2, m3⟩ := hbx.mem (hne q)
            refine ⟨cur, e, m1, by simpa using m2, fun j u x hu hx' => ?_⟩
            rw [List.getElem?_map] at hx'
            cases hz : cs[j]? with
            | none => simp [hz] at hx'
            | some z =>
              simp [hz] at hx'
              subst hx'
              obtain ⟨q1, q2⟩ := m3 j u z hu hz
              exact ⟨q1, CV.of P (q2.dr P (noKeyB_get hnk hz)).1.norm1 (OwnOK.triv P (norm1_own z))⟩
          · simp at hr
        · simp at hr
      · simp at hr
    · rename_i e rows hx
      simp at hr; subst hr
      obtain ⟨v, hv1, t, hv2⟩ := resVar_spec h hx
      exact ⟨v, one v hv1, hv2.1, .tmp t, by simp, hv2.2⟩
    · rename_i e rows hx
      simp at hr; subst hr
      obtain ⟨v, hv1, t, hv2⟩ := resVar_spec h hx
      exact ⟨v, one v hv1, .tmp t, by simp, hv2⟩
    · rename_i k e lo n hx
      split at hr
      · rename_i hk
        simp at hr; subst hr
        obtain ⟨v, hv1, t, hv2⟩ := resVar_spec h hx
        exact ⟨v, one v hv1, by rw [hnp]; exact hk, hv2⟩
      · simp at hr
    · rename_i x hnl hno hnx hnm hx
      split at hr
      · rename_i hc
        simp at hr
        obtain ⟨v, hv1, t, hv2⟩ := resVar_spec h hx
        have hd := (TR.dr P hv2 (clean_isLoc hc)).1.norm
        refine ⟨v, one v hv1, ?_⟩
        subst hr
        have : RetR P g w v x.norm = (DR g.μ v x.norm ∧ ∃ y, (∀ k, y ≠ .box k) ∧ OwnOK P g w y v x.norm) := by
          cases x <;> first | rfl | simp [AV.clean] at hc
        rw [this]
        exact ⟨hd, .tmp 0, by simp, OwnOK.triv P (norm_own x)⟩
      · simp at hr
    · simp at hr
  · rename_i vs hne
    cases hl : resList P st fn.results.toList with
    | none => simp [hl] at hr
    | some xs =>
      simp [hl] at hr
      subst hr
      obtain ⟨us, hu1, hu2⟩ := resList_spec h _ _ hl
      have hlen : us.length ≠ 1 := by
        intro he
        have h1 : xs.length = 1 := by rw [← hu2.length]; exact he
        have h2 : ∀ (l : List ResultVar) (ys : List AV), resList P st l = some ys → l.length = ys.length := by
          intro l
          induction l with
          | nil => intro ys hy; simp [resList] at hy; subst hy; rfl
          | cons v l ih =>
            intro ys hy
            unfold resList at hy
            split at hy
            · rename_i x l' q1 q2
              split at hy
              · simp at hy; subst hy; simp [ih l' q2]
              · simp at hy
            · simp at hy
        have h3 := h2 _ _ hl
        rw [h1] at h3
        match hq : fn.results.toList, h3 with
        | [v], _ => exact hne v hq
      have := hmap us hu1
      refine ⟨.tuple us.toArray, by simpa [hlen] using this, .tuple (by simpa using hu2), .tmp 0, by simp, OwnOK.triv P (by simp)⟩

theorem ev_sound (hmix : P.follows .mixedOrders = true) {job : Job} {out : Out} (h : Ev P ann job out) : Sem P ann job out := by
  induction h with
  | @pure A o T B u h =>
    intro g st a w K Q hr hs hlt hk
    obtain ⟨v, w', g', q1, q2, q3⟩ := acore_sound hr hs h hlt
    exact upon_of_runs q1 (hk v w' g' q2 q3)
  | @callOp A o T B c x f ps r outs u h1 h2 h3 hb h4 _ h6 ih =>
    intro g st a w K Q hr hs hlt hk
    obtain ⟨fn, hf1, hf2, hf3⟩ := hb
    have hcall := call_sound hr hs h4 h6 hlt ih
    have hd := (hs.pr hr x).1 (by rw [h3]; rfl)
    rw [h3] at hd
    have hx : a.eval x = .func (.func f) #[] #[] := by
      generalize a.eval x = v at hd
      cases hd; rfl
    have hargs : (c.args.map a.eval) = (c.args.toList.map a.eval).toArray := by
      apply Array.ext'; simp
    have hrun : (execOp a.eval o).run P w = .ok (.enter f (c.args.toList.map a.eval).toArray) w := by
      simp only [execOp, h1, resolve, h2, hx, Deferred.ofValue, invoke, Sem.run_bind, Sem.run_pure, Result.andThen_ok, callFunc, run_program, hf1]
      have hn : (fn.name == "runtime.NumGoroutine") = false := by simpa using hf3
      have hbody : fn.body.isNone = false := by
        cases hq : fn.body with
        | none => simp [hq] at hf2
        | some c => rfl
      simp [hn, hbody, hargs]
    unfold Oper.wp
    rw [hrun]
    refine hcall.mono ?_
    rintro e w' ⟨v, g', rfl, q1, q2⟩
    exact hk v w' g' q1 q2
  | opsNil => exact ⟨[], rfl⟩
  | @opsSkip A all o l st out h1 h2 _ ih =>
    cases out with
    | st st' =>
      obtain ⟨us, hus⟩ := ih
      refine ⟨skipUps o.dst :: us, fun g st1 a w K Q hr hT hB hk => ?_, h2, hus⟩
      have hw := wanted_eq (b := false) hr (by rw [hT]; exact h1)
      rw [if_neg (by simp [hw])]
      exact hk undef w g (skip_rel hr h2) (Fr.refl _ _)
    | _ => trivial
  | @opsCons A all o l st u out h1 _ h3 _ ih2 ih4 =>
    cases out with
    | st st' =>
      obtain ⟨us, hus⟩ := ih4
      refine ⟨u :: us, fun g st1 a w K Q hr hT hB hk => ?_, h3, hus⟩
      have hw := wanted_eq (b := true) hr (by rw [hT]; exact h1)
      rw [if_pos hw]
      exact ih2 g st1 a w K Q hr (by rw [← hT, ← hB]; exact sees_mask _ _ st1) (fits_lt h3) hk
    | _ => trivial
  | @region A id ops draw st st' _ h2 ih =>
    refine ⟨fun g a w Q hr hq => ?_, fun b hb => by simp at hb⟩
    obtain ⟨us, hus⟩ := ih
    cases draw with
    | false => exact wp_region_list (trace_list _ _ _ _ hus g a w hr hq)
    | true => exact draw_sound hus (h2 rfl) hmix hr hq
  | skip => exact ⟨fun g a w Q hr hq => wp_skip (hq a w g hr (Fr.refl _ _)), fun b hb => by simp at hb⟩
  | @seqN A c1 c2 st st' out _ _ ih1 ih2 =>
    cases out with
    | code e st'' =>
      refine ⟨fun g a w Q hr hq => wp_seq (ih1.1 g a w _ hr fun a' w' g' hr' hf => ?_), fun b hb => by simp at hb⟩
      exact ih2.1 g' a' w' Q hr' (fun a'' w'' g'' hr'' hf' => hq a'' w'' g'' hr'' (hf.trans hf'))
    | _ => trivial
  | @seqX A c1 c2 st st' e _ h2 ih1 =>
    refine ⟨fun g a w Q hr hq => wp_seq (ih1.1 g a w _ hr fun a' w' g' hr' hf => ?_), fun b hb => by simp at hb⟩
    have := hq a' w' g' hr' hf
    cases e with
    | normal => exact absurd rfl h2
    | exit id => exact this
    | ret => exact this
  | @condT A c c1 c2 st out h1 _ ih =>
    cases out with
    | code e st' =>
      refine ⟨fun g a w Q hr hq => ?_, fun b hb => by simp at hb⟩
      have hs : Sees st.tmps st.box st := ⟨fun _ => .inl rfl, fun _ => .inl rfl⟩
      have hd := (hs.pr hr c).1 (by rw [h1]; rfl)
      rw [h1] at hd
      have hx : a.eval c = .bool true := by
        generalize a.eval c = v at hd
        cases hd; rfl
      exact wp_cond_true hx (ih.1 g a w Q hr hq)
    | _ => trivial
  | @condF A c c1 c2 st out h1 _ ih =>
    cases out with
    | code e st' =>
      refine ⟨fun g a w Q hr hq => ?_, fun b hb => by simp at hb⟩
      have hs : Sees st.tmps st.box st := ⟨fun _ => .inl rfl, fun _ => .inl rfl⟩
      have hd := (hs.pr hr c).1 (by rw [h1]; rfl)
      rw [h1] at hd
      have hx : a.eval c = .bool false := by
        generalize a.eval c = v at hd
        cases hd; rfl
      exact wp_cond_false hx (ih.1 g a w Q hr hq)
    | _ => trivial
  | @block A id c st st' e _ ih =>
    refine ⟨fun g a w Q hr hq => wp_block (ih.1 g a w _ hr fun a' w' g' hr' hf => ?_), fun b hb => by simp at hb⟩
    have := hq a' w' g' hr' hf
    cases e with
    | normal => exact this
    | ret => exact this
    | exit id' =>
      simp only [AExit.toExit, Exit.inBlock, AExit.leave] at this ⊢
      split
      · rename_i he; rw [if_pos he] at this; exact this
      · rename_i he; rw [if_neg he] at this; exact this
  | @loopN A c st st' out _ _ ih1 ih2 =>
    cases out with
    | code e st'' =>
      obtain ⟨n, hn⟩ := ih2.2 c rfl
      have hl : SemLoop P A c st e st'' := ⟨n + 1, fun g a w Q hr hq => ih1.1 g a w _ hr fun a' w' g' hr' hf => hn g' a' w' Q hr' (fun a'' w'' g'' hr'' hf' => hq a'' w'' g'' hr'' (hf.trans hf'))⟩
      obtain ⟨m, hm⟩ := hl
      exact ⟨fun g a w Q hr hq => wp_loop_rounds m (hm g a w Q hr hq), fun b hb => by simp at hb; subst hb; exact ⟨m, hm⟩⟩
    | _ => trivial
  | @loopX A c st st' e _ h2 ih1 =>
    have hl : SemLoop P A c st e st' := ⟨1, fun g a w Q hr hq => ih1.1 g a w _ hr fun a' w' g' hr' hf => by
      have := hq a' w' g' hr' hf
      cases e with
      | normal => exact absurd rfl h2
      | exit id => exact this
      | ret => exact this⟩
    obtain ⟨m, hm⟩ := hl
    exact ⟨fun g a w Q hr hq => wp_loop_rounds m (hm g a w Q hr hq), fun b hb => by simp at hb; subst hb; exact ⟨m, hm⟩⟩
  | @weak A c st st' e st'' h1 _ ih =>
    refine ⟨fun g a w Q hr hq => ih.1 g a w Q (hr.wkn h1) hq, fun b hb => ?_⟩
    obtain ⟨n, hn⟩ := ih.2 b hb
    exact ⟨n, fun g a w Q hr hq => hn g a w Q (hr.wkn h1) hq⟩
  | @frz A c st st' e st'' K el rows h1 _ ih =>
    refine ⟨fun g a w Q hr hq => ?_, fun b hb => ?_⟩
    · obtain ⟨g1, r1, f1⟩ := hr.frz h1
      exact ih.1 g1 a w Q r1 (fun a' w' g' hr' hf => hq a' w' g' hr' (f1.trans hf))
    · obtain ⟨n, hn⟩ := ih.2 b hb
      exact ⟨n, fun g a w Q hr hq => by
        obtain ⟨g1, r1, f1⟩ := hr.frz h1
        exact hn g1 a w Q r1 (fun a' w' g' hr' hf => hq a' w' g' hr' (f1.trans hf))⟩
  | exit => exact ⟨fun g a w Q hr hq => wp_exit (hq a w g hr (Fr.refl _ _)), fun b hb => by simp at hb⟩
  | ret => exact ⟨fun g a w Q hr hq => wp_ret (hq a w g hr (Fr.refl _ _)), fun b hb => by simp at hb⟩
  | @call f fn c args st' e r outs h1 h2 h3 h4 h5 h6 _ h8 h9 h10 h11 ih =>
    obtain ⟨o1, o2⟩ := outsA_spec args 0 outs h10
    refine ⟨h4, by rw [h3]; exact h5, fun i cs hi => ⟨by simpa using (ptrsOk_spec args 0 h6 i cs hi).1, by simpa using o2 i cs hi⟩, h11, fun g w vs hvs hrel => ?_⟩
    rw [h3] at hrel
    refine calls_of_wp h1 h2 (ih.1 g _ w _ hrel fun a' w' g' hr' hf => ?_)
    have hnp : g'.np = args.length := by rw [hr'.np, h4]
    obtain ⟨v, hv1, hv2⟩ := results_run hr' hnp h9
    have hout : ∀ i cs, outs.lookup i = some cs → i < args.length → BoxR P g' w' i cs ∧ noOwn cs ∧ noKeys cs := by
      intro i cs hi _
      obtain ⟨⟨ds, hb, rfl⟩, m, cs0, hm, hpb⟩ := o1 i cs hi
      have hm : i = m := by omega
      subst hm
      have hnh := (ptrsOk_spec args 0 h6 i cs0 hpb).2
      have hnh : noHold (ann f) i = true := by simpa using hnh
      have hbx := hr'.bx i ds hb
      have hne : ds.map AV.norm1 ≠ [] → ds ≠ [] := fun q e => q (by rw [e]; rfl)
      refine ⟨⟨fun q => hbx.own (hne q), fun q => ?_, fun q => hbx.free (hne q)⟩, noOwn_norm1 ds, fun y hy => ?_⟩
      · obtain ⟨cur, el, m1, m2, m3⟩ := hbx.mem (hne q)
        refine ⟨cur, el, m1, by simpa using m2, fun j u x hu hx' => ?_⟩
        rw [List.getElem?_map] at hx'
        cases hz : ds[j]? with
        | none => simp [hz] at hx'
        | some z =>
          simp [hz] at hx'
          subst hx'
          obtain ⟨q1, q2⟩ := m3 j u z hu hz
          exact ⟨q1, CV.of P (q2.dr P (noHold_key hr' hnh hb hz)).1.norm1 (OwnOK.triv P (norm1_own z))⟩
      · obtain ⟨z, hz, rfl⟩ := List.mem_map.1 hy
        obtain ⟨j, hj⟩ := List.mem_iff_getElem?.1 hz
        have := noHold_key hr' hnh hb hj
        cases z <;> first | rfl | simp at this
    rcases h8 with rfl | rfl
    · exact ⟨hr'.df, v, hv1, v, g', rfl, hf, hr'.mu, hr'.kl, hv2, hout⟩
    · exact ⟨hr'.df, v, hv1, v, g', rfl, hf, hr'.mu, hr'.kl, hv2, hout⟩
  | ext h => exact h

/-- THE THEOREM: what the abstract semantics says of a call is true of the machine's. -/
theorem ev_call (hmix : P.follows .mixedOrders = true) {f : FuncId} {args : List AV} {r : AV} {outs : List (Nat × List AV)} (h : Ev P ann (.call f args) (.res r outs)) : SoundCall P ann f args r outs := ev_sound hmix h

end Go.Abs
