/- What a run shows of a call; the tables are held against the program. -/
import Derived.Test.YtjeenahnkcgfcaaGreatDoorSimF
set_option linter.unusedVariables false
set_option linter.unusedSimpArgs false
namespace Go.Sim
open Go.RowKit

variable {E : Env} {g : Gh} {f : Hf} {w : World}

theorem empty_HR (g : Gh) (w : World) : HR g (Tr.nil : Hp).get w := ⟨fun id o h => (by cases h), fun i j x y b c d h => (by cases h)⟩

/-- A run shows what the call returns. -/
theorem run_calls (hS : EnvS E) {n : Nat} {k : FuncId} {as : List SV} {v : SV} {h' : Hs} (hrun : run E n (.call (.fn (.func k) [] []) as ⟨.nil, 0, []⟩) = .res v h') (hgo : goFn E (.fn (.func k) [] []) = true) (hE : EnvOK E g) (hρ : ∀ x, g.ρ x = none)
    {us : List Value} (hus : VRs g us as) (m : Nat) (w : World) : CallsIn Fence.wide m E.P k us.toArray w fun e w' => ∃ r g', e = .returned r ∧ VR g' r v ∧ HR g' h'.hp.get w' ∧ Fr g (fun _ => none) w g' h'.hp.get w' := by
  have hs := sound_run hS n (.call (.fn (.func k) [] []) as ⟨.nil, 0, []⟩)
  rw [hrun] at hs
  have hb : Bd ⟨.nil, 0, []⟩ := fun x _ => rfl
  obtain ⟨_, _, sem⟩ := (show Bd ⟨.nil, 0, []⟩ → _ from hs) hb
  obtain ⟨k', fi, ca, fn, e1, hfn, hbody⟩ := goFn_some hgo
  cases e1
  obtain ⟨d, hd1, hd2⟩ := sem.one m g w (.func (.func k) #[] #[]) us hE (empty_HR g w) (fun x _ => hρ x) (.fn .nil .nil) hus
  have hd : d = { target := .fn (.func k) #[], args := #[] ++ us.toArray } := by
    rw [ofValue_func] at hd1
    cases hd1; rfl
  subst hd
  have hrun' : ∀ (args : Array Value) (w : World), (invoke (.fn (.func k) #[]) args).run E.P w = (callFunc k (args ++ #[])).run E.P w := fun _ _ => rfl
  rcases run_callFunc_go (hS.fn k fn hfn).1 hbody (#[] ++ us.toArray ++ #[]) w with ⟨hc, _⟩ | hc
  · rcases hd2 with ⟨k', as', q1, q2⟩ | ⟨l, k', t', as', b', q1, _⟩ | ⟨r, w', q1, _⟩ <;> (rw [hrun', hc] at q1; cases q1)
  · rcases hd2 with ⟨k', as', q1, q2⟩ | ⟨l, k', t', as', b', q1, _⟩ | ⟨r, w', q1, _⟩
    · rw [hrun', hc] at q1
      cases q1
      have e : #[] ++ us.toArray ++ #[] = us.toArray := by simp
      rw [e] at q2
      refine CallsIn.mono q2 ?_
      rintro e w' ⟨r, rfl, g', h1, h2, h3, _, _⟩
      exact ⟨r, g', rfl, h1, h2, h3⟩
    · rw [hrun', hc] at q1; cases q1
    · rw [hrun', hc] at q1; cases q1

/-- The ghosts at the beginning. -/
def gh0 (P : Program) (η : Nat → Int) : Gh := ⟨η, P.cellsOf, fun _ => none, fun _ => 0, fun _ => 0⟩

theorem Fr.old0 {g g' : Gh} {h' : Hf} {w w' : World} (h : Fr g (fun _ => none) w g' h' w') : ∀ b, b < w.heap.size → w'.heap[b]? = w.heap[b]? :=
  fun b hb => h.old b hb (fun ⟨id, o, c, h1, _⟩ => by cases h1)

theorem Fr.still {g g' : Gh} {h' : Hf} {w w' : World} (h : Fr g (fun _ => none) w g' h' w') : StillW w w' := ⟨h.os, h.tape, h.output, h.size, h.old0⟩

/-- A function without arguments is known by its run. -/
theorem done_of (hS : EnvS E) (hE : EnvOK E (gh0 E.P fun _ => 0)) {n : Nat} {k : FuncId} {b : Bool} {h' : Hs} (hrun : run E n (.call (.fn (.func k) [] []) [] ⟨.nil, 0, []⟩) = .res (.bool b) h') (hgo : goFn E (.fn (.func k) [] []) = true) (hnum : ∀ fn, E.fn.get k = some fn → isNumG fn.name = false) : DoneOK E.P k (.bool b) := by
  obtain ⟨k', fi, ca, fn, e1, hfn, hbody⟩ := goFn_some hgo
  cases e1
  refine ⟨⟨fn, (hS.fn k fn hfn).1, hbody, fun hc => by have := hnum fn hfn; rw [hc] at this; revert this; decide⟩, fun m w => ?_⟩
  refine CallsIn.mono (run_calls hS hrun hgo hE (fun _ => rfl) .nil m w) ?_
  rintro e w' ⟨r, g', rfl, h1, h2, h3⟩
  refine ⟨r, rfl, fun g => ?_, h3.still⟩
  cases h1
  exact .bool b

/-! ### known calls -/
/-- What a run shows, if it is what a known call says. -/
noncomputable def resM (m : Mo) (o : Out) : Bool := match o with
  | .ress [⟨false, v, h⟩] => svB v m.v && (Nat.ble h.nx m.nx' && (inB h.hp m.out && inB h.hp (m.inp.filter fun p => !memB p.1 (m.out.map (·.1)))))
  | _ => false
noncomputable def fitI (nx : Nat) : List (Nat × SO) → Bool
  | [] => true
  | p :: l => Nat.ble (Nat.succ p.1) nx && fitI nx l
noncomputable def fitO (nx nx' : Nat) (ids : List Nat) : List (Nat × SO) → Bool
  | [] => true
  | p :: l => (Nat.ble (Nat.succ p.1) nx' && (Nat.ble nx p.1 || memB p.1 ids)) && fitO nx nx' ids l
noncomputable def plainOs : List (Nat × SO) → Bool
  | [] => true
  | p :: l => plainO p.2 && plainOs l
noncomputable def fitM (m : Mo) : Bool := fitI m.nx m.inp && (fitO m.nx m.nx' (m.inp.map (·.1)) m.out && (Nat.ble m.nx m.nx' && (inSs (m.inp.map (·.1)) m.as && (inOs (m.inp.map (·.1)) m.inp && plainOs m.out))))
theorem plainOs_spec : ∀ {l : List (Nat × SO)}, plainOs l = true → ∀ p ∈ l, plainO p.2 = true
  | [], _, p, hp => by cases hp
  | x :: l, h, p, hp => by
    have h := (Bool.and_eq_true_iff).1 (show (plainO x.2 && plainOs l) = true from h)
    rcases List.mem_cons.1 hp with rfl | hp
    · exact h.1
    · exact plainOs_spec h.2 p hp
theorem fitI_spec {nx : Nat} : ∀ {l : List (Nat × SO)}, fitI nx l = true → ∀ p ∈ l, p.1 < nx
  | [], _, p, hp => by cases hp
  | x :: l, h, p, hp => by
    have h : (Nat.ble (Nat.succ x.1) nx && fitI nx l) = true := h
    rw [Bool.and_eq_true] at h
    rcases List.mem_cons.1 hp with rfl | hp
    · exact (ble_iff _ _).1 h.1
    · exact fitI_spec h.2 p hp
theorem fitO_spec {nx nx' : Nat} {ids : List Nat} : ∀ {l : List (Nat × SO)}, fitO nx nx' ids l = true → ∀ p ∈ l, p.1 < nx' ∧ (nx ≤ p.1 ∨ p.1 ∈ ids)
  | [], _, p, hp => by cases hp
  | x :: l, h, p, hp => by
    have h : ((Nat.ble (Nat.succ x.1) nx' && (Nat.ble nx x.1 || memB x.1 ids)) && fitO nx nx' ids l) = true := h
    rw [Bool.and_eq_true, Bool.and_eq_true, Bool.or_eq_true] at h
    rcases List.mem_cons.1 hp with rfl | hp
    · exact ⟨(ble_iff _ _).1 h.1.1, h.1.2.imp (fun e => (ble_iff _ _).1 e) fun e => (memB_iff _ _).1 e⟩
    · exact fitO_spec h.2 p hp
theorem fitM_spec {m : Mo} (h : fitM m = true) : MoFit m := by
  unfold fitM at h
  rw [Bool.and_eq_true, Bool.and_eq_true, Bool.and_eq_true, Bool.and_eq_true, Bool.and_eq_true] at h
  exact ⟨fitI_spec h.1, fitO_spec h.2.1, (ble_iff _ _).1 h.2.2.1, h.2.2.2.1, h.2.2.2.2.1, plainOs_spec h.2.2.2.2.2⟩
/-- A known call is known by its run. -/
theorem memo_of (hS : EnvS E) {m : Mo} {n : Nat} (hfit : fitM m = true) (hrun : resM m (run E n (.call (.fn (.func m.k) [] []) m.as ⟨mkHp m.inp .nil, m.nx, []⟩)) = true) (hgo : goFn E (.fn (.func m.k) [] []) = true) (hnum : ∀ fn, E.fn.get m.k = some fn → isNumG fn.name = false) : MoOK E m := by
  have fit := fitM_spec hfit
  obtain ⟨f1, f2, f3, f4⟩ := fit
  have hs := sound_run hS n (.call (.fn (.func m.k) [] []) m.as ⟨mkHp m.inp .nil, m.nx, []⟩)
  generalize run E n (.call (.fn (.func m.k) [] []) m.as ⟨mkHp m.inp .nil, m.nx, []⟩) = o at hrun hs
  unfold resM at hrun
  split at hrun
  rotate_left
  · cases hrun
  rename_i v h'
  rw [Bool.and_eq_true, Bool.and_eq_true, Bool.and_eq_true] at hrun
  obtain ⟨r1, r2, r3, r4⟩ := hrun
  have r1 := svB_eq _ _ r1
  have r2 := (ble_iff _ _).1 r2
  have hb : Bd ⟨mkHp m.inp .nil, m.nx, []⟩ := fun x hx => by
    show (mkHp m.inp .nil).get x = none
    rw [mkHp_out (fun hc => by
      obtain ⟨p, hp, rfl⟩ := List.mem_map.1 hc
      have := f1 p hp
      have : m.nx ≤ p.1 := hx
      omega)]
    rfl
  obtain ⟨_, _, sem⟩ := (show Bd ⟨mkHp m.inp .nil, m.nx, []⟩ → _ from hs) hb
  obtain ⟨k', fi, ca, fn, e1, hfn, hbody⟩ := goFn_some hgo
  cases e1
  refine ⟨⟨fn, (hS.fn _ fn hfn).1, hbody, fun hc => by have := hnum fn hfn; rw [hc] at this; revert this; decide⟩, ⟨f1, f2, f3, f4⟩, fun j g w us hE hr hfr hus => ?_⟩
  obtain ⟨d, hd1, hd2⟩ := sem.one j g w (.func (.func m.k) #[] #[]) us hE hr hfr (.fn .nil .nil) hus
  have hd : d = { target := .fn (.func m.k) #[], args := #[] ++ us.toArray } := by
    rw [ofValue_func] at hd1
    cases hd1; rfl
  subst hd
  have hrun' : ∀ (args : Array Value) (w : World), (invoke (.fn (.func m.k) #[]) args).run E.P w = (callFunc m.k (args ++ #[])).run E.P w := fun _ _ => rfl
  have hsub : ∀ x o, (mkHp m.out (mkHp m.inp .nil)).get x = some o → h'.hp.get x = some o := fun x o hx => by
    by_cases ho : x ∈ m.out.map (·.1)
    · obtain ⟨o', h1, h2⟩ := mkHp_isSome (t := mkHp m.inp .nil) ho
      rw [hx] at h1; cases h1
      exact inB_get r3 x o h2
    · rw [mkHp_out ho] at hx
      by_cases hi : x ∈ m.inp.map (·.1)
      · obtain ⟨o', h1, h2⟩ := mkHp_isSome (t := .nil) hi
        rw [hx] at h1; cases h1
        refine inB_get r4 x o (List.mem_filter.2 ⟨h2, ?_⟩)
        have : memB x (m.out.map (·.1)) = false := by
          cases hm : memB x (m.out.map (·.1)) with
          | false => rfl
          | true => exact absurd ((memB_iff _ _).1 hm) ho
        simp [this]
      · rw [mkHp_out hi] at hx; cases hx
  rcases run_callFunc_go (hS.fn _ fn hfn).1 hbody (#[] ++ us.toArray ++ #[]) w with ⟨hc, _⟩ | hc
  · rcases hd2 with ⟨k', as', q1, q2⟩ | ⟨l, k', t', as', b', q1, _⟩ | ⟨r, w', q1, _⟩ <;> (rw [hrun', hc] at q1; cases q1)
  · rcases hd2 with ⟨k', as', q1, q2⟩ | ⟨l, k', t', as', b', q1, _⟩ | ⟨r, w', q1, _⟩
    · rw [hrun', hc] at q1
      cases q1
      have e : #[] ++ us.toArray ++ #[] = us.toArray := by simp
      rw [e] at q2
      refine CallsIn.mono q2 ?_
      rintro e w' ⟨r, rfl, g', h1, h2, h3, h4, h5⟩
      refine ⟨r, g', rfl, by rw [← r1]; exact h1, h2.sub hsub, ⟨h3.os, h3.tape, h3.output, h3.size, h3.le, h3.old, fun b hb ⟨id, o, c, z1, z2⟩ => h3.own b hb ⟨id, o, c, hsub id o z1, z2⟩⟩, h4, fun x hx => h5 x (Nat.le_trans r2 hx)⟩
    · rw [hrun', hc] at q1; cases q1
    · rw [hrun', hc] at q1; cases q1
/-- A known call stays known where more is known of the numbers. -/
theorem MoOK.mono {E E' : Env} {m : Mo} (h : MoOK E m) (hP : E'.P = E.P) (hE : ∀ g, EnvOK E' g → EnvOK E g) : MoOK E' m := by
  obtain ⟨h1, h2, h3⟩ := h
  refine ⟨by rw [hP]; exact h1, h2, fun j g w us he hr hf hu => by rw [hP]; exact h3 j g w us (hE g he) hr hf hu⟩

/-! ### tables -/
def TrAll {α : Type} (Q : Nat → α → Prop) : Tr α → (Nat → Nat) → Prop
  | .nil, _ => True
  | .node l v r, φ => (match v with | none => True | some x => Q (φ 0) x) ∧ TrAll Q l (fun j => φ (2 * j + 1)) ∧ TrAll Q r (fun j => φ (2 * j + 2))
theorem TrAll.get {α : Type} {Q : Nat → α → Prop} : ∀ {t : Tr α} {φ : Nat → Nat}, TrAll Q t φ → ∀ i x, t.get i = some x → Q (φ i) x
  | .nil, _, _, i, x, h => by cases h
  | .node l v r, φ, ⟨h1, h2, h3⟩, i, x, h => by
    rw [Tr.get_node] at h
    split at h
    · rename_i e; subst e; subst h; exact h1
    · split at h
      · rename_i e1 e2
        have := TrAll.get h2 _ x h
        have e : 2 * (i / 2) + 1 = i := by omega
        simp only [e] at this
        exact this
      · rename_i e1 e2
        have := TrAll.get h3 _ x h
        have e : 2 * (i / 2 - 1) + 2 = i := by omega
        simp only [e] at this
        exact this

noncomputable def udOf : TypeDesc → UD
  | .bool => .bool
  | .int k => .int k
  | .string => .string
  | .pointer _ => .pointer
  | .slice e => .slice e
  | .array n e => .array n e
  | .map k e => .map k e
  | .struct fs => .struct (fs.toList.map fun f => FL.mk f.type f.offset (!(f.name == "_")))
  | .func _ _ _ => .func
  | .interface _ => .interface
  | _ => .other
noncomputable def infosB (P : Program) : List Field → Bool
  | [] => true
  | f :: fs => (P.info? f.type).isSome && infosB P fs
noncomputable def descB (P : Program) : TypeDesc → Bool
  | .struct fs => infosB P fs.toList
  | .bool | .int _ | .string | .pointer _ | .slice _ | .array _ _ | .map _ _ | .func _ _ _ | .interface _ => true
  | _ => false
noncomputable def allOne : List Value → Bool
  | [] => true
  | v :: vs => v.oneCell' && allOne vs
noncomputable def isAggV : Value → Bool
  | .agg _ => true
  | _ => false
noncomputable def zeroB (agg : Bool) (size : Nat) (z : Value) : Bool := allOne z.cells.toList && sel agg (isAggV z && Nat.beq z.cells.toList.length size) z.oneCell'
/-- A row of the table, off the program. -/
noncomputable def tiOf (P : Program) (t : TypeId) : Option TI :=
  bind2 (P.underlying t) (P.info? t) fun d f => bind1 f.zero fun z => sel (descB P d && zeroB (isAggT (udOf d)) f.size z) (some ⟨udOf d, f.size, f.bytes, constSVs z.cells.toList, f.comparable⟩) none

theorem infosB_spec {P : Program} : ∀ {fs : List Field}, infosB P fs = true → ∀ f ∈ fs, (P.info? f.type).isSome = true
  | [], _, f, hf => by simp at hf
  | x :: fs, h, f, hf => by
    unfold infosB at h
    rw [Bool.and_eq_true] at h
    rcases List.mem_cons.1 hf with rfl | hf
    · exact h.1
    · exact infosB_spec h.2 f hf
theorem allOne_VCs (g : Gh) : ∀ {vs : List Value}, allOne vs = true → VCs g vs (constSVs vs)
  | [], _ => .nil
  | v :: vs, h => by
    unfold allOne at h
    rw [Bool.and_eq_true] at h
    exact .cons h.1 (constSV_VR g v) (allOne_VCs g h.2)
theorem constSVs_length : ∀ (vs : List Value), (constSVs vs).length = vs.length
  | [] => rfl
  | v :: vs => by show (constSV v :: constSVs vs).length = _; simp [constSVs_length vs]

theorem tiOf_spec {P : Program} {t : TypeId} {i : TI} (h : tiOf P t = some i) : TIOK P t i := by
  obtain ⟨d, fi, hd, hf, h⟩ := bind2_some h
  obtain ⟨z, hz, h⟩ := bind1_some h
  obtain ⟨hc, h⟩ := sel_some h
  cases h
  rw [Bool.and_eq_true] at hc
  obtain ⟨hdb, hzb⟩ := hc
  unfold zeroB at hzb
  rw [Bool.and_eq_true] at hzb
  obtain ⟨ha, hzb⟩ := hzb
  refine ⟨?_, fi, z, hf, rfl, rfl, rfl, hz, ⟨fun g => allOne_VCs g ha, fun hagg => ?_, fun hagg => ?_⟩, fun hagg => ?_⟩
  · show DescOK P t (udOf d)
    cases d <;> first
      | exact hd
      | exact ⟨_, hd⟩
      | exact ⟨_, _, _, hd⟩
      | (refine ⟨_, hd, ?_, infosB_spec hdb⟩
         refine List.map_congr_left fun f _ => ?_
         by_cases hn : f.name = "_" <;> simp [hn])
      | (cases hdb; done)
  · have hagg : isAggT (udOf d) = true := hagg
    rw [hagg] at hzb
    have hzb : (isAggV z && Nat.beq z.cells.toList.length fi.size) = true := hzb
    rw [Bool.and_eq_true] at hzb
    cases z <;> first | exact ⟨_, rfl⟩ | (cases hzb.1; done)
  · have hagg : isAggT (udOf d) = false := hagg
    rw [hagg] at hzb
    exact hzb
  · have hagg : isAggT (udOf d) = true := hagg
    rw [hagg] at hzb
    have hzb : (isAggV z && Nat.beq z.cells.toList.length fi.size) = true := hzb
    rw [Bool.and_eq_true] at hzb
    show (constSVs z.cells.toList).length = fi.size
    rw [constSVs_length]
    exact (beq_iff _ _).1 hzb.2

end Go.Sim
