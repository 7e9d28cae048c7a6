/- Soundness: ways are joined; calls; the run. -/
import Derived.Test.YtkjailapincfbabGreatDoorSimE
set_option linter.unusedVariables false
set_option linter.unusedSimpArgs false
namespace Go.Sim
open Go.RowKit

variable {E : Env} {g : Gh} {f : Hf} {w : World}

theorem SI.eqb_eq : ∀ {a b : SI}, a.eqb b = true → a = b
  | .lit a, .lit b, h => by
    have h : intB a b = true := h
    rw [intB_eq] at h
    rw [of_decide_eq_true h]
  | .var a, .var b, h => by rw [(beq_iff _ _).1 (show Nat.beq a b = true from h)]
  | .add k a b, .add k' a' b', h => by
    have h : (kindB k k' && (a.eqb a' && b.eqb b')) = true := h
    rw [Bool.and_eq_true, Bool.and_eq_true] at h
    rw [kindB_iff h.1, SI.eqb_eq h.2.1, SI.eqb_eq h.2.2]
  | .sub k a b, .sub k' a' b', h => by
    have h : (kindB k k' && (a.eqb a' && b.eqb b')) = true := h
    rw [Bool.and_eq_true, Bool.and_eq_true] at h
    rw [kindB_iff h.1, SI.eqb_eq h.2.1, SI.eqb_eq h.2.2]
  | .conv k a, .conv k' a', h => by
    have h : (kindB k k' && a.eqb a') = true := h
    rw [Bool.and_eq_true] at h
    rw [kindB_iff h.1, SI.eqb_eq h.2]
  | .lit _, .var _, h => by cases h
  | .lit _, .add _ _ _, h => by cases h
  | .lit _, .sub _ _ _, h => by cases h
  | .lit _, .conv _ _, h => by cases h
  | .var _, .lit _, h => by cases h
  | .var _, .add _ _ _, h => by cases h
  | .var _, .sub _ _ _, h => by cases h
  | .var _, .conv _ _, h => by cases h
  | .add _ _ _, .lit _, h => by cases h
  | .add _ _ _, .var _, h => by cases h
  | .add _ _ _, .sub _ _ _, h => by cases h
  | .add _ _ _, .conv _ _, h => by cases h
  | .sub _ _ _, .lit _, h => by cases h
  | .sub _ _ _, .var _, h => by cases h
  | .sub _ _ _, .add _ _ _, h => by cases h
  | .sub _ _ _, .conv _ _, h => by cases h
  | .conv _ _, .lit _, h => by cases h
  | .conv _ _, .var _, h => by cases h
  | .conv _ _, .add _ _ _, h => by cases h
  | .conv _ _, .sub _ _ _, h => by cases h

theorem cpB_eq {a b : Cp} (h : cpB a b = true) : a = b := by
  cases a <;> cases b <;> first | (cases h; done) | (rw [(beq_iff _ _).1 (show Nat.beq _ _ = true from h)])

mutual
theorem svB_eq : ∀ (a b : SV), svB a b = true → a = b
  | .bool a, b, h => by
    cases b with
    | bool b => cases a <;> cases b <;> first | rfl | (simp [svB, sel] at h)
    | _ => simp [svB] at h
  | .int k a, b, h => by
    cases b with
    | int k' b =>
      simp only [svB, Bool.and_eq_true] at h
      rw [kindB_iff h.1, SI.eqb_eq h.2]
    | _ => simp [svB] at h
  | .str a, b, h => by
    cases b with
    | str b =>
      simp only [svB] at h
      rw [strB_eq] at h
      rw [of_decide_eq_true h]
    | _ => simp [svB] at h
  | .ptr a c, b, h => by
    cases b with
    | ptr a' c' =>
      simp only [svB, Bool.and_eq_true] at h
      rw [(beq_iff _ _).1 h.1, (beq_iff _ _).1 h.2]
    | _ => simp [svB] at h
  | .nilp, b, h => by cases b <;> first | rfl | (simp [svB] at h)
  | .sl a c d e, b, h => by
    cases b with
    | sl a' c' d' e' =>
      simp only [svB, Bool.and_eq_true] at h
      rw [(beq_iff _ _).1 h.1, (beq_iff _ _).1 h.2.1, (beq_iff _ _).1 h.2.2.1, cpB_eq h.2.2.2]
    | _ => simp [svB] at h
  | .sle, b, h => by cases b <;> first | rfl | (simp [svB] at h)
  | .nils, b, h => by cases b <;> first | rfl | (simp [svB] at h)
  | .mp a, b, h => by
    cases b with
    | mp b => simp only [svB] at h; rw [(beq_iff _ _).1 h]
    | _ => simp [svB] at h
  | .nilm, b, h => by cases b <;> first | rfl | (simp [svB] at h)
  | .fn fn a c, b, h => by
    cases b with
    | fn fn' a' c' =>
      cases fn with
      | func k =>
        cases fn' with
        | func k' =>
          simp only [svB, Bool.and_eq_true] at h
          rw [(beq_iff _ _).1 h.1, svsB_eq a a' h.2.1, svsB_eq c c' h.2.2]
        | _ => simp [svB] at h
      | _ => simp [svB] at h
    | _ => simp [svB] at h
  | .yld a, b, h => by simp [svB] at h
  | .nilf, b, h => by cases b <;> first | rfl | (simp [svB] at h)
  | .ifc t v, b, h => by
    cases b with
    | ifc t' v' =>
      simp only [svB, Bool.and_eq_true] at h
      rw [(beq_iff _ _).1 h.1, svB_eq v v' h.2]
    | _ => simp [svB] at h
  | .nili, b, h => by cases b <;> first | rfl | (simp [svB] at h)
  | .agg l, b, h => by
    cases b with
    | agg l' => simp only [svB] at h; rw [svsB_eq l l' h]
    | _ => simp [svB] at h
  | .tup l, b, h => by
    cases b with
    | tup l' => simp only [svB] at h; rw [svsB_eq l l' h]
    | _ => simp [svB] at h
  | .undef, b, h => by simp [svB] at h
theorem svsB_eq : ∀ (a b : List SV), svsB a b = true → a = b
  | [], [], _ => rfl
  | [], _ :: _, h => by simp [svsB] at h
  | _ :: _, [], h => by simp [svsB] at h
  | x :: l, y :: m, h => by
    simp only [svsB, Bool.and_eq_true] at h
    rw [svB_eq x y h.1, svsB_eq l m h.2]
end

theorem entsB_eq : ∀ {a b : List (SV × SV × Nat)}, entsB a b = true → a = b
  | [], [], _ => rfl
  | [], _ :: _, h => by simp [entsB] at h
  | _ :: _, [], h => by simp [entsB] at h
  | (x1, x2, x3) :: l, (y1, y2, y3) :: m, h => by
    simp only [entsB, Bool.and_eq_true] at h
    rw [svB_eq _ _ h.1, svB_eq _ _ h.2.1, (beq_iff _ _).1 h.2.2.1, entsB_eq h.2.2.2]
theorem soB_eq {a b : Option SO} (h : soB a b = true) : a = b := by
  unfold soB at h
  split at h
  · rw [Bool.and_eq_true] at h
    rw [(beq_iff _ _).1 h.1, svsB_eq _ _ h.2]
  · rw [Bool.and_eq_true] at h
    rw [(beq_iff _ _).1 h.1, entsB_eq h.2]
  · cases h

theorem meet_get {o : Hp} : ∀ (l : List Nat) (hp : Hp) (x : Nat) (z : SO), (meet o l hp).get x = some z → hp.get x = some z ∧ (x ∈ l → o.get x = some z)
  | [], hp, x, z, h => ⟨h, fun hx => by simp at hx⟩
  | y :: l, hp, x, z, h => by
    unfold meet at h
    rw [sel_if] at h
    split at h
    · rename_i hs
      obtain ⟨h1, h2⟩ := meet_get l hp x z h
      refine ⟨h1, fun hx => ?_⟩
      rcases List.mem_cons.1 hx with rfl | hx
      · rw [← soB_eq hs]; exact h1
      · exact h2 hx
    · obtain ⟨h1, h2⟩ := meet_get l _ x z h
      rw [Tr.get_set] at h1
      split at h1
      · cases h1
      · rename_i hne
        refine ⟨h1, fun hx => ?_⟩
        rcases List.mem_cons.1 hx with rfl | hx
        · exact absurd rfl hne
        · exact h2 hx
theorem meet_keep {o : Hp} : ∀ (l : List Nat) (hp : Hp) (x : Nat), x ∉ l → (meet o l hp).get x = hp.get x
  | [], _, _, _ => rfl
  | y :: l, hp, x, hx => by
    have h1 : x ≠ y := fun e => hx (by simp [e])
    have h2 : x ∉ l := fun e => hx (by simp [e])
    unfold meet
    rw [sel_if]
    split
    · exact meet_keep l hp x h2
    · rw [meet_keep l _ x h2, Tr.get_set, if_neg h1]
theorem mem_upTo : ∀ {n a x : Nat}, x ∈ upTo a n ↔ a ≤ x ∧ x < a + n
  | 0, a, x => by simp [upTo]
  | n + 1, a, x => by
    simp only [upTo, List.mem_cons]
    rw [mem_upTo]
    omega
theorem maxN_le (a b : Nat) : a ≤ maxN a b ∧ b ≤ maxN a b := by
  unfold maxN
  rw [sel_if]
  split
  · rename_i h; exact ⟨(ble_iff _ _).1 h, Nat.le_refl _⟩
  · rename_i h
    have : ¬ a ≤ b := fun hh => h ((ble_iff _ _).2 hh)
    omega

/-- Less is said. -/
structure Weak (a j : Rs) : Prop where
  pan : j.pan = a.pan
  v : j.v = a.v
  sub : ∀ x z, j.h.hp.get x = some z → a.h.hp.get x = some z
  nx : a.h.nx ≤ j.h.nx
theorem Weak.refl (a : Rs) : Weak a a := ⟨rfl, rfl, fun _ _ h => h, Nat.le_refl _⟩
theorem Weak.trans {a b c : Rs} (h : Weak a b) (k : Weak b c) : Weak a c := ⟨k.pan.trans h.pan, k.v.trans h.v, fun x z hz => h.sub x z (k.sub x z hz), Nat.le_trans h.nx k.nx⟩
theorem Weak.post {a j : Rs} (h : Weak a j) {H : Hf} {nx : Nat} {e : Ending} {w' : World} (hp : PostR g H w nx a e w') : PostR g H w nx j e w' := by
  obtain ⟨u, g', h1, h2, h3, h4, h5, h6⟩ := hp
  refine ⟨u, g', by rw [h.pan]; exact h1, by rw [h.v]; exact h2, h3.sub h.sub, ⟨h4.os, h4.tape, h4.output, h4.size, h4.le, h4.old, fun b hb ⟨id, o, c, q1, q2⟩ => h4.own b hb ⟨id, o, c, h.sub id o q1, q2⟩⟩, h5, fun x hx => h6 x (Nat.le_trans h.nx hx)⟩

theorem join2_spec {h : Hs} {a b : Rs} (ha : Fac h a.h) (hb : Fac h b.h) (hpa : a.pan = false) (hpb : b.pan = false) (hv : a.v = b.v) : Weak a (join2 h.nx a b) ∧ Weak b (join2 h.nx a b) ∧ Fac h (join2 h.nx a b).h := by
  obtain ⟨m1, m2⟩ := maxN_le a.h.nx b.h.nx
  have get : ∀ x z, (join2 h.nx a b).h.hp.get x = some z → a.h.hp.get x = some z ∧ b.h.hp.get x = some z := by
    intro x z hz
    obtain ⟨h1, h2⟩ := meet_get _ _ x z hz
    obtain ⟨h3, h4⟩ := meet_get _ _ x z h1
    refine ⟨h3, ?_⟩
    by_cases hx : x ∈ a.h.lg ++ b.h.lg
    · exact h4 hx
    · have hx1 : x ∉ a.h.lg := fun hc => hx (by simp [hc])
      have hx2 : x ∉ b.h.lg := fun hc => hx (by simp [hc])
      by_cases hl : x < h.nx
      · rw [hb.lg x hl hx2, ← ha.lg x hl hx1]; exact h3
      · by_cases hm : x < maxN a.h.nx b.h.nx
        · exact h2 (mem_upTo.2 (by
            show h.nx ≤ x ∧ x < h.nx + (maxN a.h.nx b.h.nx - h.nx)
            have := ha.nx
            omega))
        · rw [ha.bd x (by omega)] at h3; cases h3
  refine ⟨⟨hpa.symm, rfl, fun x z hz => (get x z hz).1, m1⟩, ⟨hpb.symm, hv, fun x z hz => (get x z hz).2, m2⟩, ⟨Nat.le_trans ha.nx m1, fun x hx => ?_, fun x hx hl => ?_, fun x hx => ?_, fun x hx hn => ?_⟩⟩
  · have hx : maxN a.h.nx b.h.nx ≤ x := hx
    cases hz : (join2 h.nx a b).h.hp.get x with
    | none => rfl
    | some z =>
      have := (get x z hz).1
      rw [ha.bd x (by omega)] at this; cases this
  · have hl : x ∉ a.h.lg ++ b.h.lg := hl
    show (meet b.h.hp (upTo h.nx (Nat.sub (maxN a.h.nx b.h.nx) h.nx)) (meet b.h.hp (a.h.lg ++ b.h.lg) a.h.hp)).get x = _
    rw [meet_keep _ _ _ (fun hc => by have := (mem_upTo.1 hc).1; omega), meet_keep _ _ _ hl]
    exact ha.lg x hx (fun hc => hl (by simp [hc]))
  · show x ∈ a.h.lg ++ b.h.lg
    exact List.mem_append_left _ (ha.sub x hx)
  · cases hz : (join2 h.nx a b).h.hp.get x with
    | none => rfl
    | some z =>
      have := (get x z hz).1
      rw [ha.dead x hx hn] at this; cases this

theorem joinA_spec {h : Hs} : ∀ {l : List Rs} {a : Rs} {r : List Rs}, joinA h.nx a l = .ress r → Fac h a.h → (∀ b ∈ l, Fac h b.h) → ∃ j, r = [j] ∧ Fac h j.h ∧ ∀ b ∈ a :: l, Weak b j
  | [], a, r, hr, ha, _ => by
    cases (show Out.ress [a] = .ress r from hr)
    exact ⟨a, rfl, ha, fun b hb => by obtain rfl := List.mem_singleton.1 hb; exact Weak.refl _⟩
  | b :: l, a, r, hr, ha, hl => by
    have hr : sel (a.pan || (b.pan || !svB a.v b.v)) (.fail "join") (joinA h.nx (join2 h.nx a b) l) = .ress r := hr
    rw [sel_if] at hr
    split at hr
    · cases hr
    rename_i hc
    have hc : (a.pan || (b.pan || !svB a.v b.v)) = false := by simpa using hc
    rw [Bool.or_eq_false_iff, Bool.or_eq_false_iff] at hc
    obtain ⟨c1, c2, c3⟩ := hc
    have hv := svB_eq a.v b.v (by simpa using c3)
    obtain ⟨w1, w2, f1⟩ := join2_spec ha (hl b (by simp)) c1 c2 hv
    obtain ⟨j, rfl, f2, hw⟩ := joinA_spec hr f1 (fun x hx => hl x (by simp [hx]))
    refine ⟨j, rfl, f2, fun x hx => ?_⟩
    rcases List.mem_cons.1 hx with rfl | hx
    · exact w1.trans (hw _ (by simp))
    rcases List.mem_cons.1 hx with rfl | hx
    · exact w2.trans (hw _ (by simp))
    · exact hw x (by simp [hx])

/-- What is joined is sound. -/
theorem joinK_sound {b : Bool} {fv : SV} {as : List SV} {h : Hs} {r : Out} (hs : Sound E (.call fv as h) r) : Sound E (.call fv as h) (joinK b h.nx r) := by
  unfold joinK
  cases b with
  | false => exact hs
  | true =>
    show Sound E (.call fv as h) (@Out.rec (fun _ => Out) (fun _ => .fail "join") (fun _ _ => .fail "join") (fun l => joinL h.nx l) (fun s => .fail s) (fun a b c => .trap a b c) r)
    cases r with
    | ress l =>
      show Sound E (.call fv as h) (joinL h.nx l)
      cases l with
      | nil => trivial
      | cons a l =>
        show Sound E (.call fv as h) (joinA h.nx a l)
        cases hj : joinA h.nx a l with
        | ress r =>
          intro hb
          obtain ⟨n1, f1, s1⟩ := hs hb
          obtain ⟨j, rfl, f2, hw⟩ := joinA_spec hj (f1 a (by simp)) (fun b hb => f1 b (by simp [hb]))
          refine ⟨by simp, fun x hx => ?_, fun m g w u us hE hr hnx hu hus => (s1 m g w u us hE hr hnx hu hus).mono fun e w' ⟨x, hx, hp⟩ => ⟨j, by simp, (hw x hx).post hp⟩⟩
          obtain rfl := List.mem_singleton.1 hx
          exact f2
        | _ => trivial
    | _ => trivial

/-! ### a function -/
theorem cutLg_ress {nx : Nat} {lg : List Nat} {r : Out} {l : List Rs} (h : cutLg nx lg r = .ress l) : ∃ l', r = .ress l' ∧ (l' ≠ []) ∧ (∀ x ∈ l', (⟨x.pan, x.v, ⟨x.h.hp, x.h.nx, below nx x.h.lg lg⟩⟩ : Rs) ∈ l) ∧ ∀ y ∈ l, ∃ x ∈ l', y = ⟨x.pan, x.v, ⟨x.h.hp, x.h.nx, below nx x.h.lg lg⟩⟩ := by
  obtain ⟨l', h1, h2⟩ := resK_ress h
  obtain ⟨n1, q1, q2⟩ := catL_ress h2
  have one : ∀ (x : Rs) r', sel x.pan (Out.pan x.v ⟨x.h.hp, x.h.nx, below nx x.h.lg lg⟩) (.res x.v ⟨x.h.hp, x.h.nx, below nx x.h.lg lg⟩) = .ress r' → r' = [⟨x.pan, x.v, ⟨x.h.hp, x.h.nx, below nx x.h.lg lg⟩⟩] := by
    intro x r' hx
    cases hp : x.pan with
    | false => rw [hp] at hx; cases hx; rfl
    | true => rw [hp] at hx; cases hx; rfl
  refine ⟨l', h1, n1, fun x hx => ?_, fun y hy => ?_⟩
  · obtain ⟨r', e1, e2⟩ := q1 x hx
    rw [one x r' e1] at e2
    exact e2 _ (by simp)
  · obtain ⟨x, hx, r', e1, e2⟩ := q2 y hy
    rw [one x r' e1] at e2
    exact ⟨x, hx, List.mem_singleton.1 e2⟩

/-- A function of Go's with a body. -/
theorem fun_sound (hS : EnvS E) {rec : Job → Out} (hrec : ∀ j, Sound E j (rec j)) {k : FuncId} {fn : Func} {c : Code} {fi as ca : List SV} {h : Hs} (hfn : E.fn.get k = some fn) (hbody : fn.body = some c) (hnum : fn.name ≠ "runtime.NumGoroutine") (hlen : (fi ++ as ++ ca).length ≤ fn.ntmps) :
    Sound E (.call (.fn (.func k) fi ca) as h) (retK E rec fn h.nx h.lg (rec (.code fn.ntmps c (setArgs (fi ++ as ++ ca) 0 .nil) [] ⟨h.hp, h.nx, []⟩))) := by
  cases hres : retK E rec fn h.nx h.lg (rec (.code fn.ntmps c (setArgs (fi ++ as ++ ca) 0 .nil) [] ⟨h.hp, h.nx, []⟩)) with
  | ress l =>
    intro hb
    unfold retK at hres
    obtain ⟨l1, h1, h2⟩ := onCode_ress hres
    obtain ⟨_, q1, q2⟩ := catL_ress h2
    have hs := hrec (.code fn.ntmps c (setArgs (fi ++ as ++ ca) 0 .nil) [] ⟨h.hp, h.nx, []⟩)
    rw [h1] at hs
    obtain ⟨n1, f1, s1⟩ := hs hb
    have way : ∀ o ∈ l1, ∃ u l2, endOf o.e = some u ∧ leaveD E rec fn o.tm o.dm u o.h = .ress l2 ∧ l2 ≠ [] ∧ ∀ x ∈ l2, (⟨x.pan, x.v, ⟨x.h.hp, x.h.nx, below h.nx x.h.lg h.lg⟩⟩ : Rs) ∈ l := by
      intro o ho
      obtain ⟨r', e1, e2⟩ := q1 o ho
      cases hu : endOf o.e with
      | none => rw [hu] at e1; cases e1
      | some u =>
        rw [hu] at e1
        obtain ⟨l2, e3, e4, e5, _⟩ := cutLg_ress (show cutLg h.nx h.lg (leaveD E rec fn o.tm o.dm u o.h) = .ress r' from e1)
        exact ⟨u, l2, rfl, e3, e4, fun x hx => e2 _ (e5 x hx)⟩
    have back : ∀ y ∈ l, ∃ o ∈ l1, ∃ u l2, leaveD E rec fn o.tm o.dm u o.h = .ress l2 ∧ ∃ x ∈ l2, y = ⟨x.pan, x.v, ⟨x.h.hp, x.h.nx, below h.nx x.h.lg h.lg⟩⟩ := by
      intro y hy
      obtain ⟨o, ho, r', e1, e2⟩ := q2 y hy
      cases hu : endOf o.e with
      | none => rw [hu] at e1; cases e1
      | some u =>
        rw [hu] at e1
        obtain ⟨l2, e3, e4, _, e5⟩ := cutLg_ress (show cutLg h.nx h.lg (leaveD E rec fn o.tm o.dm u o.h) = .ress r' from e1)
        obtain ⟨x, hx, e6⟩ := e5 y e2
        exact ⟨o, ho, u, l2, e3, x, hx, e6⟩
    refine ⟨?_, fun y hy => ?_, fun m g w u us hE hr hnx hu hus => ?_⟩
    · obtain ⟨o, ho⟩ := List.exists_mem_of_ne_nil _ n1
      obtain ⟨u, l2, _, _, e4, e5⟩ := way o ho
      obtain ⟨x, hx⟩ := List.exists_mem_of_ne_nil _ e4
      exact List.ne_nil_of_mem (e5 x hx)
    · obtain ⟨o, ho, u, l2, e3, x, hx, rfl⟩ := back y hy
      obtain ⟨_, f2, _⟩ := leaveD_sound hS hrec _ _ _ _ e3 (f1 o ho).1.bd
      have f3 := (f1 o ho).1.trans (f2 x hx)
      refine ⟨f3.nx, f3.bd, fun z hz hn => f3.lg z hz (fun hc => hn (mem_below.2 (.inl ⟨hc, hz⟩))), fun z hz => mem_below.2 (.inr hz), f3.dead⟩
    cases hu with
    | @fn _ first caps _ _ hv1 hv2 =>
    obtain ⟨hPf, hok⟩ := hS.fn k fn hfn
    have hargs : VRs g (first.toList ++ us ++ caps.toList) (fi ++ as ++ ca) := (hv1.append hus).append hv2
    have harr : first ++ us.toArray ++ caps = (first.toList ++ us ++ caps.toList).toArray := by apply Array.ext'; simp
    have hokc : codeOk c = true := by
      have hok : @Option.rec Code (fun _ => Bool) true codeOk fn.body = true := hok
      rw [hbody] at hok; exact hok
    refine ⟨{ target := .fn (.func k) caps, args := first ++ us.toArray }, rfl, .inl ⟨k, first ++ us.toArray ++ caps, ?_, ?_⟩⟩
    · show (callFunc k (first ++ us.toArray ++ caps)).run E.P w = _
      rcases run_callFunc_go hPf (by rw [hbody]; rfl) (first ++ us.toArray ++ caps) w with ⟨_, hc⟩ | hc
      · exact absurd hc hnum
      · exact hc
    rw [harr]
    refine callsIn_of_wp_marks (F := Fence.wide) hPf hbody trivial (wpX_in (F := fro none) ?_)
    refine s1 none m g { tmps := _, defers := [] } w _ hokc (.inl rfl) hE (FR.args hargs hlen) hr .nil hnx (fun o ho g1 a1 w1 x p0 p1 p2 p3 p4 p5 p6 => ?_)
    obtain ⟨uu, l2, hend, hlv, _, hin⟩ := way o ho
    obtain ⟨_, f2, s2⟩ := leaveD_sound hS hrec _ _ _ _ hlv (f1 o ho).1.bd
    have fin : ∀ um, URel g1 uu um → LeavesInM Fence.wide m E.P fn a1.tmps (fun e w' => ∃ r ∈ l, PostR g h.hp.get w h.nx r e w') a1.defers um w1 := by
      intro um hum
      refine s2 m _ g1 w1 a1 a1.defers um _ (hE.mono p3.le) p1 p2 p4 hum p5 (fun r hr e w' ⟨z, g', t1, t2, t3, t4, t5, t6⟩ => ?_)
      exact ⟨_, hin r hr, z, g', t1, t2, t3, p3.trans t4, fun y hy => by rw [t5 y (Nat.lt_of_lt_of_le hy (f1 o ho).1.nx), p6 y hy], t6⟩
    generalize hoe : o.e = e at p0 hend
    cases p0 with
    | normal => cases hend; exact fin .returning rfl
    | ret => cases hend; exact fin .returning rfl
    | exit id => cases hend
    | @pan v z hv => cases hend; exact fin _ ⟨z, rfl, hv⟩
  | _ => trivial

/-! ### other calls -/
theorem call_res {fv : SV} {as : List SV} {h : Hs} {v : SV} {h' : Hs} (h1 : Bd h → Fac h h' ∧ SemCall E false fv as h.hp.get h.nx v h'.hp.get h'.nx) : Sound E (.call fv as h) (.res v h') := call_one (r := ⟨false, v, h'⟩) h1

theorem still_post {g : Gh} {h : Hs} {w w' : World} (hr : HR g h.hp.get w) (hs : StillW w w') : HR g h.hp.get w' ∧ Fr g h.hp.get w g h.hp.get w' :=
  ⟨hr.grow hs.size hs.heap, ⟨hs.os, hs.tape, hs.output, hs.size, .refl _, fun b hb _ => hs.heap b hb, fun b hb hm => hm⟩⟩

theorem goFn_run {P : Program} {k : FuncId} (h : GoFn P k) (args : Array Value) (w : World) : (callFunc k args).run P w = .ok (.enter k args) w := by
  obtain ⟨fn, h1, h2, h3⟩ := h
  rcases run_callFunc_go h1 h2 args w with ⟨_, hc⟩ | hc
  · exact absurd hc h3
  · exact hc

theorem findDone_nil {k : FuncId} {l : List SV} {v : SV} (h : findDone E k l = some v) : l = [] := by
  cases l with
  | nil => rfl
  | cons a l => cases h

theorem done_sound (hS : EnvS E) {k : FuncId} {fi as ca : List SV} {h : Hs} {v : SV} (hd : findDone E k (fi ++ as ++ ca) = some v) : Sound E (.call (.fn (.func k) fi ca) as h) (.res v h) := by
  refine call_res (fun hb => ?_)
  have hnil := findDone_nil hd
  obtain ⟨hfa, rfl⟩ := List.append_eq_nil_iff.1 hnil
  obtain ⟨rfl, rfl⟩ := List.append_eq_nil_iff.1 hfa
  obtain ⟨hgo, h4⟩ := hS.done k v hd
  refine ⟨Fac.refl hb, fun m g w u us hE hr hnx hu hus => ?_⟩
  cases hu with
  | @fn _ first caps _ _ hv1 hv2 =>
  have ef : first = #[] := by
    generalize hz : first.toList = z at hv1
    cases hv1; simpa using hz
  have ec : caps = #[] := by
    generalize hz : caps.toList = z at hv2
    cases hv2; simpa using hz
  cases hus
  subst ef
  subst ec
  refine ⟨{ target := .fn (.func k) #[], args := #[] }, rfl, .inl ⟨k, #[], goFn_run hgo #[] w, ?_⟩⟩
  refine CallsIn.mono (h4 m w) ?_
  rintro e w' ⟨r, rfl, hv, hs⟩
  obtain ⟨s1, s2⟩ := still_post hr hs
  exact ⟨r, rfl, g, hv g, s1, s2, fun _ _ => rfl, hnx⟩

theorem isTiny_some {k : Nat} {l : List SV} (h : isTiny E k l = true) : ∃ t x y, l = [.ifc t x, y] ∧ tinyT k t E.tiny = true ∧ tinyS x = true ∧ isFn y = true := by
  unfold isTiny at h
  split at h
  · rename_i t x y
    rw [Bool.and_eq_true, Bool.and_eq_true] at h
    exact ⟨t, x, y, rfl, h.1, h.2.1, h.2.2⟩
  · cases h

theorem tiny_sound (hS : EnvS E) {k : FuncId} {fi as ca : List SV} {h : Hs} (ht : isTiny E k (fi ++ as ++ ca) = true) : Sound E (.call (.fn (.func k) fi ca) as h) (.res (.tup []) h) := by
  refine call_res (fun hb => ⟨Fac.refl hb, fun m g w u us hE hr hnx hu hus => ?_⟩)
  obtain ⟨t, x, y, hl, h1, h2, h3⟩ := isTiny_some ht
  obtain ⟨hgo, h4⟩ := hS.tiny k t h1
  cases hu with
  | @fn _ first caps _ _ hv1 hv2 =>
  have hargs : VRs g (first.toList ++ us ++ caps.toList) [.ifc t x, y] := by rw [← hl]; exact (hv1.append hus).append hv2
  have harr : first ++ us.toArray ++ caps = (first.toList ++ us ++ caps.toList).toArray := by apply Array.ext'; simp
  obtain ⟨v1, v2, e, r1, r2⟩ := vrs_two hargs
  rw [e] at harr
  have hy : ∃ lf la lb, v2 = .func lf la lb := by
    cases y with
    | fn f a c => cases r2; exact ⟨_, _, _, rfl⟩
    | _ => cases h3
  obtain ⟨lf, la, lb, rfl⟩ := hy
  have hx : ∃ p n c, v1 = .iface t (.slice p n c) ∧ n ≤ 1 := by
    cases r1 with
    | ifc hr1 =>
      cases x with
      | sl id off n cap => cases hr1; exact ⟨_, _, _, rfl, (ble_iff _ _).1 h2⟩
      | nils => cases hr1; exact ⟨_, _, _, rfl, Nat.zero_le _⟩
      | sle => cases hr1; exact ⟨_, _, _, rfl, Nat.zero_le _⟩
      | _ => cases h2
  obtain ⟨p, n, c, rfl, hn⟩ := hx
  refine ⟨{ target := .fn (.func k) caps, args := first ++ us.toArray }, rfl, .inl ⟨k, #[.iface t (.slice p n c), .func lf la lb], ?_, ?_⟩⟩
  · show (callFunc k (first ++ us.toArray ++ caps)).run E.P w = _
    rw [harr]
    exact goFn_run hgo _ w
  refine CallsIn.mono (h4 m w p n c lf la lb hn) ?_
  rintro e w' ⟨rfl, hs⟩
  obtain ⟨s1, s2⟩ := still_post hr hs
  exact ⟨.tuple #[], rfl, g, .tup .nil, s1, s2, fun _ _ => rfl, hnx⟩

theorem cmpStr_eq (a b : ByteArray) : Lib.compareBytes a.data.toList b.data.toList = cmpStr a b := by
  have key : ∀ (l m : List UInt8), Lib.compareBytes l m = if bytesLt l m = true then -1 else if bytesB l m = true then 0 else 1 := by
    intro l
    induction l with
    | nil => intro m; cases m <;> simp [Lib.compareBytes, bytesLt, bytesB]
    | cons x l ih =>
      intro m
      cases m with
      | nil => simp [Lib.compareBytes, bytesLt, bytesB]
      | cons y m =>
        unfold Lib.compareBytes bytesLt bytesB
        rw [ih m, sel_if, sel_if, ble_eq, beq_eq]
        have h1 : (x < y) ↔ x.toNat + 1 ≤ y.toNat := by rw [UInt8.lt_iff_toNat_lt]; omega
        have h2 : (y < x) ↔ y.toNat < x.toNat := UInt8.lt_iff_toNat_lt
        by_cases hxy : x < y
        · simp [hxy, h1.1 hxy]
        · by_cases hyx : y < x
          · have a1 : ¬ (x.toNat + 1 ≤ y.toNat) := fun h => hxy (h1.2 h)
            have a2 : ¬ (x.toNat = y.toNat) := fun h => by have := h2.1 hyx; omega
            simp [hxy, hyx, a1, a2]
          · have a1 : ¬ (x.toNat + 1 ≤ y.toNat) := fun h => hxy (h1.2 h)
            have a3 : ¬ (y.toNat < x.toNat) := fun h => hyx (h2.2 h)
            have a2 : x.toNat = y.toNat := by omega
            have a4 : ¬ (y.toNat + 1 ≤ y.toNat) := by omega
            simp [hxy, hyx, a2, a4]
  rw [key]
  unfold cmpStr
  rw [sel_if, sel_if]

theorem ext_sound (hS : EnvS E) {k : FuncId} {fn : Func} {fi as ca : List SV} {h : Hs} (hfn : E.fn.get k = some fn) (hbody : fn.body = none) : Sound E (.call (.fn (.func k) fi ca) as h) (extK fn (fi ++ as ++ ca) h) := by
  generalize hl : fi ++ as ++ ca = l
  unfold extK
  split
  rotate_left
  · trivial
  rename_i x y
  split
  rotate_left
  · trivial
  rename_i s1 hs1
  split
  rotate_left
  · trivial
  rename_i s2 hs2
  obtain rfl := strOf_some hs1
  obtain rfl := strOf_some hs2
  rw [sel_if]
  split
  rotate_left
  · trivial
  rename_i hname
  refine call_res (fun hb => ⟨Fac.refl hb, fun m g w u us hE hr hnx hu hus => ?_⟩)
  cases hu with
  | @fn _ first caps _ _ hv1 hv2 =>
  have hargs : VRs g (first.toList ++ us ++ caps.toList) [.str s1, .str s2] := by rw [← hl]; exact (hv1.append hus).append hv2
  have harr : first ++ us.toArray ++ caps = (first.toList ++ us ++ caps.toList).toArray := by apply Array.ext'; simp
  obtain ⟨v1, v2, e, h1, h2⟩ := vrs_two hargs
  rw [e] at harr
  cases h1
  cases h2
  obtain ⟨e1, e2⟩ := hS.ext k fn hfn hbody hname
  refine ⟨{ target := .fn (.func k) caps, args := first ++ us.toArray }, rfl, .inr (.inr ⟨.int .i64 (Lib.compareBytes s1.data.toList s2.data.toList), w, ?_, _, rfl, g, .int _ _ ?_, hr, Fr.refl _ _ _, fun _ _ => rfl, hnx⟩)⟩
  · show (callFunc k (first ++ us.toArray ++ caps)).run E.P w = _
    rw [harr, run_callFunc_extern (hS.fn k fn hfn).1 (by
      have : fn.name = "internal/bytealg.abigen_runtime_cmpstring" := by simpa using hname
      rw [this]; decide) (by rw [hbody]; rfl) e1 e2, Lib.run_compareString]
    rfl
  · rw [cmpStr_eq]; rfl

theorem step_call_sound (hS : EnvS E) {rec : Job → Out} (hrec : ∀ j, Sound E j (rec j)) (fv : SV) (as : List SV) (h : Hs) : Sound E (.call fv as h) (callD fv E rec as h) := by
  cases fv with
  | yld l => exact yield_sound hrec l as h
  | fn f fi ca =>
    cases f with
    | func k =>
      show Sound E _ (@Option.rec SV (fun _ => Out) (sel (isTiny E k (fi ++ as ++ ca)) (.res (.tup []) h) (funK E rec k (E.fn.get k) (fi ++ as ++ ca) h)) (fun v => .res v h) (findDone E k (fi ++ as ++ ca)))
      cases hd : findDone E k (fi ++ as ++ ca) with
      | some v => exact done_sound hS hd
      | none =>
        show Sound E _ (sel (isTiny E k (fi ++ as ++ ca)) (.res (.tup []) h) (funK E rec k (E.fn.get k) (fi ++ as ++ ca) h))
        rw [sel_if]
        split
        · rename_i ht; exact tiny_sound hS ht
        cases hfn : E.fn.get k with
        | none => trivial
        | some fn =>
          show Sound E _ (bodyOf E rec k fn (fi ++ as ++ ca) h)
          unfold bodyOf
          cases hbody : fn.body with
          | none => exact ext_sound hS hfn hbody
          | some c =>
            show Sound E _ (sel (Nat.ble (fi ++ as ++ ca).length fn.ntmps) (sel (isNumG fn.name) (.fail "NumGoroutine") (joinK (memB k E.join) h.nx (retK E rec fn h.nx h.lg (rec (.code fn.ntmps c (setArgs (fi ++ as ++ ca) 0 .nil) [] ⟨h.hp, h.nx, []⟩))))) (.fail "args"))
            rw [sel_if, sel_if]
            split
            rotate_left
            · trivial
            rename_i hlen
            split
            · trivial
            rename_i hnum
            exact joinK_sound (fun_sound hS hrec hfn hbody (fun hc => hnum (by rw [hc]; decide)) ((ble_iff _ _).1 hlen))
    | _ => trivial
  | _ => trivial

/-- THE RUN IS SOUND. -/
theorem sound_run (hS : EnvS E) : ∀ (n : Nat) (j : Job), Sound E j (run E n j)
  | 0, j => by cases j <;> trivial
  | n + 1, j => by
    have ih := sound_run hS n
    show Sound E j (step E (run E n) j)
    cases j with
    | code nt c tm mk h => exact step_code_sound hS ih nt c tm mk h
    | ops nt all l tm mk h => exact step_ops_sound ih nt all l tm mk h
    | draw nt W all base i M prev l tm h => exact step_draw_sound ih nt W all base i M prev l tm h
    | call fv as h => exact step_call_sound hS ih fv as h

end Go.Sim
