/- Soundness: ways are joined; calls; the run. -/
import Derived.Test.YtjeenahnkcgfcaaGreatDoorSimE
set_option linter.unusedVariables false
set_option linter.unusedSimpArgs false
namespace Go.Sim
open Go.RowKit

variable {E : Env} {g : Gh} {f : Hf} {w : World}

theorem SI.eqb_eq : ∀ {a b : SI}, a.eqb b = true → a = b
  | .lit a, .lit b, h => by
    have h : intB a b = true := h
    rw [intB_eq] at h
    rw [of_decide_eq_true h]
  | .var a, .var b, h => by rw [(beq_iff _ _).1 (show Nat.beq a b = true from h)]
  | .add k a b, .add k' a' b', h => by
    have h : (kindB k k' && (a.eqb a' && b.eqb b')) = true := h
    rw [Bool.and_eq_true, Bool.and_eq_true] at h
    rw [kindB_iff h.1, SI.eqb_eq h.2.1, SI.eqb_eq h.2.2]
  | .sub k a b, .sub k' a' b', h => by
    have h : (kindB k k' && (a.eqb a' && b.eqb b')) = true := h
    rw [Bool.and_eq_true, Bool.and_eq_true] at h
    rw [kindB_iff h.1, SI.eqb_eq h.2.1, SI.eqb_eq h.2.2]
  | .conv k a, .conv k' a', h => by
    have h : (kindB k k' && a.eqb a') = true := h
    rw [Bool.and_eq_true] at h
    rw [kindB_iff h.1, SI.eqb_eq h.2]
  | .lit _, .var _, h => by cases h
  | .lit _, .add _ _ _, h => by cases h
  | .lit _, .sub _ _ _, h => by cases h
  | .lit _, .conv _ _, h => by cases h
  | .var _, .lit _, h => by cases h
  | .var _, .add _ _ _, h => by cases h
  | .var _, .sub _ _ _, h => by cases h
  | .var _, .conv _ _, h => by cases h
  | .add _ _ _, .lit _, h => by cases h
  | .add _ _ _, .var _, h => by cases h
  | .add _ _ _, .sub _ _ _, h => by cases h
  | .add _ _ _, .conv _ _, h => by cases h
  | .sub _ _ _, .lit _, h => by cases h
  | .sub _ _ _, .var _, h => by cases h
  | .sub _ _ _, .add _ _ _, h => by cases h
  | .sub _ _ _, .conv _ _, h => by cases h
  | .conv _ _, .lit _, h => by cases h
  | .conv _ _, .var _, h => by cases h
  | .conv _ _, .add _ _ _, h => by cases h
  | .conv _ _, .sub _ _ _, h => by cases h

theorem cpB_eq {a b : Cp} (h : cpB a b = true) : a = b := by
  cases a <;> cases b <;> first | (cases h; done) | (rw [(beq_iff _ _).1 (show Nat.beq _ _ = true from h)])

mutual
theorem svB_eq : ∀ (a b : SV), svB a b = true → a = b
  | .bool a, b, h => by
    cases b with
    | bool b => cases a <;> cases b <;> first | rfl | (simp [svB, sel] at h)
    | _ => simp [svB] at h
  | .int k a, b, h => by
    cases b with
    | int k' b =>
      simp only [svB, Bool.and_eq_true] at h
      rw [kindB_iff h.1, SI.eqb_eq h.2]
    | _ => simp [svB] at h
  | .str a, b, h => by
    cases b with
    | str b =>
      simp only [svB] at h
      rw [strB_eq] at h
      rw [of_decide_eq_true h]
    | _ => simp [svB] at h
  | .ptr a c, b, h => by
    cases b with
    | ptr a' c' =>
      simp only [svB, Bool.and_eq_true] at h
      rw [(beq_iff _ _).1 h.1, (beq_iff _ _).1 h.2]
    | _ => simp [svB] at h
  | .nilp, b, h => by cases b <;> first | rfl | (simp [svB] at h)
  | .sl a c d e, b, h => by
    cases b with
    | sl a' c' d' e' =>
      simp only [svB, Bool.and_eq_true] at h
      rw [(beq_iff _ _).1 h.1, (beq_iff _ _).1 h.2.1, (beq_iff _ _).1 h.2.2.1, cpB_eq h.2.2.2]
    | _ => simp [svB] at h
  | .sle, b, h => by cases b <;> first | rfl | (simp [svB] at h)
  | .nils, b, h => by cases b <;> first | rfl | (simp [svB] at h)
  | .mp a, b, h => by
    cases b with
    | mp b => simp only [svB] at h; rw [(beq_iff _ _).1 h]
    | _ => simp [svB] at h
  | .nilm, b, h => by cases b <;> first | rfl | (simp [svB] at h)
  | .fn fn a c, b, h => by
    cases b with
    | fn fn' a' c' =>
      cases fn with
      | func k =>
        cases fn' with
        | func k' =>
          simp only [svB, Bool.and_eq_true] at h
          rw [(beq_iff _ _).1 h.1, svsB_eq a a' h.2.1, svsB_eq c c' h.2.2]
        | _ => simp [svB] at h
      | _ => simp [svB] at h
    | _ => simp [svB] at h
  | .yld a, b, h => by simp [svB] at h
  | .nilf, b, h => by cases b <;> first | rfl | (simp [svB] at h)
  | .ifc t v, b, h => by
    cases b with
    | ifc t' v' =>
      simp only [svB, Bool.and_eq_true] at h
      rw [(beq_iff _ _).1 h.1, svB_eq v v' h.2]
    | _ => simp [svB] at h
  | .nili, b, h => by cases b <;> first | rfl | (simp [svB] at h)
  | .agg l, b, h => by
    cases b with
    | agg l' => simp only [svB] at h; rw [svsB_eq l l' h]
    | _ => simp [svB] at h
  | .tup l, b, h => by
    cases b with
    | tup l' => simp only [svB] at h; rw [svsB_eq l l' h]
    | _ => simp [svB] at h
  | .undef, b, h => by simp [svB] at h
theorem svsB_eq : ∀ (a b : List SV), svsB a b = true → a = b
  | [], [], _ => rfl
  | [], _ :: _, h => by simp [svsB] at h
  | _ :: _, [], h => by simp [svsB] at h
  | x :: l, y :: m, h => by
    simp only [svsB, Bool.and_eq_true] at h
    rw [svB_eq x y h.1, svsB_eq l m h.2]
end

theorem entsB_eq : ∀ {a b : List (SV × SV × Nat)}, entsB a b = true → a = b
  | [], [], _ => rfl
  | [], _ :: _, h => by simp [entsB] at h
  | _ :: _, [], h => by simp [entsB] at h
  | (x1, x2, x3) :: l, (y1, y2, y3) :: m, h => by
    simp only [entsB, Bool.and_eq_true] at h
    rw [svB_eq _ _ h.1, svB_eq _ _ h.2.1, (beq_iff _ _).1 h.2.2.1, entsB_eq h.2.2.2]
theorem soB_eq {a b : Option SO} (h : soB a b = true) : a = b := by
  unfold soB at h
  split at h
  · rw [Bool.and_eq_true] at h
    rw [(beq_iff _ _).1 h.1, svsB_eq _ _ h.2]
  · rw [Bool.and_eq_true] at h
    rw [(beq_iff _ _).1 h.1, entsB_eq h.2]
  · cases h

theorem meet_get {o : Hp} : ∀ (l : List Nat) (hp : Hp) (x : Nat) (z : SO), (meet o l hp).get x = some z → hp.get x = some z ∧ (x ∈ l → o.get x = some z)
  | [], hp, x, z, h => ⟨h, fun hx => by simp at hx⟩
  | y :: l, hp, x, z, h => by
    unfold meet at h
    rw [sel_if] at h
    split at h
    · rename_i hs
      obtain ⟨h1, h2⟩ := meet_get l hp x z h
      refine ⟨h1, fun hx => ?_⟩
      rcases List.mem_cons.1 hx with rfl | hx
      · rw [← soB_eq hs]; exact h1
      · exact h2 hx
    · obtain ⟨h1, h2⟩ := meet_get l _ x z h
      rw [Tr.get_set] at h1
      split at h1
      · cases h1
      · rename_i hne
        refine ⟨h1, fun hx => ?_⟩
        rcases List.mem_cons.1 hx with rfl | hx
        · exact absurd rfl hne
        · exact h2 hx
theorem meet_keep {o : Hp} : ∀ (l : List Nat) (hp : Hp) (x : Nat), x ∉ l → (meet o l hp).get x = hp.get x
  | [], _, _, _ => rfl
  | y :: l, hp, x, hx => by
    have h1 : x ≠ y := fun e => hx (by simp [e])
    have h2 : x ∉ l := fun e => hx (by simp [e])
    unfold meet
    rw [sel_if]
    split
    · exact meet_keep l hp x h2
    · rw [meet_keep l _ x h2, Tr.get_set, if_neg h1]
theorem mem_upTo : ∀ {n a x : Nat}, x ∈ upTo a n ↔ a ≤ x ∧ x < a + n
  | 0, a, x => by simp [upTo]
  | n + 1, a, x => by
    simp only [upTo, List.mem_cons]
    rw [mem_upTo]
    omega
theorem maxN_le (a b : Nat) : a ≤ maxN a b ∧ b ≤ maxN a b := by
  unfold maxN
  rw [sel_if]
  split
  · rename_i h; exact ⟨(ble_iff _ _).1 h, Nat.le_refl _⟩
  · rename_i h
    have : ¬ a ≤ b := fun hh => h ((ble_iff _ _).2 hh)
    omega

/-- Less is said. -/
structure Weak (a j : Rs) : Prop where
  pan : j.pan = a.pan
  v : j.v = a.v
  sub : ∀ x z, j.h.hp.get x = some z → a.h.hp.get x = some z
  nx : a.h.nx ≤ j.h.nx
theorem Weak.refl (a : Rs) : Weak a a := ⟨rfl, rfl, fun _ _ h => h, Nat.le_refl _⟩
theorem Weak.trans {a b c : Rs} (h : Weak a b) (k : Weak b c) : Weak a c := ⟨k.pan.trans h.pan, k.v.trans h.v, fun x z hz => h.sub x z (k.sub x z hz), Nat.le_trans h.nx k.nx⟩
theorem Weak.post {a j : Rs} (h : Weak a j) {H : Hf} {nx : Nat} {e : Ending} {w' : World} (hp : PostR g H w nx a e w') : PostR g H w nx j e w' := by
  obtain ⟨u, g', h1, h2, h3, h4, h5, h6⟩ := hp
  refine ⟨u, g', by rw [h.pan]; exact h1, by rw [h.v]; exact h2, h3.sub h.sub, ⟨h4.os, h4.tape, h4.output, h4.size, h4.le, h4.old, fun b hb ⟨id, o, c, q1, q2⟩ => h4.own b hb ⟨id, o, c, h.sub id o q1, q2⟩⟩, h5, fun x hx => h6 x (Nat.le_trans h.nx hx)⟩

theorem join2_spec {h : Hs} {a b : Rs} (ha : Fac h a.h) (hb : Fac h b.h) (hpa : a.pan = false) (hpb : b.pan = false) (hv : a.v = b.v) : Weak a (join2 h.nx a b) ∧ Weak b (join2 h.nx a b) ∧ Fac h (join2 h.nx a b).h := by
  obtain ⟨m1, m2⟩ := maxN_le a.h.nx b.h.nx
  have get : ∀ x z, (join2 h.nx a b).h.hp.get x = some z → a.h.hp.get x = some z ∧ b.h.hp.get x = some z := by
    intro x z hz
    obtain ⟨h1, h2⟩ := meet_get _ _ x z hz
    obtain ⟨h3, h4⟩ := meet_get _ _ x z h1
    refine ⟨h3, ?_⟩
    by_cases hx : x ∈ a.h.lg ++ b.h.lg
    · exact h4 hx
    · have hx1 : x ∉ a.h.lg := fun hc => hx (by simp [hc])
      have hx2 : x ∉ b.h.lg := fun hc => hx (by simp [hc])
      by_cases hl : x < h.nx
      · rw [hb.lg x hl hx2, ← ha.lg x hl hx1]; exact h3
      · by_cases hm : x < maxN a.h.nx b.h.nx
        · exact h2 (mem_upTo.2 (by
            show h.nx ≤ x ∧ x < h.nx + (maxN a.h.nx b.h.nx - h.nx)
            have := ha.nx
            omega))
        · rw [ha.bd x (by omega)] at h3; cases h3
  refine ⟨⟨hpa.symm, rfl, fun x z hz => (get x z hz).1, m1⟩, ⟨hpb.symm, hv, fun x z hz => (get x z hz).2, m2⟩, ⟨Nat.le_trans ha.nx m1, fun x hx => ?_, fun x hx hl => ?_, fun x hx => ?_, fun x hx hn => ?_⟩⟩
  · have hx : maxN a.h.nx b.h.nx ≤ x := hx
    cases hz : (join2 h.nx a b).h.hp.get x with
    | none => rfl
    | some z =>
      have := (get x z hz).1
      rw [ha.bd x (by omega)] at this; cases this
  · have hl : x ∉ a.h.lg ++ b.h.lg := hl
    show (meet b.h.hp (upTo h.nx (Nat.sub (maxN a.h.nx b.h.nx) h.nx)) (meet b.h.hp (a.h.lg ++ b.h.lg) a.h.hp)).get x = _
    rw [meet_keep _ _ _ (fun hc => by have := (mem_upTo.1 hc).1; omega), meet_keep _ _ _ hl]
    exact ha.lg x hx (fun hc => hl (by simp [hc]))
  · show x ∈ a.h.lg ++ b.h.lg
    exact List.mem_append_left _ (ha.sub x hx)
  · cases hz : (join2 h.nx a b).h.hp.get x with
    | none => rfl
    | some z =>
      have := (get x z hz).1
      rw [ha.dead x hx hn] at this; cases this

theorem joinA_spec {h : Hs} : ∀ {l : List Rs} {a : Rs} {r : List Rs}, joinA h.nx a l = .ress r → Fac h a.h → (∀ b ∈ l, Fac h b.h) → ∃ j, r = [j] ∧ Fac h j.h ∧ ∀ b ∈ a :: l, Weak b j
  | [], a, r, hr, ha, _ => by
    cases (show Out.ress [a] = .ress r from hr)
    exact ⟨a, rfl, ha, fun b hb => by obtain rfl := List.mem_singleton.1 hb; exact Weak.refl _⟩
  | b :: l, a, r, hr, ha, hl => by
    have hr : sel (a.pan || (b.pan || !svB a.v b.v)) (.fail "join") (joinA h.nx (join2 h.nx a b) l) = .ress r := hr
    rw [sel_if] at hr
    split at hr
    · cases hr
    rename_i hc
    have hc : (a.pan || (b.pan || !svB a.v b.v)) = false := by simpa using hc
    rw [Bool.or_eq_false_iff, Bool.or_eq_false_iff] at hc
    obtain ⟨c1, c2, c3⟩ := hc
    have hv := svB_eq a.v b.v (by simpa using c3)
    obtain ⟨w1, w2, f1⟩ := join2_spec ha (hl b (by simp)) c1 c2 hv
    obtain ⟨j, rfl, f2, hw⟩ := joinA_spec hr f1 (fun x hx => hl x (by simp [hx]))
    refine ⟨j, rfl, f2, fun x hx => ?_⟩
    rcases List.mem_cons.1 hx with rfl | hx
    · exact w1.trans (hw _ (by simp))
    rcases List.mem_cons.1 hx with rfl | hx
    · exact w2.trans (hw _ (by simp))
    · exact hw x (by simp [hx])

/-- What is joined is sound. -/
theorem joinK_sound {b : Bool} {fv : SV} {as : List SV} {h : Hs} {r : Out} (hs : Sound E (.call fv as h) r) : Sound E (.call fv as h) (joinK b h.nx r) := by
  unfold joinK
  cases b with
  | false => exact hs
  | true =>
    show Sound E (.call fv as h) (@Out.rec (fun _ => Out) (fun _ => .fail "join") (fun _ _ => .fail "join") (fun l => joinL h.nx l) (fun s => .fail s) (fun a b c => .trap a b c) r)
    cases r with
    | ress l =>
      show Sound E (.call fv as h) (joinL h.nx l)
      cases l with
      | nil => trivial
      | cons a l =>
        show Sound E (.call fv as h) (joinA h.nx a l)
        cases hj : joinA h.nx a l with
        | ress r =>
          intro hb
          obtain ⟨n1, f1, s1⟩ := hs hb
          obtain ⟨j, rfl, f2, hw⟩ := joinA_spec hj (f1 a (by simp)) (fun b hb => f1 b (by simp [hb]))
          refine ⟨by simp, fun x hx => ?_, fun m g w u us hE hr hnx hu hus => (s1 m g w u us hE hr hnx hu hus).mono fun e w' ⟨x, hx, hp⟩ => ⟨j, by simp, (hw x hx).post hp⟩⟩
          obtain rfl := List.mem_singleton.1 hx
          exact f2
        | _ => trivial
    | _ => trivial

/-! ### a function -/
theorem cutLg_ress {nx : Nat} {lg : List Nat} {r : Out} {l : List Rs} (h : cutLg nx lg r = .ress l) : ∃ l', r = .ress l' ∧ (l' ≠ []) ∧ (∀ x ∈ l', (⟨x.pan, x.v, ⟨x.h.hp, x.h.nx, below nx x.h.lg lg⟩⟩ : Rs) ∈ l) ∧ ∀ y ∈ l, ∃ x ∈ l', y = ⟨x.pan, x.v, ⟨x.h.hp, x.h.nx, below nx x.h.lg lg⟩⟩ := by
  obtain ⟨l', h1, h2⟩ := resK_ress h
  obtain ⟨n1, q1, q2⟩ := catL_ress h2
  have one : ∀ (x : Rs) r', sel x.pan (Out.pan x.v ⟨x.h.hp, x.h.nx, below nx x.h.lg lg⟩) (.res x.v ⟨x.h.hp, x.h.nx, below nx x.h.lg lg⟩) = .ress r' → r' = [⟨x.pan, x.v, ⟨x.h.hp, x.h.nx, below nx x.h.lg lg⟩⟩] := by
    intro x r' hx
    cases hp : x.pan with
    | false => rw [hp] at hx; cases hx; rfl
    | true => rw [hp] at hx; cases hx; rfl
  refine ⟨l', h1, n1, fun x hx => ?_, fun y hy => ?_⟩
  · obtain ⟨r', e1, e2⟩ := q1 x hx
    rw [one x r' e1] at e2
    exact e2 _ (by simp)
  · obtain ⟨x, hx, r', e1, e2⟩ := q2 y hy
    rw [one x r' e1] at e2
    exact ⟨x, hx, List.mem_singleton.1 e2⟩

/-- A function of Go's with a body. -/
theorem fun_sound (hS : EnvS E) {rec : Job → Out} (hrec : ∀ j, Sound E j (rec j)) {k : FuncId} {fn : Func} {c : Code} {fi as ca : List SV} {h : Hs} (hfn : E.fn.get k = some fn) (hbody : fn.body = some c) (hnum : fn.name ≠ "runtime.NumGoroutine") (hlen : (fi ++ as ++ ca).length ≤ fn.ntmps) :
    Sound E (.call (.fn (.func k) fi ca) as h) (retK E rec fn h.nx h.lg (rec (.code fn.ntmps c (setArgs (fi ++ as ++ ca) 0 .nil) [] ⟨h.hp, h.nx, []⟩))) := by
  cases hres : retK E rec fn h.nx h.lg (rec (.code fn.ntmps c (setArgs (fi ++ as ++ ca) 0 .nil) [] ⟨h.hp, h.nx, []⟩)) with
  | ress l =>
    intro hb
    unfold retK at hres
    obtain ⟨l1, h1, h2⟩ := onCode_ress hres
    obtain ⟨_, q1, q2⟩ := catL_ress h2
    have hs := hrec (.code fn.ntmps c (setArgs (fi ++ as ++ ca) 0 .nil) [] ⟨h.hp, h.nx, []⟩)
    rw [h1] at hs
    obtain ⟨n1, f1, s1⟩ := hs hb
    have way : ∀ o ∈ l1, ∃ u l2, endOf o.e = some u ∧ leaveD E rec fn o.tm o.dm u o.h = .ress l2 ∧ l2 ≠ [] ∧ ∀ x ∈ l2, (⟨x.pan, x.v, ⟨x.h.hp, x.h.nx, below h.nx x.h.lg h.lg⟩⟩ : Rs) ∈ l := by
      intro o ho
      obtain ⟨r', e1, e2⟩ := q1 o ho
      cases hu : endOf o.e with
      | none => rw [hu] at e1; cases e1
      | some u =>
        rw [hu] at e1
        obtain ⟨l2, e3, e4, e5, _⟩ := cutLg_ress (show cutLg h.nx h.lg (leaveD E rec fn o.tm o.dm u o.h) = .ress r' from e1)
        exact ⟨u, l2, rfl, e3, e4, fun x hx => e2 _ (e5 x hx)⟩
    have back : ∀ y ∈ l, ∃ o ∈ l1, ∃ u l2, leaveD E rec fn o.tm o.dm u o.h = .ress l2 ∧ ∃ x ∈ l2, y = ⟨x.pan, x.v, ⟨x.h.hp, x.h.nx, below h.nx x.h.lg h.lg⟩⟩ := by
      intro y hy
      obtain ⟨o, ho, r', e1, e2⟩ := q2 y hy
      cases hu : endOf o.e with
      | none => rw [hu] at e1; cases e1
      | some u =>
        rw [hu] at e1
        obtain ⟨l2, e3, e4, _, e5⟩ := cutLg_ress (show cutLg h.nx h.lg (leaveD E rec fn o.tm o.dm u o.h) = .ress r' from e1)
        obtain ⟨x, hx, e6⟩ := e5 y e2
        exact ⟨o, ho, u, l2, e3, x, hx, e6⟩
    refine ⟨?_, fun y hy => ?_, fun m g w u us hE hr hnx hu hus => ?_⟩
    · obtain ⟨o, ho⟩ := List.exists_mem_of_ne_nil _ n1
      obtain ⟨u, l2, _, _, e4, e5⟩ := way o ho
      obtain ⟨x, hx⟩ := List.exists_mem_of_ne_nil _ e4
      exact List.ne_nil_of_mem (e5 x hx)
    · obtain ⟨o, ho, u, l2, e3, x, hx, rfl⟩ := back y hy
      obtain ⟨_, f2, _⟩ := leaveD_sound hS hrec _ _ _ _ e3 (f1 o ho).1.bd
      have f3 := (f1 o ho).1.trans (f2 x hx)
      refine ⟨f3.nx, f3.bd, fun z hz hn => f3.lg z hz (fun hc => hn (mem_below.2 (.inl ⟨hc, hz⟩))), fun z hz => mem_below.2 (.inr hz), f3.dead⟩
    cases hu with
    | @fn _ first caps _ _ hv1 hv2 =>
    obtain ⟨hPf, hok⟩ := hS.fn k fn hfn
    have hargs : VRs g (first.toList ++ us ++ caps.toList) (fi ++ as ++ ca) := (hv1.append hus).append hv2
    have harr : first ++ us.toArray ++ caps = (first.toList ++ us ++ caps.toList).toArray := by apply Array.ext'; simp
    have hokc : codeOk c = true := by
      have hok : @Option.rec Code (fun _ => Bool) true codeOk fn.body = true := hok
      rw [hbody] at hok; exact hok
    refine ⟨{ target := .fn (.func k) caps, args := first ++ us.toArray }, rfl, .inl ⟨k, first ++ us.toArray ++ caps, ?_, ?_⟩⟩
    · show (callFunc k (first ++ us.toArray ++ caps)).run E.P w = _
      rcases run_callFunc_go hPf (by rw [hbody]; rfl) (first ++ us.toArray ++ caps) w with ⟨_, hc⟩ | hc
      · exact absurd hc hnum
      · exact hc
    rw [harr]
    refine callsIn_of_wp_marks (F := Fence.wide) hPf hbody trivial (wpX_in (F := fro none) ?_)
    refine s1 none m g { tmps := _, defers := [] } w _ hokc (.inl rfl) hE (FR.args hargs hlen) hr .nil hnx (fun o ho g1 a1 w1 x p0 p1 p2 p3 p4 p5 p6 => ?_)
    obtain ⟨uu, l2, hend, hlv, _, hin⟩ := way o ho
    obtain ⟨_, f2, s2⟩ := leaveD_sound hS hrec _ _ _ _ hlv (f1 o ho).1.bd
    have fin : ∀ um, URel g1 uu um → LeavesInM Fence.wide m E.P fn a1.tmps (fun e w' => ∃ r ∈ l, PostR g h.hp.get w h.nx r e w') a1.defers um w1 := by
      intro um hum
      refine s2 m _ g1 w1 a1 a1.defers um _ (hE.mono p3.le) p1 p2 p4 hum p5 (fun r hr e w' ⟨z, g', t1, t2, t3, t4, t5, t6⟩ => ?_)
      exact ⟨_, hin r hr, z, g', t1, t2, t3, p3.trans t4, fun y hy => by rw [t5 y (Nat.lt_of_lt_of_le hy (f1 o ho).1.nx), p6 y hy], t6⟩
    generalize hoe : o.e = e at p0 hend
    cases p0 with
    | normal => cases hend; exact fin .returning rfl
    | ret => cases hend; exact fin .returning rfl
    | exit id => cases hend
    | @pan v z hv => cases hend; exact fin _ ⟨z, rfl, hv⟩
  | _ => trivial

/-! ### other calls -/
theorem call_res {fv : SV} {as : List SV} {h : Hs} {v : SV} {h' : Hs} (h1 : Bd h → Fac h h' ∧ SemCall E false fv as h.hp.get h.nx v h'.hp.get h'.nx) : Sound E (.call fv as h) (.res v h') := call_one (r := ⟨false, v, h'⟩) h1

theorem still_post {g : Gh} {h : Hs} {w w' : World} (hr : HR g h.hp.get w) (hs : StillW w w') : HR g h.hp.get w' ∧ Fr g h.hp.get w g h.hp.get w' :=
  ⟨hr.grow hs.size hs.heap, ⟨hs.os, hs.tape, hs.output, hs.size, .refl _, fun b hb _ => hs.heap b hb, fun b hb hm => hm⟩⟩

theorem goFn_run {P : Program} {k : FuncId} (h : GoFn P k) (args : Array Value) (w : World) : (callFunc k args).run P w = .ok (.enter k args) w := by
  obtain ⟨fn, h1, h2, h3⟩ := h
  rcases run_callFunc_go h1 h2 args w with ⟨_, hc⟩ | hc
  · exact absurd hc h3
  · exact hc

theorem findDone_nil {k : FuncId} {l : List SV} {v : SV} (h : findDone E k l = some v) : l = [] := by
  cases l with
  | nil => rfl
  | cons a l => cases h

theorem done_sound (hS : EnvS E) {k : FuncId} {fi as ca : List SV} {h : Hs} {v : SV} (hd : findDone E k (fi ++ as ++ ca) = some v) : Sound E (.call (.fn (.func k) fi ca) as h) (.res v h) := by
  refine call_res (fun hb => ?_)
  have hnil := findDone_nil hd
  obtain ⟨hfa, rfl⟩ := List.append_eq_nil_iff.1 hnil
  obtain ⟨rfl, rfl⟩ := List.append_eq_nil_iff.1 hfa
  obtain ⟨hgo, h4⟩ := hS.done k v hd
  refine ⟨Fac.refl hb, fun m g w u us hE hr hnx hu hus => ?_⟩
  cases hu with
  | @fn _ first caps _ _ hv1 hv2 =>
  have ef : first = #[] := by
    generalize hz : first.toList = z at hv1
    cases hv1; simpa using hz
  have ec : caps = #[] := by
    generalize hz : caps.toList = z at hv2
    cases hv2; simpa using hz
  cases hus
  subst ef
  subst ec
  refine ⟨{ target := .fn (.func k) #[], args := #[] }, rfl, .inl ⟨k, #[], goFn_run hgo #[] w, ?_⟩⟩
  refine CallsIn.mono (h4 m w) ?_
  rintro e w' ⟨r, rfl, hv, hs⟩
  obtain ⟨s1, s2⟩ := still_post hr hs
  exact ⟨r, rfl, g, hv g, s1, s2, fun _ _ => rfl, hnx⟩

theorem isTiny_some {k : Nat} {l : List SV} (h : isTiny E k l = true) : ∃ t x y, l = [.ifc t x, y] ∧ tinyT k t E.tiny = true ∧ tinyS x = true ∧ isFn y = true := by
  unfold isTiny at h
  split at h
  · rename_i t x y
    rw [Bool.and_eq_true, Bool.and_eq_true] at h
    exact ⟨t, x, y, rfl, h.1, h.2.1, h.2.2⟩
  · cases h

theorem tiny_sound (hS : EnvS E) {k : FuncId} {fi as ca : List SV} {h : Hs} (ht : isTiny E k (fi ++ as ++ ca) = true) : Sound E (.call (.fn (.func k) fi ca) as h) (.res (.tup []) h) := by
  refine call_res (fun hb => ⟨Fac.refl hb, fun m g w u us hE hr hnx hu hus => ?_⟩)
  obtain ⟨t, x, y, hl, h1, h2, h3⟩ := isTiny_some ht
  obtain ⟨hgo, h4⟩ := hS.tiny k t h1
  cases hu with
  | @fn _ first caps _ _ hv1 hv2 =>
  have hargs : VRs g (first.toList ++ us ++ caps.toList) [.ifc t x, y] := by rw [← hl]; exact (hv1.append hus).append hv2
  have harr : first ++ us.toArray ++ caps = (first.toList ++ us ++ caps.toList).toArray := by apply Array.ext'; simp
  obtain ⟨v1, v2, e, r1, r2⟩ := vrs_two hargs
  rw [e] at harr
  have hy : ∃ lf la lb, v2 = .func lf la lb := by
    cases y with
    | fn f a c => cases r2; exact ⟨_, _, _, rfl⟩
    | _ => cases h3
  obtain ⟨lf, la, lb, rfl⟩ := hy
  have hx : ∃ p n c, v1 = .iface t (.slice p n c) ∧ n ≤ 1 := by
    cases r1 with
    | ifc hr1 =>
      cases x with
      | sl id off n cap => cases hr1; exact ⟨_, _, _, rfl, (ble_iff _ _).1 h2⟩
      | nils => cases hr1; exact ⟨_, _, _, rfl, Nat.zero_le _⟩
      | sle => cases hr1; exact ⟨_, _, _, rfl, Nat.zero_le _⟩
      | _ => cases h2
  obtain ⟨p, n, c, rfl, hn⟩ := hx
  refine ⟨{ target := .fn (.func k) caps, args := first ++ us.toArray }, rfl, .inl ⟨k, #[.iface t (.slice p n c), .func lf la lb], ?_, ?_⟩⟩
  · show (callFunc k (first ++ us.toArray ++ caps)).run E.P w = _
    rw [harr]
    exact goFn_run hgo _ w
  refine CallsIn.mono (h4 m w p n c lf la lb hn) ?_
  rintro e w' ⟨rfl, hs⟩
  obtain ⟨s1, s2⟩ := still_post hr hs
  exact ⟨.tuple #[], rfl, g, .tup .nil, s1, s2, fun _ _ => rfl, hnx⟩

/-! ### known calls -/
theorem mkHp_out {x : Nat} : ∀ {l : List (Nat × SO)} {t : Hp}, x ∉ l.map (·.1) → (mkHp l t).get x = t.get x
  | [], _, _ => rfl
  | p :: l, t, h => by
    have h : x ∉ p.1 :: l.map (·.1) := h
    rw [List.mem_cons, not_or] at h
    show ((mkHp l t).set p.1 (some p.2)).get x = _
    rw [Tr.get_set, if_neg h.1, mkHp_out h.2]
theorem mkHp_in {x : Nat} {s : Hp} : ∀ {l : List (Nat × SO)} {t : Hp}, x ∈ l.map (·.1) → (mkHp l t).get x = (mkHp l s).get x
  | [], _, h => by cases h
  | p :: l, t, h => by
    show ((mkHp l t).set p.1 (some p.2)).get x = ((mkHp l s).set p.1 (some p.2)).get x
    rw [Tr.get_set, Tr.get_set]
    split
    · rfl
    · rename_i hx
      refine mkHp_in ?_
      rcases List.mem_cons.1 (show x ∈ p.1 :: l.map (·.1) from h) with e | h
      · exact absurd e hx
      · exact h
theorem mkHp_isSome {x : Nat} : ∀ {l : List (Nat × SO)} {t : Hp}, x ∈ l.map (·.1) → ∃ o, (mkHp l t).get x = some o ∧ (x, o) ∈ l
  | [], _, h => by cases h
  | p :: l, t, h => by
    by_cases hx : x = p.1
    · subst hx
      exact ⟨p.2, by show ((mkHp l t).set p.1 (some p.2)).get p.1 = _; rw [Tr.get_set, if_pos rfl], by simp⟩
    · rcases List.mem_cons.1 (show x ∈ p.1 :: l.map (·.1) from h) with e | h
      · exact absurd e hx
      · obtain ⟨o, h1, h2⟩ := mkHp_isSome (t := t) h
        refine ⟨o, ?_, List.mem_cons_of_mem _ h2⟩
        show ((mkHp l t).set p.1 (some p.2)).get x = _
        rw [Tr.get_set, if_neg hx, h1]
theorem inB_get {h : Hp} : ∀ {l : List (Nat × SO)}, inB h l = true → ∀ x o, (x, o) ∈ l → h.get x = some o
  | [], _, x, o, hm => by cases hm
  | p :: l, hb, x, o, hm => by
    have hb : (soB (h.get p.1) (some p.2) && inB h l) = true := hb
    rw [Bool.and_eq_true] at hb
    rcases List.mem_cons.1 hm with e | hm
    · cases e; exact soB_eq hb.1
    · exact inB_get hb.2 x o hm
theorem tryM_some {k : Nat} {as : List SV} {h : Hs} {m m' : Mo} (hm : tryM k as h m = some m') : ∃ τ, τ = tau (colI h.hp m.inp (colSs m.as as)) m.nx h.nx ∧ m.k = k ∧ m' = m.ren τ h.nx ∧ okRn m τ h.nx = true ∧ svsB as m'.as = true ∧ inB h.hp m'.inp = true := by
  obtain ⟨hk, hm⟩ := sel_some hm
  obtain ⟨hc, hm⟩ := sel_some (show fitsM m _ as h _ = some m' from hm)
  cases hm
  rw [Bool.and_eq_true, Bool.and_eq_true] at hc
  exact ⟨_, rfl, (beq_iff _ _).1 hk, rfl, hc.1, hc.2.1, hc.2.2⟩
theorem findMo_some {k : Nat} {as : List SV} {h : Hs} {m' : Mo} : ∀ {l : List Mo}, findMo k as h l = some m' → ∃ m ∈ l, tryM k as h m = some m'
  | [], h => by cases h
  | x :: l, hf => by
    have hf : @Option.rec Mo (fun _ => Option Mo) (findMo k as h l) (fun m' => some m') (tryM k as h x) = some m' := hf
    cases ht : tryM k as h x with
    | some y =>
      rw [ht] at hf
      cases hf
      exact ⟨x, by simp, ht⟩
    | none =>
      rw [ht] at hf
      obtain ⟨m, h1, h2⟩ := findMo_some (l := l) hf
      exact ⟨m, List.mem_cons_of_mem _ h1, h2⟩
/-- What the heap holds when a known call has been taken. -/
theorem laid_get {m : Mo} {h : Hp} (hin : inB h m.inp = true) (x : Nat) : (mkHp m.out h).get x = mixF (fun x => decide (x ∈ m.out.map (·.1)) || decide (x ∈ m.inp.map (·.1))) (mkHp m.out (mkHp m.inp .nil)).get h.get x := by
  unfold mixF
  by_cases ho : x ∈ m.out.map (·.1)
  · rw [if_pos (by simp only [Bool.or_eq_true, decide_eq_true_eq]; exact .inl ho)]
    exact mkHp_in ho
  · rw [mkHp_out ho]
    by_cases hi : x ∈ m.inp.map (·.1)
    · rw [if_pos (by simp only [Bool.or_eq_true, decide_eq_true_eq]; exact .inr hi), mkHp_out ho]
      obtain ⟨o, h1, h2⟩ := mkHp_isSome (t := .nil) hi
      rw [h1]
      exact inB_get hin x o h2
    · rw [if_neg (by simp only [Bool.or_eq_true, decide_eq_true_eq, not_or]; exact ⟨ho, hi⟩)]
/-! ### a known call at other numbers -/
/-- A ghost that is seen through a renaming. -/
def pull (τ : Nat → Nat) (D : Nat → Prop) [DecidablePred D] (g : Gh) : Gh := { g with ρ := fun id => if D id then g.ρ (τ id) else none, lim := fun id => g.lim (τ id), et := fun id => g.et (τ id) }
section
variable {τ : Nat → Nat} {D : Nat → Prop} [DecidablePred D] {S : List Nat}
theorem pull_ρ {id : Nat} (h : D id) : (pull τ D g).ρ id = g.ρ (τ id) := if_pos h
mutual
theorem VR.pull (hS : ∀ x, x ∈ S → D x) : ∀ {x : SV} {v : Value}, VR g v (renS τ x) → inS S x = true → VR (pull τ D g) v x
  | .bool b, _, h, _ => by cases (show VR g _ (.bool b) from h); exact .bool b
  | .int k e, _, h, _ => by cases (show VR g _ (.int k e) from h) with | int _ _ q => exact .int k e q
  | .str s, _, h, _ => by cases (show VR g _ (.str s) from h); exact .str s
  | .ptr a o, _, h, hs => by
    have hm := hS _ ((memB_iff _ _).1 (show memB a S = true from hs))
    cases (show VR g _ (.ptr (τ a) o) from h) with | ptr q => exact .ptr ((pull_ρ hm).trans q)
  | .nilp, _, h, _ => by cases (show VR g _ .nilp from h); exact .nilp
  | .sl a o n c, _, h, hs => by
    have hm := hS _ ((memB_iff _ _).1 (show memB a S = true from hs))
    cases (show VR g _ (.sl (τ a) o n c) from h) with | sl q h1 h2 h3 => exact .sl ((pull_ρ hm).trans q) h1 h2 h3
  | .sle, _, h, _ => by cases (show VR g _ .sle from h); exact .sle
  | .nils, _, h, _ => by cases (show VR g _ .nils from h); exact .nils
  | .mp a, _, h, hs => by
    have hm := hS _ ((memB_iff _ _).1 (show memB a S = true from hs))
    cases (show VR g _ (.mp (τ a)) from h) with | mp q => exact .mp ((pull_ρ hm).trans q)
  | .nilm, _, h, _ => by cases (show VR g _ .nilm from h); exact .nilm
  | .fn f a c, _, h, hs => by
    have hz := (Bool.and_eq_true_iff).1 (show (inSs S a && inSs S c) = true from hs)
    cases (show VR g _ (.fn f (renSs τ a) (renSs τ c)) from h) with | fn h1 h2 => exact .fn (VRs.pull hS h1 hz.1) (VRs.pull hS h2 hz.2)
  | .yld a, _, h, hs => by cases hs
  | .nilf, _, h, _ => by cases (show VR g _ .nilf from h); exact .nilf
  | .ifc t v, _, h, hs => by cases (show VR g _ (.ifc t (renS τ v)) from h) with | ifc q => exact .ifc (VR.pull hS q hs)
  | .nili, _, h, _ => by cases (show VR g _ .nili from h); exact .nili
  | .agg l, _, h, hs => by cases (show VR g _ (.agg (renSs τ l)) from h) with | agg q => exact .agg (VCs.pull hS q hs)
  | .tup l, _, h, hs => by cases (show VR g _ (.tup (renSs τ l)) from h) with | tup q => exact .tup (VRs.pull hS q hs)
  | .undef, _, h, hs => by cases hs
theorem VRs.pull (hS : ∀ x, x ∈ S → D x) : ∀ {xs : List SV} {vs : List Value}, VRs g vs (renSs τ xs) → inSs S xs = true → VRs (pull τ D g) vs xs
  | [], _, h, _ => by cases (show VRs g _ [] from h); exact .nil
  | x :: l, _, h, hs => by
    have hz := (Bool.and_eq_true_iff).1 (show (inS S x && inSs S l) = true from hs)
    cases (show VRs g _ (renS τ x :: renSs τ l) from h) with | cons h1 h2 => exact .cons (VR.pull hS h1 hz.1) (VRs.pull hS h2 hz.2)
theorem VCs.pull (hS : ∀ x, x ∈ S → D x) : ∀ {xs : List SV} {vs : List Value}, VCs g vs (renSs τ xs) → inSs S xs = true → VCs (pull τ D g) vs xs
  | [], _, h, _ => by cases (show VCs g _ [] from h); exact .nil
  | x :: l, _, h, hs => by
    have hz := (Bool.and_eq_true_iff).1 (show (inS S x && inSs S l) = true from hs)
    cases (show VCs g _ (renS τ x :: renSs τ l) from h) with | cons h1 h2 h3 => exact .cons h1 (VR.pull hS h2 hz.1) (VCs.pull hS h3 hz.2)
end
theorem EntsR.pull (hS : ∀ x, x ∈ S → D x) : ∀ {xs : List (SV × SV × Nat)} {ms : List MapEntry}, EntsR g ms (renEs τ xs) → inEs S xs = true → EntsR (pull τ D g) ms xs
  | [], _, h, _ => by cases (show EntsR g _ [] from h); exact .nil
  | x :: l, _, h, hs => by
    have hz := (Bool.and_eq_true_iff).1 (show ((inS S x.1 && inS S x.2.1) && inEs S l) = true from hs)
    have h0 := (Bool.and_eq_true_iff).1 hz.1
    cases (show EntsR g _ ((renS τ x.1, renS τ x.2.1, x.2.2) :: renEs τ l) from h) with | cons h1 h2 => exact .cons ⟨VR.pull hS h1.1 h0.1, VR.pull hS h1.2.1 h0.2, h1.2.2⟩ (EntsR.pull hS h2 hz.2)
theorem OR.pull (hS : ∀ x, x ∈ S → D x) {w : World} {id b o : Nat} {x : SO} (h : OR g w (τ id) b o (renO τ x)) (hx : inO S x = true) : OR (pull τ D g) w id b o x := by
  cases x with
  | cells e cs =>
    obtain ⟨⟨cur, h1, h0, vs, h2, h3⟩, h4⟩ := (show Cells g w (τ id) b o e (renSs τ cs) from h)
    exact ⟨⟨cur, h1, h0, vs, VCs.pull hS h2 hx, h3⟩, h4⟩
  | map es c => obtain ⟨ms, h1, h2⟩ := h; exact ⟨ms, h1, EntsR.pull hS h2 hx⟩
  | strIter s pos => cases hx
  | mapIter mp since seen last => cases hx
  | loop nt tm ps as bo st pe dd => cases hx
  | dfr => cases hx
end

/-- A ghost that knows under other numbers what another one knows. -/
structure Push (τ : Nat → Nat) (g g' : Gh) : Prop where
  η : g'.η = g.η
  sz : g'.sz = g.sz
  ρ : ∀ id p, g.ρ id = some p → g'.ρ (τ id) = some p
  lim : ∀ id p, g.ρ id = some p → g'.lim (τ id) = g.lim id
  et : ∀ id p, g.ρ id = some p → g'.et (τ id) = g.et id
section
variable {τ : Nat → Nat}
mutual
theorem VR.push {g g' : Gh} (hp : Push τ g g') : ∀ {v x}, VR g v x → VR g' v (renS τ x)
  | _, _, .bool b => .bool b
  | _, _, .int k e h => .int k e (by rw [hp.η]; exact h)
  | _, _, .str s => .str s
  | _, _, .ptr h => .ptr (hp.ρ _ _ h)
  | _, _, .nilp => .nilp
  | _, _, .sl h hn hc hl => .sl (hp.ρ _ _ h) hn hc (fun e he => by rw [hp.sz, hp.et _ _ h, hp.lim _ _ h]; exact hl e he)
  | _, _, .sle => .sle
  | _, _, .nils => .nils
  | _, _, .mp h => .mp (hp.ρ _ _ h)
  | _, _, .nilm => .nilm
  | _, _, .fn h1 h2 => .fn (h1.push hp) (h2.push hp)
  | _, _, .yld h => .yld (hp.ρ _ _ h)
  | _, _, .nilf => .nilf
  | _, _, .ifc h => .ifc (h.push hp)
  | _, _, .nili => .nili
  | _, _, .agg h => .agg (h.push hp)
  | _, _, .tup h => .tup (h.push hp)
  | _, _, .undef v => .undef v
theorem VRs.push {g g' : Gh} (hp : Push τ g g') : ∀ {v x}, VRs g v x → VRs g' v (renSs τ x)
  | _, _, .nil => .nil
  | _, _, .cons h ht => .cons (h.push hp) (ht.push hp)
theorem VCs.push {g g' : Gh} (hp : Push τ g g') : ∀ {v x}, VCs g v x → VCs g' v (renSs τ x)
  | _, _, .nil => .nil
  | _, _, .cons h1 h ht => .cons h1 (h.push hp) (ht.push hp)
end
theorem EntsR.push {g g' : Gh} (hp : Push τ g g') : ∀ {ms : List MapEntry} {xs : List (SV × SV × Nat)}, EntsR g ms xs → EntsR g' ms (renEs τ xs)
  | _, _, .nil => .nil
  | _, _, .cons h ht => .cons ⟨h.1.push hp, h.2.1.push hp, h.2.2⟩ (ht.push hp)
theorem OR.push {g g' : Gh} (hp : Push τ g g') {w : World} {id b o : Nat} {x : SO} (hρ : g.ρ id = some (b, o)) (h : OR g w id b o x) (hx : plainO x = true) : OR g' w (τ id) b o (renO τ x) := by
  cases x with
  | cells e cs =>
    obtain ⟨⟨cur, h1, h0, vs, h2, h3⟩, h4⟩ := h
    exact ⟨⟨cur, h1, by rw [hp.lim _ _ hρ]; exact h0, vs, h2.push hp, h3⟩, (hp.et _ _ hρ).trans h4⟩
  | map es c => obtain ⟨ms, h1, h2⟩ := h; exact ⟨ms, h1, h2.push hp⟩
  | strIter s pos => cases hx
  | mapIter mp since seen last => cases hx
  | loop nt tm ps as bo st pe dd => cases hx
  | dfr => cases hx

theorem renL_app (a b : List (Nat × SO)) : renL τ (a ++ b) = renL τ a ++ renL τ b := by
  induction a with
  | nil => rfl
  | cons p l ih => show (τ p.1, renO τ p.2) :: renL τ (l ++ b) = _; rw [ih]; rfl
theorem mkHp_app (a b : List (Nat × SO)) (t : Hp) : mkHp (a ++ b) t = mkHp a (mkHp b t) := by
  induction a with
  | nil => rfl
  | cons p l ih => show (mkHp (l ++ b) t).set p.1 (some p.2) = _; rw [ih]; rfl
theorem mem_renL {l : List (Nat × SO)} {q : Nat × SO} (h : q ∈ renL τ l) : ∃ p ∈ l, q = (τ p.1, renO τ p.2) := by
  induction l with
  | nil => cases h
  | cons p l ih =>
    rcases List.mem_cons.1 (show q ∈ (τ p.1, renO τ p.2) :: renL τ l from h) with e | h
    · exact ⟨p, by simp, e⟩
    · obtain ⟨p', h1, h2⟩ := ih h; exact ⟨p', List.mem_cons_of_mem _ h1, h2⟩
theorem renL_mem {l : List (Nat × SO)} {p : Nat × SO} (h : p ∈ l) : (τ p.1, renO τ p.2) ∈ renL τ l := by
  induction l with
  | nil => cases h
  | cons q l ih =>
    rcases List.mem_cons.1 h with rfl | h
    · exact List.mem_cons_self
    · exact List.mem_cons_of_mem _ (ih h)
/-- What a heap of renamed blocks holds. -/
theorem ren_get {D : Nat → Prop} (inj : ∀ i j, D i → D j → τ i = τ j → i = j) : ∀ {l : List (Nat × SO)}, (∀ p ∈ l, D p.1) → ∀ y o', (mkHp (renL τ l) .nil).get y = some o' → ∃ id o, D id ∧ id ∈ l.map (·.1) ∧ y = τ id ∧ (mkHp l .nil).get id = some o ∧ o' = renO τ o
  | [], _, y, o', h => by cases h
  | p :: l, hD, y, o', h => by
    have h : ((mkHp (renL τ l) .nil).set (τ p.1) (some (renO τ p.2))).get y = some o' := h
    have e : ∀ x, (mkHp (p :: l) .nil).get x = if x = p.1 then some p.2 else (mkHp l .nil).get x := fun x => by
      show ((mkHp l .nil).set p.1 (some p.2)).get x = _
      rw [Tr.get_set]
    rw [Tr.get_set] at h
    split at h
    · rename_i hy
      cases h
      exact ⟨p.1, p.2, hD p (by simp), by simp, hy, by rw [e, if_pos rfl], rfl⟩
    · rename_i hy
      obtain ⟨id, o, h1, h2, h3, h4, h5⟩ := ren_get inj (fun q hq => hD q (List.mem_cons_of_mem _ hq)) y o' h
      refine ⟨id, o, h1, by simp at h2 ⊢; exact .inr h2, h3, ?_, h5⟩
      rw [e, if_neg (fun hc => hy (by rw [h3, hc]))]
      exact h4
theorem get_ren {D : Nat → Prop} (inj : ∀ i j, D i → D j → τ i = τ j → i = j) : ∀ {l : List (Nat × SO)}, (∀ p ∈ l, D p.1) → ∀ id o, D id → (mkHp l .nil).get id = some o → (mkHp (renL τ l) .nil).get (τ id) = some (renO τ o)
  | [], _, id, o, _, h => by cases h
  | p :: l, hD, id, o, hid, h => by
    have h : ((mkHp l .nil).set p.1 (some p.2)).get id = some o := h
    show ((mkHp (renL τ l) .nil).set (τ p.1) (some (renO τ p.2))).get (τ id) = _
    rw [Tr.get_set] at h ⊢
    split at h
    · rename_i hy; cases h; rw [if_pos (by rw [hy])]
    · rename_i hy
      rw [if_neg (fun hc => hy (inj _ _ hid (hD p (by simp)) hc))]
      exact get_ren inj (fun q hq => hD q (List.mem_cons_of_mem _ hq)) id o hid h
theorem belowB_spec {N : Nat} : ∀ {l : List (Nat × SO)}, belowB τ N l = true → ∀ p ∈ l, τ p.1 < N
  | [], _, p, hp => by cases hp
  | x :: l, h, p, hp => by
    have h := (Bool.and_eq_true_iff).1 (show (Nat.ble (Nat.succ (τ x.1)) N && belowB τ N l) = true from h)
    rcases List.mem_cons.1 hp with rfl | hp
    · exact (ble_iff _ _).1 h.1
    · exact belowB_spec h.2 p hp
theorem diffB_spec : ∀ {l : List (Nat × SO)}, diffB τ l = true → ∀ i j, i ∈ l.map (·.1) → j ∈ l.map (·.1) → τ i = τ j → i = j
  | [], _, i, j, hi, _, _ => by cases hi
  | x :: l, h, i, j, hi, hj, e => by
    have h := (Bool.and_eq_true_iff).1 (show (!memB (τ x.1) (l.map fun q => τ q.1) && diffB τ l) = true from h)
    have hn : ∀ k, k ∈ l.map (·.1) → τ x.1 ≠ τ k := fun k hk hc => by
      have hm : τ x.1 ∈ l.map fun q => τ q.1 := by
        obtain ⟨q, hq, rfl⟩ := List.mem_map.1 hk
        rw [hc]
        exact List.mem_map.2 ⟨q, hq, rfl⟩
      rw [(memB_iff _ _).2 hm] at h
      cases h.1
    rcases List.mem_cons.1 (show i ∈ x.1 :: l.map (·.1) from hi) with ei | hi
    · rcases List.mem_cons.1 (show j ∈ x.1 :: l.map (·.1) from hj) with ej | hj
      · rw [ei, ej]
      · rw [ei] at e; exact absurd e (hn j hj)
    · rcases List.mem_cons.1 (show j ∈ x.1 :: l.map (·.1) from hj) with ej | hj
      · rw [ej] at e; exact absurd e.symm (hn i hi)
      · exact diffB_spec h.2 i j hi hj e
end

theorem inOs_mem {S : List Nat} : ∀ {l : List (Nat × SO)}, inOs S l = true → ∀ x o, (x, o) ∈ l → inO S o = true
  | [], _, x, o, h => by cases h
  | p :: l, hb, x, o, h => by
    have hb := (Bool.and_eq_true_iff).1 (show (inO S p.2 && inOs S l) = true from hb)
    rcases List.mem_cons.1 h with e | h
    · cases e; exact hb.1
    · exact inOs_mem hb.2 x o h
mutual
theorem inS_ren {τ : Nat → Nat} {S S' : List Nat} (hS : ∀ x, x ∈ S → τ x ∈ S') : ∀ (x : SV), inS S x = true → inS S' (renS τ x) = true
  | .bool _, _ => rfl
  | .int _ _, _ => rfl
  | .str _, _ => rfl
  | .ptr a _, h => (memB_iff _ _).2 (hS _ ((memB_iff _ _).1 (show memB a S = true from h)))
  | .nilp, _ => rfl
  | .sl a _ _ _, h => (memB_iff _ _).2 (hS _ ((memB_iff _ _).1 (show memB a S = true from h)))
  | .sle, _ => rfl
  | .nils, _ => rfl
  | .mp a, h => (memB_iff _ _).2 (hS _ ((memB_iff _ _).1 (show memB a S = true from h)))
  | .nilm, _ => rfl
  | .fn _ a c, h => by
    have h := (Bool.and_eq_true_iff).1 (show (inSs S a && inSs S c) = true from h)
    exact (Bool.and_eq_true_iff).2 ⟨inSs_ren hS a h.1, inSs_ren hS c h.2⟩
  | .yld _, h => by cases h
  | .nilf, _ => rfl
  | .ifc _ v, h => inS_ren hS v h
  | .nili, _ => rfl
  | .agg l, h => inSs_ren hS l h
  | .tup l, h => inSs_ren hS l h
  | .undef, h => by cases h
theorem inSs_ren {τ : Nat → Nat} {S S' : List Nat} (hS : ∀ x, x ∈ S → τ x ∈ S') : ∀ (l : List SV), inSs S l = true → inSs S' (renSs τ l) = true
  | [], _ => rfl
  | x :: l, h => by
    have h := (Bool.and_eq_true_iff).1 (show (inS S x && inSs S l) = true from h)
    exact (Bool.and_eq_true_iff).2 ⟨inS_ren hS x h.1, inSs_ren hS l h.2⟩
end
theorem inEs_ren {τ : Nat → Nat} {S S' : List Nat} (hS : ∀ x, x ∈ S → τ x ∈ S') : ∀ (l : List (SV × SV × Nat)), inEs S l = true → inEs S' (renEs τ l) = true
  | [], _ => rfl
  | x :: l, h => by
    have h := (Bool.and_eq_true_iff).1 (show ((inS S x.1 && inS S x.2.1) && inEs S l) = true from h)
    have h0 := (Bool.and_eq_true_iff).1 h.1
    exact (Bool.and_eq_true_iff).2 ⟨(Bool.and_eq_true_iff).2 ⟨inS_ren hS _ h0.1, inS_ren hS _ h0.2⟩, inEs_ren hS l h.2⟩
theorem inOs_ren {τ : Nat → Nat} {S S' : List Nat} (hS : ∀ x, x ∈ S → τ x ∈ S') : ∀ (l : List (Nat × SO)), inOs S l = true → inOs S' (renL τ l) = true
  | [], _ => rfl
  | p :: l, h => by
    have h := (Bool.and_eq_true_iff).1 (show (inO S p.2 && inOs S l) = true from h)
    refine (Bool.and_eq_true_iff).2 ⟨?_, inOs_ren hS l h.2⟩
    have h1 := h.1
    cases hp : p.2 with
    | cells e cs => rw [hp] at h1; exact inSs_ren hS cs h1
    | map es c => rw [hp] at h1; exact inEs_ren hS es h1
    | strIter s pos => rw [hp] at h1; cases h1
    | mapIter mp since seen last => rw [hp] at h1; cases h1
    | loop nt tm ps as bo st pe dd => rw [hp] at h1; cases h1
    | dfr => rw [hp] at h1; cases h1
theorem inO_plain {S : List Nat} {o : SO} (h : inO S o = true) : plainO o = true := by cases o <;> first | rfl | (cases h)
theorem plain_ren {τ : Nat → Nat} {o : SO} (h : plainO o = true) : plainO (renO τ o) = true := by cases o <;> first | rfl | (cases h)

theorem tau_lo {σ : List (Nat × Nat)} {nx N a : Nat} (h : nx ≤ a) : tau σ nx N a = N + (a - nx) := by
  unfold tau
  rw [sel_if, if_pos ((ble_iff _ _).2 h)]
  rfl

/-- A KNOWN CALL IS KNOWN AT OTHER NUMBERS. -/
theorem MoOK.ren {m : Mo} (h : MoOK E m) {σ : List (Nat × Nat)} {N : Nat} (hok : okRn m (tau σ m.nx N) N = true) : MoOK E (m.ren (tau σ m.nx N) N) := by
  generalize hτ : tau σ m.nx N = τ at hok
  obtain ⟨hgo, ⟨f1, f2, f3, f4, f5, f6⟩, sem⟩ := h
  obtain ⟨k1, k2⟩ := (Bool.and_eq_true_iff).1 (show (belowB τ N m.inp && diffB τ m.inp) = true from hok)
  have thi : ∀ a, m.nx ≤ a → τ a = N + (a - m.nx) := fun a ha => by rw [← hτ]; exact tau_lo ha
  have tlo : ∀ a, a ∈ m.inp.map (·.1) → τ a < N := fun a ha => by
    obtain ⟨p, hp, rfl⟩ := List.mem_map.1 ha
    exact belowB_spec k1 p hp
  have slo : ∀ a, a ∈ m.inp.map (·.1) → a < m.nx := fun a ha => by
    obtain ⟨p, hp, rfl⟩ := List.mem_map.1 ha
    exact f1 p hp
  let D : Nat → Prop := fun a => a ∈ m.inp.map (·.1) ∨ m.nx ≤ a
  have inj : ∀ i j, D i → D j → τ i = τ j → i = j := fun i j hi hj e => by
    rcases hi with hi | hi <;> rcases hj with hj | hj
    · exact diffB_spec k2 i j hi hj e
    · have := tlo i hi; rw [thi j hj] at e; omega
    · have := tlo j hj; rw [thi i hi] at e; omega
    · rw [thi i hi, thi j hj] at e; omega
  have Dinp : ∀ p ∈ m.inp, D p.1 := fun p hp => .inl (List.mem_map.2 ⟨p, hp, rfl⟩)
  have Dout : ∀ p ∈ m.out, D p.1 := fun p hp => (f2 p hp).2.symm
  have ee : ∀ (a b : List (Nat × SO)), mkHp (renL τ a) (mkHp (renL τ b) .nil) = mkHp (renL τ (a ++ b)) .nil := fun a b => by rw [renL_app, mkHp_app]
  refine ⟨hgo, ⟨fun p hp => ?_, fun p hp => ?_, Nat.le_add_right _ _, ?_, ?_, fun p hp => ?_⟩, fun j g w us hE hr hfr hus => ?_⟩
  · obtain ⟨q, hq, rfl⟩ := mem_renL hp
    exact belowB_spec k1 q hq
  · obtain ⟨q, hq, rfl⟩ := mem_renL hp
    obtain ⟨z1, z2⟩ := f2 q hq
    show τ q.1 < N + (m.nx' - m.nx) ∧ (N ≤ τ q.1 ∨ τ q.1 ∈ (renL τ m.inp).map (·.1))
    rcases z2 with z2 | z2
    · rw [thi _ z2]; exact ⟨by omega, .inl (by omega)⟩
    · have := tlo _ z2
      obtain ⟨p, hp, e⟩ := List.mem_map.1 z2
      exact ⟨by omega, .inr (List.mem_map.2 ⟨_, renL_mem hp, by show τ p.1 = τ q.1; rw [e]⟩)⟩
  · refine inSs_ren (fun x hx => ?_) _ f4
    obtain ⟨p, hp, rfl⟩ := List.mem_map.1 hx
    exact List.mem_map.2 ⟨_, renL_mem hp, rfl⟩
  · refine inOs_ren (fun x hx => ?_) _ f5
    obtain ⟨p, hp, rfl⟩ := List.mem_map.1 hx
    exact List.mem_map.2 ⟨_, renL_mem hp, rfl⟩
  · obtain ⟨q, hq, rfl⟩ := mem_renL hp
    exact plain_ren (f6 q hq)
  have hfr : ∀ x, N ≤ x → g.ρ x = none := hfr
  have hr : HR g (mkHp (renL τ m.inp) .nil).get w := hr
  have hDS : ∀ x, x ∈ m.inp.map (·.1) → D x := fun x hx => .inl hx
  letI : DecidablePred D := fun a => inferInstanceAs (Decidable (_ ∨ _))
  generalize hg1 : pull τ D g = g1
  have r1 : ∀ id, D id → g1.ρ id = g.ρ (τ id) := fun id hd => by rw [← hg1]; exact pull_ρ hd
  have r2 : ∀ id, ¬ D id → g1.ρ id = none := fun id hd => by rw [← hg1]; exact if_neg hd
  have inpS : ∀ id o, (mkHp m.inp .nil).get id = some o → id ∈ m.inp.map (·.1) ∧ (id, o) ∈ m.inp := fun id o ho => by
    by_cases hi : id ∈ m.inp.map (·.1)
    · obtain ⟨o', h1, h2⟩ := mkHp_isSome (t := .nil) hi
      rw [ho] at h1; cases h1
      exact ⟨hi, h2⟩
    · rw [mkHp_out hi] at ho; cases ho
  have hE1 : EnvOK E g1 := by rw [← hg1]; exact ⟨hE.ty, hE.fn, hE.lt, hE.eq, hE.mix, hE.sz⟩
  have hr1 : HR g1 (mkHp m.inp .nil).get w := by
    refine ⟨fun id o ho => ?_, fun i k x y b c d hx hy e1 e2 => ?_⟩
    · obtain ⟨s1, s2⟩ := inpS id o ho
      obtain ⟨b, c, q1, q2, q3⟩ := hr.ob _ _ (get_ren inj Dinp id o (hDS id s1) ho)
      refine ⟨b, c, (r1 id (hDS id s1)).trans q1, q2, ?_⟩
      rw [← hg1]
      exact OR.pull hDS q3 (inOs_mem f5 id o s2)
    · obtain ⟨s1, _⟩ := inpS i x hx
      obtain ⟨t1, _⟩ := inpS k y hy
      rw [r1 i (hDS i s1)] at e1
      rw [r1 k (hDS k t1)] at e2
      exact inj i k (hDS i s1) (hDS k t1) (hr.inj _ _ _ _ _ _ _ (get_ren inj Dinp i x (hDS i s1) hx) (get_ren inj Dinp k y (hDS k t1) hy) e1 e2)
  refine CallsIn.mono (sem j g1 w us hE1 hr1 (fun x hx => ?_) (by rw [← hg1]; exact VRs.pull hDS hus f4)) ?_
  · rw [r1 x (.inr hx), thi x hx]
    exact hfr _ (Nat.le_add_right _ _)
  rintro e w' ⟨r, g1', rfl, h1, h2, h3, h4, h5⟩
  -- the ghost behind the call
  let g' : Gh := { g with ρ := fun y => if y < N then g.ρ y else g1'.ρ (m.nx + (y - N)), lim := fun y => if y < N then g.lim y else g1'.lim (m.nx + (y - N)), et := fun y => if y < N then g.et y else g1'.et (m.nx + (y - N)) }
  have gη : g1.η = g.η := by rw [← hg1]; rfl
  have gsz : g1.sz = g.sz := by rw [← hg1]; rfl
  have some_D : ∀ id p, g1'.ρ id = some p → D id := fun id p hp => by
    by_cases hx : m.nx ≤ id
    · exact .inr hx
    · rw [h4 id (by omega)] at hp
      by_cases hd : D id
      · exact hd
      · rw [r2 id hd] at hp; cases hp
  have push : Push τ g1' g' := by
    refine ⟨by show g.η = g1'.η; rw [h3.le.η, gη], by show g.sz = g1'.sz; rw [h3.le.sz, gsz], fun id p hp => ?_, fun id p hp => ?_, fun id p hp => ?_⟩
    · show (if τ id < N then g.ρ (τ id) else g1'.ρ (m.nx + (τ id - N))) = some p
      rcases some_D id p hp with hd | hd
      · rw [if_pos (tlo id hd), ← r1 id (.inl hd), ← h4 id (slo id hd)]; exact hp
      · rw [thi id hd, if_neg (by omega), show m.nx + (N + (id - m.nx) - N) = id by omega]; exact hp
    · show (if τ id < N then g.lim (τ id) else g1'.lim (m.nx + (τ id - N))) = _
      rcases some_D id p hp with hd | hd
      · rw [if_pos (tlo id hd)]
        have hp' : g1.ρ id = some p := by rw [← h4 id (slo id hd)]; exact hp
        rw [h3.le.lim id p hp', ← hg1]; rfl
      · rw [thi id hd, if_neg (by omega), show m.nx + (N + (id - m.nx) - N) = id by omega]
    · show (if τ id < N then g.et (τ id) else g1'.et (m.nx + (τ id - N))) = _
      rcases some_D id p hp with hd | hd
      · rw [if_pos (tlo id hd)]
        have hp' : g1.ρ id = some p := by rw [← h4 id (slo id hd)]; exact hp
        rw [h3.le.et id p hp', ← hg1]; rfl
      · rw [thi id hd, if_neg (by omega), show m.nx + (N + (id - m.nx) - N) = id by omega]
  have Dall : ∀ p ∈ m.out ++ m.inp, D p.1 := fun p hp => (List.mem_append.1 hp).elim (Dout p) (Dinp p)
  have plainAll : ∀ id o, (mkHp m.out (mkHp m.inp .nil)).get id = some o → plainO o = true := fun id o ho => by
    rw [← mkHp_app] at ho
    by_cases hi : id ∈ (m.out ++ m.inp).map (·.1)
    · obtain ⟨o', q1, q2⟩ := mkHp_isSome (t := .nil) hi
      rw [ho] at q1; cases q1
      rcases List.mem_append.1 q2 with q2 | q2
      · exact f6 _ q2
      · exact inO_plain (inOs_mem f5 _ _ q2)
    · rw [mkHp_out hi] at ho; cases ho
  have back : ∀ y o', (mkHp (renL τ m.out) (mkHp (renL τ m.inp) .nil)).get y = some o' → ∃ id o, D id ∧ y = τ id ∧ (mkHp m.out (mkHp m.inp .nil)).get id = some o ∧ o' = renO τ o := fun y o' hy => by
    rw [ee] at hy
    obtain ⟨id, o, q1, _, q3, q4, q5⟩ := ren_get inj Dall y o' hy
    rw [mkHp_app] at q4
    exact ⟨id, o, q1, q3, q4, q5⟩
  have ρ' : ∀ id, D id → g'.ρ (τ id) = g1'.ρ id := fun id hd => by
    cases hp : g1'.ρ id with
    | some p => exact push.ρ id p hp
    | none =>
      show (if τ id < N then g.ρ (τ id) else g1'.ρ (m.nx + (τ id - N))) = none
      rcases hd with hd | hd
      · rw [if_pos (tlo id hd), ← r1 id (.inl hd), ← h4 id (slo id hd)]; exact hp
      · rw [thi id hd, if_neg (by omega), show m.nx + (N + (id - m.nx) - N) = id by omega]; exact hp
  have mine1 : ∀ b, Mine g1 (mkHp m.inp .nil).get b → Mine g (mkHp (renL τ m.inp) .nil).get b := fun b ⟨id, o, c, z1, z2⟩ => by
    obtain ⟨s1, _⟩ := inpS id o z1
    rw [r1 id (hDS id s1)] at z2
    exact ⟨τ id, _, c, get_ren inj Dinp id o (hDS id s1) z1, z2⟩
  refine ⟨r, g', rfl, h1.push push, ⟨fun y o' hy => ?_, fun i k x y b c d hx hy e1 e2 => ?_⟩, ⟨h3.os, h3.tape, h3.output, h3.size, ⟨rfl, rfl, fun y p hy => ?_, fun y p hy => ?_, fun y p hy => ?_⟩, fun b hb hn => h3.old b hb (fun hc => hn (mine1 b hc)), fun b hb hm => ?_⟩, fun y hy => if_pos hy, fun y hy => ?_⟩
  · obtain ⟨id, o, q1, rfl, q3, rfl⟩ := back y o' hy
    obtain ⟨b, c, z1, z2, z3⟩ := h2.ob id o q3
    exact ⟨b, c, (ρ' id q1).trans z1, z2, z3.push push z1 (plainAll id o q3)⟩
  · obtain ⟨i', x', q1, rfl, q3, rfl⟩ := back i x hx
    obtain ⟨k', y', p1, rfl, p3, rfl⟩ := back k y hy
    rw [ρ' i' q1] at e1
    rw [ρ' k' p1] at e2
    rw [h2.inj i' k' x' y' b c d q3 p3 e1 e2]
  · have hlt : y < N := by
      by_cases hy' : y < N
      · exact hy'
      · rw [hfr y (by omega)] at hy; cases hy
    exact (if_pos hlt).trans hy
  · have hlt : y < N := by
      by_cases hy' : y < N
      · exact hy'
      · rw [hfr y (by omega)] at hy; cases hy
    exact if_pos hlt
  · have hlt : y < N := by
      by_cases hy' : y < N
      · exact hy'
      · rw [hfr y (by omega)] at hy; cases hy
    exact if_pos hlt
  · refine mine1 b (h3.own b hb ?_)
    obtain ⟨y, o', c, z1, z2⟩ := hm
    obtain ⟨id, o, q1, rfl, q3, rfl⟩ := back y o' z1
    rw [ρ' id q1] at z2
    exact ⟨id, o, c, q3, z2⟩
  · have hy : N + (m.nx' - m.nx) ≤ y := hy
    show (if y < N then g.ρ y else g1'.ρ (m.nx + (y - N))) = none
    rw [if_neg (by omega)]
    exact h5 _ (by omega)

theorem memo_sound (hS : EnvS E) {k : FuncId} {fi as ca : List SV} {h : Hs} {m : Mo} (hm : findMo k (fi ++ as ++ ca) h E.memo = some m) : Sound E (.call (.fn (.func k) fi ca) as h) (.res m.v (laidM m h)) := by
  obtain ⟨m0, hmem, hb⟩ := findMo_some hm
  obtain ⟨τ, hτ, hk, em, hok, has, hin⟩ := tryM_some hb
  have hmo : MoOK E m := by rw [em, hτ]; exact (hS.memo m0 hmem).ren (by rw [← hτ]; exact hok)
  have hnx : h.nx = m.nx := by rw [em]; rfl
  obtain rfl : m.k = k := by rw [em]; exact hk
  have has := svsB_eq _ _ has
  obtain ⟨hgo, fit, sem⟩ := hmo
  obtain ⟨f1, f2, f3, _⟩ := fit
  unfold laidM
  have oid : ∀ x, x ∈ m.out.map (·.1) → x < m.nx' ∧ (m.nx ≤ x ∨ x ∈ m.inp.map (·.1)) := fun x hx => by
    obtain ⟨p, hp, rfl⟩ := List.mem_map.1 hx
    exact f2 p hp
  have live : ∀ x, x ∈ m.inp.map (·.1) → ∃ o, h.hp.get x = some o ∧ (mkHp m.inp .nil).get x = some o := fun x hx => by
    obtain ⟨o, h1, h2⟩ := mkHp_isSome (t := .nil) hx
    exact ⟨o, inB_get hin x o h2, h1⟩
  refine call_res (fun hbd => ⟨⟨Nat.le_trans (Nat.le_of_eq hnx) f3, fun x hx => ?_, fun x hx hn => ?_, fun x hx => List.mem_append_right _ hx, fun x hx hn => ?_⟩, fun j g w u us hE hr hfr hu hus => ?_⟩)
  · show (mkHp m.out h.hp).get x = none
    rw [mkHp_out (fun hc => by have := (oid x hc).1; have : m.nx' ≤ x := hx; omega)]
    have : m.nx' ≤ x := hx
    exact hbd x (show h.nx ≤ x by omega)
  · show (mkHp m.out h.hp).get x = _
    exact mkHp_out (fun hc => hn (List.mem_append_left _ hc))
  · show (mkHp m.out h.hp).get x = none
    rw [mkHp_out (fun hc => ?_)]
    · exact hn
    rcases (oid x hc).2 with h1 | h1
    · omega
    · obtain ⟨o, h2, _⟩ := live x h1
      rw [hn] at h2; cases h2
  cases hu with
  | @fn _ first caps _ _ hv1 hv2 =>
  have hargs : VRs g (first.toList ++ us ++ caps.toList) m.as := by rw [← has]; exact (hv1.append hus).append hv2
  have harr : first ++ us.toArray ++ caps = (first.toList ++ us ++ caps.toList).toArray := by apply Array.ext'; simp
  refine ⟨{ target := .fn (.func m.k) caps, args := first ++ us.toArray }, rfl, .inl ⟨m.k, (first.toList ++ us ++ caps.toList).toArray, ?_, ?_⟩⟩
  · show (callFunc m.k (first ++ us.toArray ++ caps)).run E.P w = _
    rw [harr]
    exact goFn_run hgo _ w
  have hsub : ∀ x o, (mkHp m.inp .nil).get x = some o → h.hp.get x = some o := fun x o hx => by
    by_cases hi : x ∈ m.inp.map (·.1)
    · obtain ⟨o', h1, h2⟩ := live x hi
      rw [hx] at h2; cases h2; exact h1
    · rw [mkHp_out hi] at hx; cases hx
  refine CallsIn.mono (sem j g w _ hE (hr.sub hsub) (fun x hx => hfr x (by omega)) hargs) ?_
  rintro e w' ⟨r, g', rfl, h1, h2, h3, h4, h5⟩
  have D0 : ∀ x, (decide (x ∈ m.out.map (·.1)) || decide (x ∈ m.inp.map (·.1))) = false → (mkHp m.out (mkHp m.inp .nil)).get x = none ∧ (mkHp m.inp .nil).get x = none := fun x hx => by
    rw [Bool.or_eq_false_iff, decide_eq_false_iff_not, decide_eq_false_iff_not] at hx
    have e : (mkHp m.inp .nil).get x = none := by rw [mkHp_out hx.2]; rfl
    exact ⟨by rw [mkHp_out hx.1]; exact e, e⟩
  obtain ⟨s1, s2⟩ := frame_heap (D := fun x => decide (x ∈ m.out.map (·.1)) || decide (x ∈ m.inp.map (·.1))) hr hsub (fun x hx => hfr x (by omega)) h2 h3 h4 (fun x hx _ => by rw [(D0 x hx).1, (D0 x hx).2]) (fun x hx _ => (D0 x hx).1)
  have ee : (mkHp m.out h.hp).get = mixF (fun x => decide (x ∈ m.out.map (·.1)) || decide (x ∈ m.inp.map (·.1))) (mkHp m.out (mkHp m.inp .nil)).get h.hp.get := funext (laid_get hin)
  exact ⟨r, rfl, g', h1, by rw [ee]; exact s1, by rw [ee]; exact s2, fun x hx => h4 x (by omega), h5⟩

theorem cmpStr_eq (a b : ByteArray) : Lib.compareBytes a.data.toList b.data.toList = cmpStr a b := by
  have key : ∀ (l m : List UInt8), Lib.compareBytes l m = if bytesLt l m = true then -1 else if bytesB l m = true then 0 else 1 := by
    intro l
    induction l with
    | nil => intro m; cases m <;> simp [Lib.compareBytes, bytesLt, bytesB]
    | cons x l ih =>
      intro m
      cases m with
      | nil => simp [Lib.compareBytes, bytesLt, bytesB]
      | cons y m =>
        unfold Lib.compareBytes bytesLt bytesB
        rw [ih m, sel_if, sel_if, ble_eq, beq_eq]
        have h1 : (x < y) ↔ x.toNat + 1 ≤ y.toNat := by rw [UInt8.lt_iff_toNat_lt]; omega
        have h2 : (y < x) ↔ y.toNat < x.toNat := UInt8.lt_iff_toNat_lt
        by_cases hxy : x < y
        · simp [hxy, h1.1 hxy]
        · by_cases hyx : y < x
          · have a1 : ¬ (x.toNat + 1 ≤ y.toNat) := fun h => hxy (h1.2 h)
            have a2 : ¬ (x.toNat = y.toNat) := fun h => by have := h2.1 hyx; omega
            simp [hxy, hyx, a1, a2]
          · have a1 : ¬ (x.toNat + 1 ≤ y.toNat) := fun h => hxy (h1.2 h)
            have a3 : ¬ (y.toNat < x.toNat) := fun h => hyx (h2.2 h)
            have a2 : x.toNat = y.toNat := by omega
            have a4 : ¬ (y.toNat + 1 ≤ y.toNat) := by omega
            simp [hxy, hyx, a2, a4]
  rw [key]
  unfold cmpStr
  rw [sel_if, sel_if]

theorem ext_sound (hS : EnvS E) {k : FuncId} {fn : Func} {fi as ca : List SV} {h : Hs} (hfn : E.fn.get k = some fn) (hbody : fn.body = none) : Sound E (.call (.fn (.func k) fi ca) as h) (extK fn (fi ++ as ++ ca) h) := by
  generalize hl : fi ++ as ++ ca = l
  unfold extK
  split
  rotate_left
  · trivial
  rename_i x y
  split
  rotate_left
  · trivial
  rename_i s1 hs1
  split
  rotate_left
  · trivial
  rename_i s2 hs2
  obtain rfl := strOf_some hs1
  obtain rfl := strOf_some hs2
  rw [sel_if]
  split
  rotate_left
  · trivial
  rename_i hname
  refine call_res (fun hb => ⟨Fac.refl hb, fun m g w u us hE hr hnx hu hus => ?_⟩)
  cases hu with
  | @fn _ first caps _ _ hv1 hv2 =>
  have hargs : VRs g (first.toList ++ us ++ caps.toList) [.str s1, .str s2] := by rw [← hl]; exact (hv1.append hus).append hv2
  have harr : first ++ us.toArray ++ caps = (first.toList ++ us ++ caps.toList).toArray := by apply Array.ext'; simp
  obtain ⟨v1, v2, e, h1, h2⟩ := vrs_two hargs
  rw [e] at harr
  cases h1
  cases h2
  obtain ⟨e1, e2⟩ := hS.ext k fn hfn hbody hname
  refine ⟨{ target := .fn (.func k) caps, args := first ++ us.toArray }, rfl, .inr (.inr ⟨.int .i64 (Lib.compareBytes s1.data.toList s2.data.toList), w, ?_, _, rfl, g, .int _ _ ?_, hr, Fr.refl _ _ _, fun _ _ => rfl, hnx⟩)⟩
  · show (callFunc k (first ++ us.toArray ++ caps)).run E.P w = _
    rw [harr, run_callFunc_extern (hS.fn k fn hfn).1 (by
      have : fn.name = "internal/bytealg.abigen_runtime_cmpstring" := by simpa using hname
      rw [this]; decide) (by rw [hbody]; rfl) e1 e2, Lib.run_compareString]
    rfl
  · rw [cmpStr_eq]; rfl

theorem step_call_sound (hS : EnvS E) {rec : Job → Out} (hrec : ∀ j, Sound E j (rec j)) (fv : SV) (as : List SV) (h : Hs) : Sound E (.call fv as h) (callD fv E rec as h) := by
  cases fv with
  | yld l => exact yield_sound hrec l as h
  | fn f fi ca =>
    cases f with
    | func k =>
      show Sound E _ (@Option.rec SV (fun _ => Out) (@Option.rec Mo (fun _ => Out) (sel (memB k E.stop) (.trap k (fi ++ as ++ ca) h) (sel (isTiny E k (fi ++ as ++ ca)) (.res (.tup []) h) (funK E rec k (E.fn.get k) (fi ++ as ++ ca) h))) (fun m => .res m.v (laidM m h)) (findMo k (fi ++ as ++ ca) h E.memo)) (fun v => .res v h) (findDone E k (fi ++ as ++ ca)))
      cases hd : findDone E k (fi ++ as ++ ca) with
      | some v => exact done_sound hS hd
      | none =>
        show Sound E _ (@Option.rec Mo (fun _ => Out) (sel (memB k E.stop) (.trap k (fi ++ as ++ ca) h) (sel (isTiny E k (fi ++ as ++ ca)) (.res (.tup []) h) (funK E rec k (E.fn.get k) (fi ++ as ++ ca) h))) (fun m => .res m.v (laidM m h)) (findMo k (fi ++ as ++ ca) h E.memo))
        cases hm : findMo k (fi ++ as ++ ca) h E.memo with
        | some m => exact memo_sound hS hm
        | none =>
        show Sound E _ (sel (memB k E.stop) (.trap k (fi ++ as ++ ca) h) (sel (isTiny E k (fi ++ as ++ ca)) (.res (.tup []) h) (funK E rec k (E.fn.get k) (fi ++ as ++ ca) h)))
        rw [sel_if]
        split
        · trivial
        rw [sel_if]
        split
        · rename_i ht; exact tiny_sound hS ht
        cases hfn : E.fn.get k with
        | none => trivial
        | some fn =>
          show Sound E _ (bodyOf E rec k fn (fi ++ as ++ ca) h)
          unfold bodyOf
          cases hbody : fn.body with
          | none => exact ext_sound hS hfn hbody
          | some c =>
            show Sound E _ (sel (Nat.ble (fi ++ as ++ ca).length fn.ntmps) (sel (isNumG fn.name) (.fail "NumGoroutine") (joinK (memB k E.join) h.nx (retK E rec fn h.nx h.lg (rec (.code fn.ntmps c (setArgs (fi ++ as ++ ca) 0 .nil) [] ⟨h.hp, h.nx, []⟩))))) (.fail "args"))
            rw [sel_if, sel_if]
            split
            rotate_left
            · trivial
            rename_i hlen
            split
            · trivial
            rename_i hnum
            exact joinK_sound (fun_sound hS hrec hfn hbody (fun hc => hnum (by rw [hc]; decide)) ((ble_iff _ _).1 hlen))
    | _ => trivial
  | _ => trivial

/-- THE RUN IS SOUND. -/
theorem sound_run (hS : EnvS E) : ∀ (n : Nat) (j : Job), Sound E j (run E n j)
  | 0, j => by cases j <;> trivial
  | n + 1, j => by
    have ih := sound_run hS n
    show Sound E j (step E (run E n) j)
    cases j with
    | code nt c tm mk h => exact step_code_sound hS ih nt c tm mk h
    | ops nt all l tm mk h => exact step_ops_sound ih nt all l tm mk h
    | draw nt W all base i M prev l tm h => exact step_draw_sound ih nt W all base i M prev l tm h
    | call fv as h => exact step_call_sound hS ih fv as h

end Go.Sim
