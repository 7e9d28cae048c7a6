/- Soundness: code. -/
import Derived.Test.YtjeenahnkcgfcaaGreatDoorSim20
import Derived.RangeFuncRecord
set_option linter.unusedVariables false
set_option linter.unusedSimpArgs false
namespace Go.Sim
open Go.RowKit

section
variable {F : Fence} {n : Nat} {P : Program} {Q : Exit → Act → World → Prop} {a : Act} {w : World} {c : Code}

theorem loopWp_unfold (h : c.wpIn F n P (Exit.then (loopWp F n P c Q) Q) a w) : loopWp F n P c Q a w := by
  intro b k cs hro hb hr
  obtain ⟨e, a₁, w₁, hq, harr⟩ := h b (.inLoop c :: k) cs hro hb hr
  cases e with
  | normal =>
    obtain ⟨e₂, a₂, w₂, hq₂, harr₂⟩ := hq b k cs hro hb hr
    exact ⟨e₂, a₂, w₂, hq₂, .of_steps (StepsIn.trans harr (.one (fenced_calm hb hr rfl) stepR_inLoop)) harr₂⟩
  | exit id => exact ⟨_, a₁, w₁, hq, .pass (x := .inLoop c) rfl (fun _ _ => .inl (by simp)) harr⟩
  | goto l => exact ⟨_, a₁, w₁, hq, .pass (x := .inLoop c) rfl (fun _ _ => .inl (by simp)) harr⟩
  | ret => exact ⟨_, a₁, w₁, hq, .pass (x := .inLoop c) rfl (fun _ _ => .inl (by simp)) harr⟩
  | panic ch => exact ⟨_, a₁, w₁, hq, .pass (x := .inLoop c) rfl (fun _ _ => .inl (by simp)) harr⟩
  | outgrown => exact ⟨_, a₁, w₁, hq, .pass (x := .inLoop c) rfl (fun _ _ => .inl (by simp)) harr⟩
theorem wpIn_of_loopWp (h : loopWp F n P c Q a w) : (Code.loop c).wpIn F n P Q a w := fun b k cs hro hb hr =>
  let ⟨e, a', w', hq, harr⟩ := h b k cs hro hb hr
  ⟨e, a', w', hq, .of_steps (.one (fenced_calm hb hr rfl) stepR_loop) harr⟩
theorem wpX_in (h : wpX F n P c Q a w) : c.wpIn F n P Q a w := by
  cases c <;> first | exact h | exact wpIn_of_loopWp h
end

variable {E : Env} {g : Gh} {f : Hf} {w : World}

theorem okL {a b : Code} (h : codeOk (.seq a b) = true) : codeOk a = true := by
  have h : (codeOk a && codeOk b) = true := h
  rw [Bool.and_eq_true] at h; exact h.1
theorem okR {a b : Code} (h : codeOk (.seq a b) = true) : codeOk b = true := by
  have h : (codeOk a && codeOk b) = true := h
  rw [Bool.and_eq_true] at h; exact h.2

theorem DT.nx_le {nt W : Nat} {ops : Array Oper} {base i : Nat} {prev : List St} {l : List Oper} {T : Tf} {F : Hf} {nx : Nat} {T' : Tf} {F' : Hf} {nx' : Nat} {out : List St} (h : DT E nt W ops base i prev l T F nx T' F' nx' out) : nx ≤ nx' := by
  induction h with
  | nil => exact Nat.le_refl _
  | cons c h ih => exact Nat.le_trans c.nxle ih

theorem CodeS.seq {nt : Nat} {a b : Code} {tm : Tr SV} {mk : List Dm} {h : Hs} {l1 r : List Oc} (k1 : CodeS E nt a tm mk h l1)
    (kin : ∀ o ∈ l1, (o.e = .normal ∧ ∃ r', CodeS E nt b o.tm o.dm o.h r' ∧ ∀ x ∈ r', x ∈ r) ∨ (o.e ≠ .normal ∧ o ∈ r)) (kout : ∀ x ∈ r, ∃ o ∈ l1, (∃ r', CodeS E nt b o.tm o.dm o.h r' ∧ x ∈ r') ∨ x = o) : CodeS E nt (.seq a b) tm mk h r := by
  obtain ⟨n1, f1, s1⟩ := k1
  have hne : r ≠ [] := by
    obtain ⟨o, ho⟩ := List.exists_mem_of_ne_nil _ n1
    rcases kin o ho with ⟨_, r', ⟨n2, _⟩, h2⟩ | ⟨_, h2⟩
    · obtain ⟨x, hx⟩ := List.exists_mem_of_ne_nil _ n2
      exact List.ne_nil_of_mem (h2 x hx)
    · exact List.ne_nil_of_mem h2
  refine ⟨hne, fun x hx => ?_, fun ro m g ac w Q hok hro hE hfr hr hm hnx hk => wpIn_seq (wpX_in ?_)⟩
  · obtain ⟨o, ho, ⟨r', ⟨_, f2, _⟩, hx⟩ | rfl⟩ := kout x hx
    · exact ⟨(f1 o ho).1.trans (f2 x hx).1, MkOK.trans (f1 o ho).1.nx (f1 o ho).2 (f2 x hx).2⟩
    · exact f1 x ho
  have hlen : ∀ o ∈ l1, ro = none ∨ o.dm.length = mk.length := by
    intro o ho
    rcases hro with hro | hro
    · exact .inl hro
    · refine .inr ?_
      have h1 := (f1 o ho).2.1
      rcases kin o ho with ⟨_, r', ⟨n2, f2, _⟩, h2⟩ | ⟨_, h2⟩
      · obtain ⟨x, hx⟩ := List.exists_mem_of_ne_nil _ n2
        have h3 := (f2 x hx).2.1
        have h4 := hro x (h2 x hx)
        omega
      · exact hro o h2
  refine s1 ro m g ac w _ (okL hok) (by
    by_cases h : ro = none
    · exact .inl h
    · exact .inr fun o ho => (hlen o ho).resolve_left h) hE hfr hr hm hnx (fun o ho g1 a1 w1 x q0 q1 q2 q3 q4 q5 q6 => ?_)
  rcases kin o ho with ⟨he, r', ⟨n2, f2, s2⟩, h2⟩ | ⟨he, h2⟩
  · rw [he] at q0
    cases q0
    refine wpX_in (s2 ro m g1 a1 w1 Q (okR hok) (hro.imp_right fun hro z hz => ?_) (hE.mono q3.le) q1 q2 q4 q5 (fun z hz g2 a2 w2 x r0 r1 r2 r3 r4 r5 r6 => hk z (h2 z hz) g2 a2 w2 x r0 r1 r2 (q3.trans r3) r4 r5 (fun y hy => by rw [r6 y (Nat.lt_of_lt_of_le hy (f1 o ho).1.nx), q6 y hy])))
    have h1 := (f1 o ho).2.1
    have h3 := (f2 z hz).2.1
    have h4 := hro z (h2 z hz)
    omega
  · have := hk o h2 g1 a1 w1 x q0 q1 q2 q3 q4 q5 q6
    generalize o.e = e at q0 he
    cases q0 with
    | normal => exact absurd rfl he
    | exit id => exact this
    | ret => exact this
    | pan hv => exact this

theorem CodeS.loop {nt : Nat} {c : Code} {tm : Tr SV} {mk : List Dm} {h : Hs} {l1 r : List Oc} (k1 : CodeS E nt c tm mk h l1)
    (kin : ∀ o ∈ l1, (o.e = .normal ∧ ∃ r', CodeS E nt (.loop c) o.tm o.dm o.h r' ∧ ∀ x ∈ r', x ∈ r) ∨ (o.e ≠ .normal ∧ o ∈ r)) (kout : ∀ x ∈ r, ∃ o ∈ l1, (∃ r', CodeS E nt (.loop c) o.tm o.dm o.h r' ∧ x ∈ r') ∨ x = o) : CodeS E nt (.loop c) tm mk h r := by
  obtain ⟨n1, f1, s1⟩ := k1
  have hne : r ≠ [] := by
    obtain ⟨o, ho⟩ := List.exists_mem_of_ne_nil _ n1
    rcases kin o ho with ⟨_, r', ⟨n2, _⟩, h2⟩ | ⟨_, h2⟩
    · obtain ⟨x, hx⟩ := List.exists_mem_of_ne_nil _ n2
      exact List.ne_nil_of_mem (h2 x hx)
    · exact List.ne_nil_of_mem h2
  refine ⟨hne, fun x hx => ?_, fun ro m g ac w Q hok hro hE hfr hr hm hnx hk => loopWp_unfold (wpX_in ?_)⟩
  · obtain ⟨o, ho, ⟨r', ⟨_, f2, _⟩, hx⟩ | rfl⟩ := kout x hx
    · exact ⟨(f1 o ho).1.trans (f2 x hx).1, MkOK.trans (f1 o ho).1.nx (f1 o ho).2 (f2 x hx).2⟩
    · exact f1 x ho
  have hlen : ∀ o ∈ l1, ro = none ∨ o.dm.length = mk.length := by
    intro o ho
    rcases hro with hro | hro
    · exact .inl hro
    · refine .inr ?_
      have h1 := (f1 o ho).2.1
      rcases kin o ho with ⟨_, r', ⟨n2, f2, _⟩, h2⟩ | ⟨_, h2⟩
      · obtain ⟨x, hx⟩ := List.exists_mem_of_ne_nil _ n2
        have h3 := (f2 x hx).2.1
        have h4 := hro x (h2 x hx)
        omega
      · exact hro o h2
  refine s1 ro m g ac w _ hok (by
    by_cases h : ro = none
    · exact .inl h
    · exact .inr fun o ho => (hlen o ho).resolve_left h) hE hfr hr hm hnx (fun o ho g1 a1 w1 x q0 q1 q2 q3 q4 q5 q6 => ?_)
  rcases kin o ho with ⟨he, r', ⟨n2, f2, s2⟩, h2⟩ | ⟨he, h2⟩
  · rw [he] at q0
    cases q0
    refine s2 ro m g1 a1 w1 Q hok (hro.imp_right fun hro z hz => ?_) (hE.mono q3.le) q1 q2 q4 q5 (fun z hz g2 a2 w2 x r0 r1 r2 r3 r4 r5 r6 => hk z (h2 z hz) g2 a2 w2 x r0 r1 r2 (q3.trans r3) r4 r5 (fun y hy => by rw [r6 y (Nat.lt_of_lt_of_le hy (f1 o ho).1.nx), q6 y hy]))
    have h1 := (f1 o ho).2.1
    have h3 := (f2 z hz).2.1
    have h4 := hro z (h2 z hz)
    omega
  · have := hk o h2 g1 a1 w1 x q0 q1 q2 q3 q4 q5 q6
    generalize o.e = e at q0 he
    cases q0 with
    | normal => exact absurd rfl he
    | exit id => exact this
    | ret => exact this
    | pan hv => exact this

theorem leave_exit (id i : Nat) : leave id (.exit i) = if i = id then .normal else .exit i := by
  show sel (Nat.beq i id) Ex.normal (.exit i) = _
  rw [sel_if, beq_eq]
  by_cases h : i = id <;> simp [h]

theorem CodeS.block {nt id : Nat} {c : Code} {tm : Tr SV} {mk : List Dm} {h : Hs} {l r : List Oc} (k1 : CodeS E nt c tm mk h l) (hr : ∀ x, x ∈ r ↔ ∃ o ∈ l, x = ⟨leave id o.e, o.tm, o.dm, o.h⟩) : CodeS E nt (.block id c) tm mk h r := by
  obtain ⟨n1, f1, s1⟩ := k1
  refine ⟨?_, fun x hx => ?_, fun ro m g a w Q hok hro hE hfr hrr hm hnx hk => wpIn_block (wpX_in ?_)⟩
  · obtain ⟨o, ho⟩ := List.exists_mem_of_ne_nil _ n1
    exact List.ne_nil_of_mem ((hr ⟨leave id o.e, o.tm, o.dm, o.h⟩).2 ⟨o, ho, rfl⟩)
  · obtain ⟨o, ho, rfl⟩ := (hr x).1 hx
    exact f1 o ho
  refine s1 ro m g a w _ hok (hro.imp_right fun hro o ho => hro ⟨leave id o.e, o.tm, o.dm, o.h⟩ ((hr _).2 ⟨o, ho, rfl⟩)) hE hfr hrr hm hnx (fun o ho g1 a1 w1 x q0 q1 q2 q3 q4 q5 q6 => ?_)
  have key : ∀ y, ExR g1 (leave id o.e) y → Q y a1 w1 := fun y hy => hk ⟨leave id o.e, o.tm, o.dm, o.h⟩ ((hr _).2 ⟨o, ho, rfl⟩) g1 a1 w1 y hy q1 q2 q3 q4 q5 q6
  generalize he : o.e = e at q0 key
  cases q0 with
  | normal => exact key _ .normal
  | ret => exact key _ .ret
  | pan hv => exact key _ (.pan hv)
  | exit i =>
    rw [leave_exit] at key
    show (if i = id then Q .normal a1 w1 else Q (.exit i) a1 w1)
    split
    · rename_i hi; rw [if_pos hi] at key; exact key _ .normal
    · rename_i hi; rw [if_neg hi] at key; exact key _ (.exit i)

theorem CodeS.calm {nt : Nat} {c : Code} {tm : Tr SV} {mk : List Dm} {h : Hs} {e : Ex} (x : Exit) (hx : ∀ g, ExR g e x) (hb : Bd h) (hw : ∀ (ro : Option Nat) (m : Nat) (Q : Exit → Act → World → Prop) (a : Act) (w : World), Q x a w → wpX (fro ro) m E.P c Q a w) : CodeS E nt c tm mk h [⟨e, tm, mk, h⟩] :=
  ⟨by simp, fun o ho => by
    obtain rfl := List.mem_singleton.1 ho
    exact ⟨Fac.refl hb, MkOK.refl _ _⟩, fun ro m g a w Q _ _ hE hfr hr hm hnx hk => hw ro m Q a w (hk ⟨e, tm, mk, h⟩ (by simp) g a w x (hx g) hfr hr (Fr.refl _ _ _) hm hnx fun _ _ => rfl)⟩

theorem CodeS.ops {nt id : Nat} {ops : Array Oper} {tm : Tr SV} {mk : List Dm} {h : Hs} {r : List Oc} (k : OpsS E nt ops ops.toList tm mk h r) : CodeS E nt (.region id ops false) tm mk h r := by
  obtain ⟨n1, f1, s1⟩ := k
  refine ⟨n1, f1, fun ro m g a w Q hok hro hE hfr hr hm hnx hk => wpIn_region ?_⟩
  have := s1 ro m g a w Q hro hE hfr hr hm hnx hk
  simpa [List.range_eq_range'] using this

theorem CodeS.draw {nt id : Nat} {ops : Array Oper} {tm tm1 : Tr SV} {mk : List Dm} {h h1 : Hs} {out : List St}
    (hf : FacD h.nx 0 ops.size ⟨h.hp, Nat.add h.nx ops.size, h.lg⟩ h1) (hd : DT E nt ops.size ops h.nx 0 [] ops.toList tm.get h.hp.get (Nat.add h.nx ops.size) tm1.get h1.hp.get h1.nx out) : CodeS E nt (.region id ops true) tm mk h [⟨.normal, tm1, mk, h1⟩] := by
  have hnx0 : h.nx ≤ h1.nx := Nat.le_trans (Nat.le_add_right _ _) hf.nx
  refine ⟨by simp, fun o ho => ?_, fun ro m g a w Q hok hro hE hfr hr hm hnx hk => ?_⟩
  · obtain rfl := List.mem_singleton.1 ho
    exact ⟨⟨hnx0, hf.bd, fun x hx hn => hf.lg x (Nat.lt_of_lt_of_le hx (Nat.le_add_right _ _)) (by omega) hn, hf.sub, fun x hx hn => hf.dead x (Nat.lt_of_lt_of_le hx (Nat.le_add_right _ _)) (by omega) hn⟩, MkOK.refl _ _⟩
  exact region_draw (show slotsOk ops.size ops.toList ops.toList 0 0 [] = true from hok) hE.mix (List.take_of_length_le (Nat.le_refl _)) hd (Nat.le_add_right _ _) hE hfr hr hnx (.inl (by simp)) (fun _ g1 a1 w1 q1 q2 q3 q4 q5 q6 => hk ⟨.normal, tm1, mk, h1⟩ (by simp) g1 a1 w1 _ .normal q1 q2 q3 (by rw [q4]; exact hm.mono q3.le) q6 q5)

theorem CodeS.drawPan {nt id : Nat} {ops : Array Oper} {tm tm1 : Tr SV} {mk : List Dm} {h h1 : Hs} {out : List St} {l0 : List Oper} {o : Oper} {F1 : Hf} {nx1 : Nat} {v : SV}
    (hf : FacD h.nx 0 ops.size ⟨h.hp, Nat.add h.nx ops.size, h.lg⟩ h1) (hl : ops.toList = l0 ++ [o]) (hd : DT E nt ops.size ops h.nx 0 [] l0 tm.get h.hp.get (Nat.add h.nx ops.size) tm1.get F1 nx1 out) (hp : CndP E nt ops (0 + l0.length) o tm1.get F1 nx1 v h1.hp.get h1.nx) : CodeS E nt (.region id ops true) tm mk h [⟨.pan v, tm1, mk, h1⟩] := by
  have hnx0 : h.nx ≤ h1.nx := Nat.le_trans (Nat.le_add_right _ _) hf.nx
  refine ⟨by simp, fun o ho => ?_, fun ro m g a w Q hok hro hE hfr hr hm hnx hk => ?_⟩
  · obtain rfl := List.mem_singleton.1 ho
    exact ⟨⟨hnx0, hf.bd, fun x hx hn => hf.lg x (Nat.lt_of_lt_of_le hx (Nat.le_add_right _ _)) (by omega) hn, hf.sub, fun x hx hn => hf.dead x (Nat.lt_of_lt_of_le hx (Nat.le_add_right _ _)) (by omega) hn⟩, MkOK.refl _ _⟩
  rw [Nat.zero_add] at hp
  have hlen := hp.last
  refine region_draw (Q := Q) (show slotsOk ops.size ops.toList ops.toList 0 0 [] = true from hok) hE.mix (by rw [hl]; simp) hd (Nat.le_add_right _ _) hE hfr hr hnx (.inr ⟨hlen, ?_, hp.anc, fun g1 a1 w1 K q0 q1 q2 q3 q4 q5 q6 => ?_⟩) (fun he => by omega)
  · rw [direct_eq hp.op]; exact hp.lt
  · refine hp.sem ro m g1 a1 w1 Q K q0 q1 q2 q6 (fun u w2 g2 r1 r2 r3 r4 r5 => ?_)
    refine hk ⟨.pan v, tm1, mk, h1⟩ (by simp) g2 a1 w2 _ (.pan r1) (q1.mono r3.le) r2 (q3.trans r3) (by rw [q4]; exact hm.mono (q3.trans r3).le) r5 (fun x hx => ?_)
    have hb1 : h.nx ≤ nx1 := by
      by_cases hc : h.nx ≤ nx1
      · exact hc
      · exfalso
        have := hd.nx_le
        have h3 : h.nx ≤ Nat.add h.nx ops.size := Nat.le_add_right _ _
        omega
    rw [r4 x (by omega), q5 x hx]

theorem InvM.zero (ops : Array Oper) (W : Nat) : InvM ops W 0 0 := fun p hp => by simp at hp

theorem jumpK_inv {j : Option Code} {tm : Tr SV} {mk : List Dm} {h : Hs} {Q : Out → Prop} (hf : ∀ s, Q (.fail s)) (h1 : j = none → Q (.code .normal tm mk h)) (h2 : j = some .ret → Q (.code .ret tm mk h)) (h3 : ∀ id, j = some (.exit id) → Q (.code (.exit id) tm mk h)) : Q (jumpK j tm mk h) := by
  cases j with
  | none => exact h1 rfl
  | some c => cases c <;> first | exact hf _ | exact h2 rfl | exact h3 _ rfl

theorem notBusy_ne {s : LoopState} (h : notBusy s = true) : s ≠ .busy := by intro e; subst e; cases h

theorem enterH_get (nt : Nat) (tm : Tr SV) (ps : List Nat) (as bo : Code) (h : Hs) : (enterH nt tm ps as bo h).hp.get = upF (upF h.hp.get (h.nx, some .dfr)) (h.nx + 1, some (.loop nt tm ps as bo .ready none h.nx)) := by
  funext x
  show ((h.hp.set h.nx (some .dfr)).set (h.nx + 1) (some (SO.loop nt tm ps as bo .ready none h.nx))).get x = _
  rw [Tr.get_set, Tr.get_set]
  rfl

theorem enterH_fac {nt : Nat} {tm : Tr SV} {ps : List Nat} {as bo : Code} {h : Hs} (hb : Bd h) : Fac h (enterH nt tm ps as bo h) := by
  refine ⟨Nat.le_add_right _ _, fun x hx => ?_, fun x hx _ => ?_, fun _ hx => hx, fun x hx hn => ?_⟩
  · have hx : h.nx + 2 ≤ x := hx
    rw [enterH_get, upF, upF, if_neg (show x ≠ h.nx + 1 by omega), if_neg (show x ≠ h.nx by omega)]
    exact hb x (by omega)
  · rw [enterH_get, upF, upF, if_neg (show x ≠ h.nx + 1 by omega), if_neg (show x ≠ h.nx by omega)]
  · rw [enterH_get, upF, upF, if_neg (show x ≠ h.nx + 1 by omega), if_neg (show x ≠ h.nx by omega)]
    exact hn

theorem put_fac {h : Hs} {l : Nat} {o o' : SO} (hb : Bd h) (hl : h.hp.get l = some o) : Fac h (h.put l o') := by
  have hlt : l < h.nx := by
    by_cases hc : h.nx ≤ l
    · rw [hb l hc] at hl; simp at hl
    · omega
  have hg : ∀ x, (h.put l o').hp.get x = if x = l then some o' else h.hp.get x := fun x => Tr.get_set _ _ _ _
  refine ⟨Nat.le_refl _, fun x hx => ?_, fun x hx hn => ?_, fun x hx => List.mem_cons_of_mem _ hx, fun x hx hn => ?_⟩
  · have hx : h.nx ≤ x := hx
    rw [hg, if_neg (by omega)]; exact hb x hx
  · have hn : x ∉ l :: h.lg := hn
    rw [hg, if_neg (fun e => hn (by simp [e]))]
  · rw [hg, if_neg (fun e => by subst e; rw [hl] at hn; simp at hn)]; exact hn

theorem put_get (h : Hs) (l : Nat) (o : SO) : (h.put l o).hp.get = upF h.hp.get (l, some o) := funext fun x => Tr.get_set _ _ _ _

/-- The record of a loop is written. -/
theorem HR.loop {h : Hf} {w : World} {l b c nt dd : Nat} {tm : Tr SV} {ps : List Nat} {as bo : Code} {st : LoopState} {pe : Option Code} (hr : HR g h w) (hl : h l = some (.loop nt tm ps as bo st pe dd)) (hρ : g.ρ l = some (b, c)) (st' : LoopState) (pe' : Option Code) :
    ∃ r : Loop, w.heap[b]? = some (.loop r) ∧ r.state = st ∧ r.pending = pe ∧ HR g (upF h (l, some (.loop nt tm ps as bo st' pe' dd))) (w.putObj b (.loop { r with state := st', pending := pe' })) ∧ Fr g h w g (upF h (l, some (.loop nt tm ps as bo st' pe' dd))) (w.putObj b (.loop { r with state := st', pending := pe' })) := by
  obtain ⟨hlt, hor⟩ := hr.at hl hρ
  obtain ⟨k1, k2, r, h1, h2, h3, h4, h5, h6, h7, o', h8⟩ := hor
  have hw := HR.write hr (o' := .loop nt tm ps as bo st' pe' dd) (w' := w.putObj b (.loop { r with state := st', pending := pe' })) hl hρ (by simp) (fun k hk => World.putObj_heap_other hk)
    ⟨k1, k2, { r with state := st', pending := pe' }, by simp [World.putObj, hlt], rfl, rfl, h4, h5, h6, h7, o', h8⟩ rfl rfl rfl
  exact ⟨r, h1, h2, h3, hw.1, hw.2⟩

end Go.Sim
