/- Soundness: code. -/
import Derived.Test.YtkjailapincfbaaGreatDoorSim20
import Derived.RangeFuncRecord
set_option linter.unusedVariables false
set_option linter.unusedSimpArgs false
namespace Go.Sim
open Go.RowKit

section
variable {F : Fence} {n : Nat} {P : Program} {Q : Exit → Act → World → Prop} {a : Act} {w : World} {c : Code}

theorem loopWp_unfold (h : c.wpIn F n P (Exit.then (loopWp F n P c Q) Q) a w) : loopWp F n P c Q a w := by
  intro b k cs hro hb hr
  obtain ⟨e, a₁, w₁, hq, harr⟩ := h b (.inLoop c :: k) cs hro hb hr
  cases e with
  | normal =>
    obtain ⟨e₂, a₂, w₂, hq₂, harr₂⟩ := hq b k cs hro hb hr
    exact ⟨e₂, a₂, w₂, hq₂, .of_steps (StepsIn.trans harr (.one (fenced_calm hb hr rfl) stepR_inLoop)) harr₂⟩
  | exit id => exact ⟨_, a₁, w₁, hq, .pass (x := .inLoop c) rfl (fun _ _ => .inl (by simp)) harr⟩
  | goto l => exact ⟨_, a₁, w₁, hq, .pass (x := .inLoop c) rfl (fun _ _ => .inl (by simp)) harr⟩
  | ret => exact ⟨_, a₁, w₁, hq, .pass (x := .inLoop c) rfl (fun _ _ => .inl (by simp)) harr⟩
  | panic ch => exact ⟨_, a₁, w₁, hq, .pass (x := .inLoop c) rfl (fun _ _ => .inl (by simp)) harr⟩
  | outgrown => exact ⟨_, a₁, w₁, hq, .pass (x := .inLoop c) rfl (fun _ _ => .inl (by simp)) harr⟩
theorem wpIn_of_loopWp (h : loopWp F n P c Q a w) : (Code.loop c).wpIn F n P Q a w := fun b k cs hro hb hr =>
  let ⟨e, a', w', hq, harr⟩ := h b k cs hro hb hr
  ⟨e, a', w', hq, .of_steps (.one (fenced_calm hb hr rfl) stepR_loop) harr⟩
theorem wpX_in (h : wpX F n P c Q a w) : c.wpIn F n P Q a w := by
  cases c <;> first | exact h | exact wpIn_of_loopWp h
end

variable {E : Env} {g : Gh} {f : Hf} {w : World}

theorem stK_inv {r : Out} {k : Tr SV → Hs → Out} {Q : Out → Prop} (hf : ∀ s, Q (.fail s)) (ht : ∀ a b c, Q (.trap a b c)) (hr : ∀ tm h, r = .st tm h → Q (k tm h)) : Q (stK r k) := by
  cases r with
  | st tm h => exact hr tm h rfl
  | fail s => exact hf s
  | trap a b c => exact ht a b c
  | _ => exact hf _
theorem onCode_inv {r : Out} {k : Ex → Tr SV → List Nat → Hs → Out} {Q : Out → Prop} (hf : ∀ s, Q (.fail s)) (ht : ∀ a b c, Q (.trap a b c)) (hr : ∀ e tm mk h, r = .code e tm mk h → Q (k e tm mk h)) : Q (onCode r k) := by
  cases r with
  | code e tm mk h => exact hr e tm mk h rfl
  | fail s => exact hf s
  | trap a b c => exact ht a b c
  | _ => exact hf _

theorem code_fail {nt : Nat} {c : Code} {tm : Tr SV} {mk : List Nat} {h : Hs} (s : String) : Sound E (.code nt c tm mk h) (.fail s) := trivial

theorem marks_refl (mk : List Nat) (h : Hs) : mk.length ≤ mk.length ∧ ∀ x ∈ mk, x ∈ mk ∨ h.nx ≤ x := ⟨Nat.le_refl _, fun _ hx => .inl hx⟩
theorem marks_trans {h h1 : Hs} {mk mk1 mk2 : List Nat} (f1 : Fac h h1) (l1 : mk.length ≤ mk1.length ∧ ∀ x ∈ mk1, x ∈ mk ∨ h.nx ≤ x) (l2 : mk1.length ≤ mk2.length ∧ ∀ x ∈ mk2, x ∈ mk1 ∨ h1.nx ≤ x) : mk.length ≤ mk2.length ∧ ∀ x ∈ mk2, x ∈ mk ∨ h.nx ≤ x :=
  ⟨Nat.le_trans l1.1 l2.1, fun x hx => (l2.2 x hx).elim (l1.2 x) fun hx => .inr (Nat.le_trans f1.nx hx)⟩

theorem okL {a b : Code} (h : codeOk (.seq a b) = true) : codeOk a = true := by
  have h : (codeOk a && codeOk b) = true := h
  rw [Bool.and_eq_true] at h; exact h.1
theorem okR {a b : Code} (h : codeOk (.seq a b) = true) : codeOk b = true := by
  have h : (codeOk a && codeOk b) = true := h
  rw [Bool.and_eq_true] at h; exact h.2

/-- One piece of code behind another. -/
theorem CodeS.seq {nt : Nat} {a b : Code} {tm tm1 tm2 : Tr SV} {mk mk1 mk2 : List Nat} {h h1 h2 : Hs} {e : Ex} (k1 : CodeS E nt a tm mk h .normal tm1 mk1 h1) (k2 : CodeS E nt b tm1 mk1 h1 e tm2 mk2 h2) : CodeS E nt (.seq a b) tm mk h e tm2 mk2 h2 := by
  obtain ⟨f1, l1, s1⟩ := k1
  obtain ⟨f2, l2, s2⟩ := k2
  refine ⟨f1.trans f2, marks_trans f1 l1 l2, fun ro m g a w Q hok hro hE hfr hr hm hnx hk => wpIn_seq (wpX_in ?_)⟩
  refine s1 ro m g a w _ (okL hok) (hro.imp_right fun h => by have := l1.1; have := l2.1; omega) hE hfr hr hm hnx (fun g1 a1 w1 q1 q2 q3 q4 q5 q6 => wpX_in ?_)
  refine s2 ro m g1 a1 w1 Q (okR hok) (hro.imp_right fun h => by have := l1.1; have := l2.1; omega) (hE.mono q3.le) q1 q2 q4 q5 (fun g2 a2 w2 r1 r2 r3 r4 r5 r6 => hk g2 a2 w2 r1 r2 (q3.trans r3) r4 r5 (fun x hx => by rw [r6 x (Nat.lt_of_lt_of_le hx f1.nx), q6 x hx]))
theorem CodeS.seqOut {nt : Nat} {a b : Code} {tm tm1 : Tr SV} {mk mk1 : List Nat} {h h1 : Hs} {e : Ex} (k1 : CodeS E nt a tm mk h e tm1 mk1 h1) (he : exOf e ≠ .normal) : CodeS E nt (.seq a b) tm mk h e tm1 mk1 h1 := by
  obtain ⟨f1, l1, s1⟩ := k1
  refine ⟨f1, l1, fun ro m g a w Q hok hro hE hfr hr hm hnx hk => wpIn_seq (wpX_in ?_)⟩
  refine s1 ro m g a w _ (okL hok) hro hE hfr hr hm hnx (fun g1 a1 w1 q1 q2 q3 q4 q5 q6 => ?_)
  have := hk g1 a1 w1 q1 q2 q3 q4 q5 q6
  cases e with
  | normal => exact absurd rfl he
  | exit id => exact this
  | ret => exact this
theorem CodeS.loop {nt : Nat} {c : Code} {tm tm1 tm2 : Tr SV} {mk mk1 mk2 : List Nat} {h h1 h2 : Hs} {e : Ex} (k1 : CodeS E nt c tm mk h .normal tm1 mk1 h1) (k2 : CodeS E nt (.loop c) tm1 mk1 h1 e tm2 mk2 h2) : CodeS E nt (.loop c) tm mk h e tm2 mk2 h2 := by
  obtain ⟨f1, l1, s1⟩ := k1
  obtain ⟨f2, l2, s2⟩ := k2
  refine ⟨f1.trans f2, marks_trans f1 l1 l2, fun ro m g a w Q hok hro hE hfr hr hm hnx hk => loopWp_unfold (wpX_in ?_)⟩
  refine s1 ro m g a w _ hok (hro.imp_right fun h => by have := l1.1; have := l2.1; omega) hE hfr hr hm hnx (fun g1 a1 w1 q1 q2 q3 q4 q5 q6 => ?_)
  exact s2 ro m g1 a1 w1 Q hok (hro.imp_right fun h => by have := l1.1; have := l2.1; omega) (hE.mono q3.le) q1 q2 q4 q5 (fun g2 a2 w2 r1 r2 r3 r4 r5 r6 => hk g2 a2 w2 r1 r2 (q3.trans r3) r4 r5 (fun x hx => by rw [r6 x (Nat.lt_of_lt_of_le hx f1.nx), q6 x hx]))
theorem CodeS.loopOut {nt : Nat} {c : Code} {tm tm1 : Tr SV} {mk mk1 : List Nat} {h h1 : Hs} {e : Ex} (k1 : CodeS E nt c tm mk h e tm1 mk1 h1) (he : exOf e ≠ .normal) : CodeS E nt (.loop c) tm mk h e tm1 mk1 h1 := by
  obtain ⟨f1, l1, s1⟩ := k1
  refine ⟨f1, l1, fun ro m g a w Q hok hro hE hfr hr hm hnx hk => loopWp_unfold (wpX_in ?_)⟩
  refine s1 ro m g a w _ hok hro hE hfr hr hm hnx (fun g1 a1 w1 q1 q2 q3 q4 q5 q6 => ?_)
  have := hk g1 a1 w1 q1 q2 q3 q4 q5 q6
  cases e with
  | normal => exact absurd rfl he
  | exit id => exact this
  | ret => exact this

theorem leave_normal (id : Nat) : leave id .normal = .normal := rfl
theorem leave_ret (id : Nat) : leave id .ret = .ret := rfl
theorem leave_exit (id i : Nat) : leave id (.exit i) = if i = id then .normal else .exit i := by
  show sel (Nat.beq i id) Ex.normal (.exit i) = _
  rw [sel_if, beq_eq]
  by_cases h : i = id <;> simp [h]

theorem CodeS.block {nt id : Nat} {c : Code} {tm tm1 : Tr SV} {mk mk1 : List Nat} {h h1 : Hs} {e : Ex} (k1 : CodeS E nt c tm mk h e tm1 mk1 h1) : CodeS E nt (.block id c) tm mk h (leave id e) tm1 mk1 h1 := by
  obtain ⟨f1, l1, s1⟩ := k1
  refine ⟨f1, l1, fun ro m g a w Q hok hro hE hfr hr hm hnx hk => wpIn_block (wpX_in ?_)⟩
  refine s1 ro m g a w _ hok hro hE hfr hr hm hnx (fun g1 a1 w1 q1 q2 q3 q4 q5 q6 => ?_)
  have := hk g1 a1 w1 q1 q2 q3 q4 q5 q6
  cases e with
  | normal => exact this
  | ret => exact this
  | exit i =>
    rw [leave_exit] at this
    show (if i = id then Q .normal a1 w1 else Q (.exit i) a1 w1)
    split
    · rename_i hi; rw [if_pos hi] at this; exact this
    · rename_i hi; rw [if_neg hi] at this; exact this

theorem CodeS.calm {nt : Nat} {c : Code} {tm : Tr SV} {mk : List Nat} {h : Hs} {e : Ex} (hb : Bd h) (hw : ∀ (ro : Option Nat) (m : Nat) (Q : Exit → Act → World → Prop) (a : Act) (w : World), Q (exOf e) a w → wpX (fro ro) m E.P c Q a w) : CodeS E nt c tm mk h e tm mk h :=
  ⟨Fac.refl hb, marks_refl mk h, fun ro m g a w Q _ _ hE hfr hr hm hnx hk => hw ro m Q a w (hk g a w hfr hr (Fr.refl _ _ _) hm hnx fun _ _ => rfl)⟩

theorem CodeS.ops {nt id : Nat} {ops : Array Oper} {tm tm1 : Tr SV} {mk : List Nat} {h h1 : Hs} (k : OpsS E nt ops ops.toList tm h tm1 h1) : CodeS E nt (.region id ops false) tm mk h .normal tm1 mk h1 := by
  obtain ⟨f1, s1⟩ := k
  refine ⟨f1, marks_refl mk h, fun ro m g a w Q hok hro hE hfr hr hm hnx hk => wpIn_region ?_⟩
  have := s1 ro m g a w Q hE hfr hr hnx (fun g1 a1 w1 q1 q2 q3 q4 q5 q6 => hk g1 a1 w1 q1 q2 q3 (by rw [q4]; exact hm.mono q3.le) q5 q6)
  simpa [List.range_eq_range'] using this

theorem CodeS.draw {nt id : Nat} {ops : Array Oper} {tm tm1 : Tr SV} {mk : List Nat} {h h1 : Hs} {out : List St}
    (hf : FacD h.nx 0 ops.size ⟨h.hp, Nat.add h.nx ops.size, h.lg⟩ h1) (hd : DT E nt ops.size ops h.nx 0 [] ops.toList tm.get h.hp.get (Nat.add h.nx ops.size) tm1.get h1.hp.get h1.nx out) : CodeS E nt (.region id ops true) tm mk h .normal tm1 mk h1 := by
  have hnx0 : h.nx ≤ h1.nx := Nat.le_trans (Nat.le_add_right _ _) hf.nx
  refine ⟨⟨hnx0, hf.bd, fun x hx hn => hf.lg x (Nat.lt_of_lt_of_le hx (Nat.le_add_right _ _)) (by omega) hn, hf.sub, fun x hx hn => hf.dead x (Nat.lt_of_lt_of_le hx (Nat.le_add_right _ _)) (by omega) hn⟩, marks_refl mk h, fun ro m g a w Q hok hro hE hfr hr hm hnx hk => ?_⟩
  exact region_draw (show slotsOk ops.size ops.toList ops.toList 0 0 [] = true from hok) hE.mix hd (Nat.le_add_right _ _) hE hfr hr hnx (fun g1 a1 w1 q1 q2 q3 q4 q5 q6 => hk g1 a1 w1 q1 q2 q3 (by rw [q4]; exact hm.mono q3.le) q6 q5)

theorem InvM.zero (ops : Array Oper) (W : Nat) : InvM ops W 0 0 := fun p hp => by simp at hp

theorem jumpK_inv {j : Option Code} {tm : Tr SV} {mk : List Nat} {h : Hs} {Q : Out → Prop} (hf : ∀ s, Q (.fail s)) (h1 : j = none → Q (.code .normal tm mk h)) (h2 : j = some .ret → Q (.code .ret tm mk h)) (h3 : ∀ id, j = some (.exit id) → Q (.code (.exit id) tm mk h)) : Q (jumpK j tm mk h) := by
  cases j with
  | none => exact h1 rfl
  | some c => cases c <;> first | exact hf _ | exact h2 rfl | exact h3 _ rfl

theorem notBusy_ne {s : LoopState} (h : notBusy s = true) : s ≠ .busy := by intro e; subst e; cases h

theorem enterH_get (nt : Nat) (tm : Tr SV) (ps : List Nat) (as bo : Code) (h : Hs) : (enterH nt tm ps as bo h).hp.get = upF (upF h.hp.get (h.nx, some .dfr)) (h.nx + 1, some (.loop nt tm ps as bo .ready none h.nx)) := by
  funext x
  show ((h.hp.set h.nx (some .dfr)).set (h.nx + 1) (some (SO.loop nt tm ps as bo .ready none h.nx))).get x = _
  rw [Tr.get_set, Tr.get_set]
  rfl

theorem enterH_fac {nt : Nat} {tm : Tr SV} {ps : List Nat} {as bo : Code} {h : Hs} (hb : Bd h) : Fac h (enterH nt tm ps as bo h) := by
  refine ⟨Nat.le_add_right _ _, fun x hx => ?_, fun x hx _ => ?_, fun _ hx => hx, fun x hx hn => ?_⟩
  · have hx : h.nx + 2 ≤ x := hx
    rw [enterH_get, upF, upF, if_neg (show x ≠ h.nx + 1 by omega), if_neg (show x ≠ h.nx by omega)]
    exact hb x (by omega)
  · rw [enterH_get, upF, upF, if_neg (show x ≠ h.nx + 1 by omega), if_neg (show x ≠ h.nx by omega)]
  · rw [enterH_get, upF, upF, if_neg (show x ≠ h.nx + 1 by omega), if_neg (show x ≠ h.nx by omega)]
    exact hn

theorem put_fac {h : Hs} {l : Nat} {o o' : SO} (hb : Bd h) (hl : h.hp.get l = some o) : Fac h (h.put l o') := by
  have hlt : l < h.nx := by
    by_cases hc : h.nx ≤ l
    · rw [hb l hc] at hl; simp at hl
    · omega
  have hg : ∀ x, (h.put l o').hp.get x = if x = l then some o' else h.hp.get x := fun x => Tr.get_set _ _ _ _
  refine ⟨Nat.le_refl _, fun x hx => ?_, fun x hx hn => ?_, fun x hx => List.mem_cons_of_mem _ hx, fun x hx hn => ?_⟩
  · have hx : h.nx ≤ x := hx
    rw [hg, if_neg (by omega)]; exact hb x hx
  · have hn : x ∉ l :: h.lg := hn
    rw [hg, if_neg (fun e => hn (by simp [e]))]
  · rw [hg, if_neg (fun e => by subst e; rw [hl] at hn; simp at hn)]; exact hn

theorem put_get (h : Hs) (l : Nat) (o : SO) : (h.put l o).hp.get = upF h.hp.get (l, some o) := funext fun x => Tr.get_set _ _ _ _

/-- The record of a loop is written. -/
theorem HR.loop {h : Hf} {w : World} {l b c nt dd : Nat} {tm : Tr SV} {ps : List Nat} {as bo : Code} {st : LoopState} {pe : Option Code} (hr : HR g h w) (hl : h l = some (.loop nt tm ps as bo st pe dd)) (hρ : g.ρ l = some (b, c)) (st' : LoopState) (pe' : Option Code) :
    ∃ r : Loop, w.heap[b]? = some (.loop r) ∧ r.state = st ∧ r.pending = pe ∧ HR g (upF h (l, some (.loop nt tm ps as bo st' pe' dd))) (w.putObj b (.loop { r with state := st', pending := pe' })) ∧ Fr g h w g (upF h (l, some (.loop nt tm ps as bo st' pe' dd))) (w.putObj b (.loop { r with state := st', pending := pe' })) := by
  obtain ⟨hlt, hor⟩ := hr.at hl hρ
  obtain ⟨k1, k2, r, h1, h2, h3, h4, h5, h6, h7, o', h8⟩ := hor
  have hw := HR.write hr (o' := .loop nt tm ps as bo st' pe' dd) (w' := w.putObj b (.loop { r with state := st', pending := pe' })) hl hρ (by simp) (fun k hk => World.putObj_heap_other hk)
    ⟨k1, k2, { r with state := st', pending := pe' }, by simp [World.putObj, hlt], rfl, rfl, h4, h5, h6, h7, o', h8⟩ rfl rfl rfl
  exact ⟨r, h1, h2, h3, hw.1, hw.2⟩

end Go.Sim
