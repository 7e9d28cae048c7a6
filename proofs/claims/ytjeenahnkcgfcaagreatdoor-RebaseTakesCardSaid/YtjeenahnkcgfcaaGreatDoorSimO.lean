/- Soundness: the operations of a region that is taken in order. -/
import Derived.Test.YtjeenahnkcgfcaaGreatDoorSim19
import Derived.Maps.RangeRun
set_option linter.unusedVariables false
set_option linter.unusedSimpArgs false
namespace Go.Sim
open Go.RowKit

variable {E : Env} {g : Gh} {f : Hf} {w : World}

theorem put_fac' {h : Hs} {l : Nat} {o o' : SO} (hb : Bd h) (hl : h.hp.get l = some o) : Fac h (h.put l o') := by
  have hlt : l < h.nx := by
    by_cases hc : h.nx ≤ l
    · rw [hb l hc] at hl; simp at hl
    · omega
  have hg : ∀ x, (h.put l o').hp.get x = if x = l then some o' else h.hp.get x := fun x => Tr.get_set _ _ _ _
  refine ⟨Nat.le_refl _, fun x hx => ?_, fun x hx hn => ?_, fun x hx => List.mem_cons_of_mem _ hx, fun x hx hn => ?_⟩
  · have hx : h.nx ≤ x := hx
    rw [hg, if_neg (by omega)]; exact hb x hx
  · have hn : x ∉ l :: h.lg := hn
    rw [hg, if_neg (fun e => hn (by simp [e]))]
  · rw [hg, if_neg (fun e => by subst e; rw [hl] at hn; simp at hn)]; exact hn
theorem put_get' (h : Hs) (l : Nat) (o : SO) : (h.put l o).hp.get = upF h.hp.get (l, some o) := funext fun x => Tr.get_set _ _ _ _

/-- Nothing but the slots is turned. -/
theorem ops_slot {nt : Nat} {all : List Oper} {o : Oper} {l : List Oper} {tm : Tr SV} {mk mk1 : List Dm} {h : Hs} {r : List Oc} {v : SV} (hd : dstOk nt o.dst = true) (hmk : MkOK h mk mk1)
    (hstep : ∀ (ops : Array Oper) (i : Nat), ops.toList = all → ops[i]? = some o → ∀ (ro : Option Nat) (m : Nat) (g : Gh) (a : Act) (w : World) (K : Act → World → Prop) (Q : Exit → Act → World → Prop), (ro = none ∨ mk1.length = mk.length) → EnvOK E g → FR g nt tm.get a.tmps → HR g h.hp.get w → Marks g mk a.defers →
      (∀ a' u, VR g u v → a'.tmps = (a.put o.dst u).tmps → Marks g mk1 a'.defers → K a' w) → wpOpIn (fro ro) m E.P ops Q i K a w)
    (ih : Sound E (.ops nt all l (putD tm o.dst v) mk1 h) (.codes r)) : Sound E (.ops nt all (o :: l) tm mk h) (.codes r) := by
  by_cases hne : r = []
  · intro ops he hd hbd
    obtain ⟨_, hd', _⟩ := ops_at hd
    exact absurd hne (ih ops he hd' hbd).1
  refine ops_ways [(putD tm o.dst v, mk1, h)] [] (fun ops i he hi hbd ro m g a w K Q hro hE hfr hr hmk' hnx hk _ => ?_) (fun hbd => ⟨fun y hy => ?_, fun o ho => by simp at ho⟩) (fun o ho => by simp at ho) (fun _ _ _ _ => hne) (fun o' ho => .inr ⟨(putD tm o.dst v, mk1, h), by simp, r, ih, ho⟩) (fun y hy => ?_)
  · refine hstep ops i he hi ro m g a w K Q (hro.imp_right fun hh => hh (putD tm o.dst v, mk1, h) (by simp)) hE hfr hr hmk' (fun a' u hu ha hm => ?_)
    refine hk (putD tm o.dst v, mk1, h) (by simp) g a' w ?_ hr (Fr.refl _ _ _) hm hnx (fun _ _ => rfl)
    rw [putD_get, ha]
    exact hfr.put hd hu
  · obtain rfl := List.mem_singleton.1 hy
    exact ⟨Fac.refl hbd, hmk⟩
  · obtain rfl := List.mem_singleton.1 hy
    exact ⟨r, ih, fun _ h => h⟩

theorem panV_some {x v : SV} (h : panV x = some v) : ∃ t y, x = .ifc t y ∧ v = .ifc t y := by
  cases x with
  | ifc t y => cases h; exact ⟨t, y, rfl, rfl⟩
  | _ => cases h
theorem putOff_some {x : SV} {as : List SV} {d : Dm} (h : putOff x as = some d) : ∃ k fi ca, x = .fn (.func k) fi ca ∧ d = .fn k (fi ++ as) ca := by
  cases x with
  | fn f fi ca =>
    cases f with
    | func k => cases h; exact ⟨k, fi, ca, rfl, rfl⟩
    | _ => cases h
  | _ => cases h

theorem deferOf_some {op : Op} {c : Call} (h : deferOf op = some c) : op = .defer c ∧ isValue c.callee = true := by
  cases op <;> first | (cases h; done) | skip
  rename_i c'
  have h : sel (isValue c'.callee) (some c') none = some c := h
  obtain ⟨h1, h2⟩ := sel_some h
  cases h2
  exact ⟨rfl, h1⟩
theorem panicOf_some {op : Op} {x : Operand} (h : panicOf op = some x) : op = .panic x := by
  cases op <;> first | (cases h; done) | (cases h; rfl)
theorem nextOf_some {op : Op} {x : Operand × Bool} (h : nextOf op = some x) : (op = .next x.1 false ∧ x.2 = false) ∨ (op = .entry x.1 ∧ x.2 = true) := by
  cases op <;> first | (cases h; done) | skip
  · rename_i it isS
    have h : sel isS none (some (it, false)) = some x := h
    cases isS with
    | true => cases h
    | false => cases h; exact .inl ⟨rfl, rfl⟩
  · cases h; exact .inr ⟨rfl, rfl⟩

theorem wanted_true {nt : Nat} {tm : Tf} {a : Act} {ops : Array Oper} {o : Oper} (hfr : FR g nt tm a.tmps) (hw : wantedA ops.toList o tm = some true) : Region.wanted o (yielded ops a.tmps) = true := wanted_spec hfr hw

/-- An operation that is no call, at its place. -/
theorem op_at {ro : Option Nat} {ops : Array Oper} {i m : Nat} {o : Oper} {a : Act} {K : Act → World → Prop} {Q : Exit → Act → World → Prop} (hi : ops[i]? = some o) (hw : Region.wanted o (yielded ops a.tmps) = true) (h : o.uponIn (fro ro) m E.P a K Q ((o.semAt (fro ro).round a.eval).run E.P w)) : wpOpIn (fro ro) m E.P ops Q i K a w := by
  unfold wpOpIn
  rw [hi]
  simp only
  rw [if_pos hw]
  exact ⟨about_true E.P w, h⟩

/-- A panic. -/
theorem ops_panic {nt : Nat} {all : List Oper} {o : Oper} {l : List Oper} {tm : Tr SV} {mk : List Dm} {h : Hs} {x : Operand} {y v : SV} (hw : wantedA all o tm.get = some true) (hop : o.op = .panic x) (hx : valA tm.get x = some y) (hy : panV y = some v) :
    Sound E (.ops nt all (o :: l) tm mk h) (.codes [⟨.pan v, tm, mk, h⟩]) := by
  refine ops_ways [] [⟨.pan v, tm, mk, h⟩] (fun ops i he hi hbd ro m g a w K Q hro hE hfr hr hmk hnx _ hk => ?_) (fun hbd => ⟨fun y hy => by simp at hy, fun o ho => ?_⟩) (fun o ho => ho) (fun _ _ _ _ => by simp) (fun o ho => .inl ho) (fun y hy => by simp at hy)
  · subst he
    obtain ⟨t, z, rfl, rfl⟩ := panV_some hy
    have hv := valA_spec hfr hx
    generalize hu : a.eval x = u at hv
    cases hv with
    | @ifc _ u' _ hu' =>
    refine op_at hi (wanted_true hfr hw) ?_
    rw [Oper.semAt_eq _ _ _ (fun c' h => by rw [hop] at h; cases h)]
    have hex : (execOp a.eval o).run E.P w = .halt (.panic (.iface t u')) w := by
      simp only [execOp, hop, hu, Instr.panic, goPanic, Sem.run_bind]
      rfl
    rw [hex]
    exact hk ⟨.pan (.ifc t z), tm, mk, h⟩ (by simp) g a w _ (.pan (.ifc hu')) hfr hr (Fr.refl _ _ _) hmk hnx (fun _ _ => rfl)
  · obtain rfl := List.mem_singleton.1 ho
    exact ⟨Fac.refl hbd, MkOK.refl _ _⟩

/-- A call that is put off. -/
theorem ops_defer {nt : Nat} {all : List Oper} {o : Oper} {c : Call} {l : List Oper} {tm : Tr SV} {mk : List Dm} {h : Hs} {r : List Oc} {fv : SV} {as : List SV} {d : Dm} (hw : wantedA all o tm.get = some true) (hd : dstOk nt o.dst = true) (hop : o.op = .defer c) (hc : calleeV tm.get c.callee = some fv) (has : vals tm.get c.args.toList = some as) (hdm : putOff fv as = some d)
    (ih : Sound E (.ops nt all l (putD tm o.dst .undef) (d :: mk) h) (.codes r)) : Sound E (.ops nt all (o :: l) tm mk h) (.codes r) := by
  obtain ⟨k, fi, ca, rfl, rfl⟩ := putOff_some hdm
  refine ops_slot hd ⟨by simp, fun x hx => .inl (by simpa using hx)⟩ (fun ops i he hi ro m g a w K Q hro hE hfr hr hmk hk => ?_) ih
  subst he
  have hro : ro = none := by
    rcases hro with h | h
    · exact h
    · simp at h
  subst hro
  obtain ⟨x, hx⟩ : ∃ x, c.callee = .value x := by
    cases hcc : c.callee with
    | value x => exact ⟨x, rfl⟩
    | _ => rw [hcc] at hc; cases hc
  rw [hx] at hc
  have hu := valA_spec hfr (show valA tm.get x = some (.fn (.func k) fi ca) from hc)
  have hus := vals_spec hfr has
  generalize hue : a.eval x = u at hu
  cases hu with
  | @fn _ first caps _ _ h1 h2 =>
  refine op_at hi (wanted_true hfr hw) ?_
  have hres : (resolve a.eval c o.type).run E.P w = .ok { target := .fn (.func k) caps, args := first ++ (c.args.toList.map a.eval).toArray } w := by
    simp only [resolve, hx, hue]
    have : c.args.map a.eval = (c.args.toList.map a.eval).toArray := arr_list (by simp)
    rw [this]
    rfl
  have hex : (o.semAt (fro none).round a.eval).run E.P w = .ok (.defer { target := .fn (.func k) caps, args := first ++ (c.args.toList.map a.eval).toArray }) w := by
    show (o.semAt none a.eval).run E.P w = _
    rw [Oper.semAt_none]
    simp only [execOp, hop, Sem.run_bind, hres, Result.andThen_ok, Sem.run_pure]
  rw [hex]
  refine hk _ undef (.undef _) ?_ ?_
  · cases o.dst <;> rfl
  · rw [put_defers]
    exact .fn (by simpa using h1.append hus) h2 hmk

/-! ### a range over a map -/
theorem memB'_iff (x : Nat) : ∀ (l : List Nat), memB' x l = true ↔ x ∈ l
  | [] => by simp [memB']
  | y :: l => by
    unfold memB'
    rw [sel_if, beq_eq]
    by_cases h : x = y
    · simp [h]
    · simp only [h, decide_false, Bool.false_eq_true, if_false, List.mem_cons, false_or]
      exact memB'_iff x l

theorem leftE_spec {seen : List Nat} {sa : Array Nat} (hs : sa.toList = seen) : ∀ {ms : List MapEntry} {es : List (SV × SV × Nat)}, EntsR g ms es → EntsR g (ms.filter fun e => !sa.contains e.born) (leftE seen es)
  | _, _, .nil => .nil
  | _, _, .cons (m := m) (x := x) (ms := ms) (xs := xs) hd ht => by
    have ih := leftE_spec hs ht
    have hc : sa.contains m.born = memB' x.2.2 seen := by
      rw [Bool.eq_iff_iff, memB'_iff, Array.contains_iff_mem, ← Array.mem_toList_iff, hs, hd.2.2]
    unfold leftE at ih ⊢
    rw [List.filter_cons, List.filter_cons, hc]
    cases memB' x.2.2 seen with
    | true => exact ih
    | false => exact .cons hd ih

theorem EntsR.nil_iff {ms : List MapEntry} {es : List (SV × SV × Nat)} (h : EntsR g ms es) : ms = [] ↔ es = [] := by cases h <;> simp
theorem EntsR.mem {ms : List MapEntry} {es : List (SV × SV × Nat)} (h : EntsR g ms es) : ∀ m ∈ ms, ∃ x ∈ es, EntR g m x := by
  intro m hm
  induction h with
  | nil => simp at hm
  | cons hd ht ih =>
    rcases List.mem_cons.1 hm with rfl | hm
    · exact ⟨_, by simp, hd⟩
    · obtain ⟨x, hx, h⟩ := ih hm
      exact ⟨x, List.mem_cons_of_mem _ hx, h⟩

theorem leftOf_spec {seen : List Nat} {sa : Array Nat} (hs : sa.toList = seen) {ms : Array MapEntry} {es : List (SV × SV × Nat)} (h : EntsR g ms.toList es) : EntsR g (leftOf ms sa).toList (leftE seen es) := by
  have := leftE_spec hs h
  unfold leftOf
  rw [Array.toList_filter]
  exact this

theorem zeroOff_some {y : SV} {id : Nat} (h : zeroOff y = some id) : y = .ptr id 0 := by
  obtain ⟨q, h1, h2⟩ := bind1_some h
  obtain ⟨h3, h4⟩ := sel_some h2
  cases h4
  have := (beq_iff _ _).1 h3
  obtain rfl := ptrOf_some h1
  rw [this]

theorem iterM_spec {since last c : Nat} {seen : List Nat} {es : List (SV × SV × Nat)} (h : iterM since seen last c es = true) : (∀ e ∈ es, e.2.2 < since) ∧ since ≤ last := by
  unfold iterM at h
  rw [Bool.and_eq_true] at h
  refine ⟨fun e he => ?_, (ble_iff _ _).1 h.2⟩
  exact (ble_iff _ _).1 (List.all_eq_true.1 h.1 e he)

/-- A step of a range over a map: whichever entry the tape names. -/
theorem ops_next {rec : Job → Out} (hrec : ∀ j, Sound E j (rec j)) {nt : Nat} {all : List Oper} {o : Oper} {l : List Oper} {tm : Tr SV} {mk : List Dm} {h : Hs} {r : List Oc} {x : Operand} {y : SV} {id : Nat} (hw : wantedA all o tm.get = some true) (hd : dstOk nt o.dst = true) (hop : o.op = .next x false) (hx : valA tm.get x = some y) (hy : zeroOff y = some id)
    (hres : stepIter rec nt all l tm mk h o.dst id = .codes r) : Sound E (.ops nt all (o :: l) tm mk h) (.codes r) := by
  obtain rfl := zeroOff_some hy
  -- nothing is left
  have over : (∀ (g : Gh) (w : World), HR g h.hp.get w → ∀ b c, g.ρ id = some (b, c) → c = 0 ∧ (Instr.next (.pointer (some ⟨b, 0, none⟩)) false o.type).run E.P w = .ok (.tuple #[.bool false]) w) →
      Sound E (.ops nt all l (putD tm o.dst (.tup [.bool false])) mk h) (.codes r) → Sound E (.ops nt all (o :: l) tm mk h) (.codes r) := by
    intro hrun ih
    refine ops_slot hd (MkOK.refl _ _) (fun ops i he hi ro m g a w K Q hro hE hfr hr hmk hk => ?_) ih
    subst he
    have hu := valA_spec hfr hx
    generalize hue : a.eval x = u at hu
    cases hu with
    | @ptr _ _ b c hρ =>
    obtain ⟨rfl, hn⟩ := hrun g w hr b c hρ
    refine op_at hi (wanted_true hfr hw) ?_
    rw [Oper.semAt_eq _ _ _ (fun c' h => by rw [hop] at h; cases h)]
    have hex : (execOp a.eval o).run E.P w = .ok (.value (.tuple #[.bool false])) w := by
      simp only [execOp, hop, hue, Nat.add_zero, Sem.run_bind, hn, Result.andThen_ok, Sem.run_pure]
    rw [hex]
    exact hk _ _ (.tup (.cons (.bool false) .nil)) rfl (by rw [put_defers]; exact hmk)
  unfold stepIter at hres
  split at hres
  · rename_i s q t hid
    have ih := hrec (.ops nt all l (putD tm o.dst (.tup [.bool false])) mk h)
    rw [show rec (.ops nt all l (putD tm o.dst (.tup [.bool false])) mk h) = .codes r from hres] at ih
    refine over (fun g w hr b c hρ => ?_) ih
    obtain ⟨_, rfl, bm, sa, h1, h2, h3⟩ := hr.at hid hρ
    have h3 : bm = none := h3
    subst h3
    refine ⟨rfl, ?_⟩
    simp [Instr.next, getObj, Sem.run, h1]
  · rename_i m0 since seen last hid
    split at hres
    rotate_left
    · cases hres
    rename_i es c0 hmap
    rw [sel_if] at hres
    split at hres
    rotate_left
    · cases hres
    rename_i hit
    obtain ⟨hold, hsl⟩ := iterM_spec hit
    unfold stepMap at hres
    -- what the model does
    have model : ∀ (g : Gh) (w : World), HR g h.hp.get w → ∀ b c, g.ρ id = some (b, c) → c = 0 ∧ ∃ (bm y : Nat) (sa : Array Nat) (ms : Array MapEntry), g.ρ m0 = some (bm, y) ∧ sa.toList = seen ∧ w.heap[b]? = some (.mapIter (some bm) since sa last) ∧ w.heap[bm]? = some (.map ms c0) ∧ EntsR g ms.toList es ∧ ∀ z ∈ ms.toList, z.born < since := by
      intro g w hr b c hρ
      obtain ⟨_, rfl, bm, sa, h1, h2, h3⟩ := hr.at hid hρ
      obtain ⟨bm', y, rfl, h4⟩ := h3
      obtain ⟨_, ms, m1, m2⟩ := hr.at hmap h4
      refine ⟨rfl, bm', y, sa, ms, h4, h2, h1, m1, m2, fun z hz => ?_⟩
      obtain ⟨e, he, h5⟩ := m2.mem z hz
      rw [h5.2.2]; exact hold e he
    cases hle : leftE seen es with
    | nil =>
      rw [hle] at hres
      have ih := hrec (.ops nt all l (putD tm o.dst (.tup [.bool false])) mk h)
      rw [show rec (.ops nt all l (putD tm o.dst (.tup [.bool false])) mk h) = .codes r from hres] at ih
      refine over (fun g w hr b c hρ => ?_) ih
      obtain ⟨rfl, bm, y, sa, ms, q1, q2, q3, q4, q5, q6⟩ := model g w hr b c hρ
      refine ⟨rfl, ?_⟩
      have hl0 := leftOf_spec q2 q5
      rw [hle] at hl0
      rcases run_next_at (P := E.P) w o.type b bm since last sa ms c0 q3 q4 q6 hsl with ⟨_, hn⟩ | ⟨e, he, _⟩
      · exact hn
      · have : (leftOf ms sa).toList = [] := hl0.nil_iff.2 rfl
        rw [this] at he; simp at he
    | cons e0 l0 =>
      rw [hle] at hres
      have hres : catL (fun e => nextK rec nt all l tm mk o.dst (.tup [.bool true, e.1, e.2.1]) (h.put id (.mapIter (some m0) since (seen ++ [e.2.2]) c0))) (e0 :: l0) = .codes r := hres
      rw [← hle] at hres
      obtain ⟨hne, q1, q2⟩ := catL_codes hres
      have hrne : ∀ ops : Array Oper, ops.toList = all → ops.toList.drop (ops.size - l.length) = l → Bd h → r ≠ [] := by
        intro ops hops hdrop hbd hr0
        subst hr0
        obtain ⟨r', h1, h2⟩ := q1 e0 (by rw [hle]; simp)
        have hs := hrec (.ops nt all l (putD tm o.dst (.tup [.bool true, e0.1, e0.2.1])) mk (h.put id (.mapIter (some m0) since (seen ++ [e0.2.2]) c0)))
        rw [show rec (.ops nt all l (putD tm o.dst (.tup [.bool true, e0.1, e0.2.1])) mk (h.put id (.mapIter (some m0) since (seen ++ [e0.2.2]) c0))) = .codes r' from h1] at hs
        obtain ⟨hne', _⟩ := hs ops hops hdrop (put_fac' hbd hid).bd
        obtain ⟨z, hz⟩ := List.exists_mem_of_ne_nil _ hne'
        have := h2 z hz
        simp at this
      refine ops_ways ((leftE seen es).map fun e => (putD tm o.dst (.tup [.bool true, e.1, e.2.1]), mk, h.put id (.mapIter (some m0) since (seen ++ [e.2.2]) c0))) [] (fun ops i he hi hbd ro m g a w K Q hro hE hfr hr hmk hnx hk _ => ?_) (fun hbd => ⟨fun y hy => ?_, fun o ho => by simp at ho⟩) (fun o ho => by simp at ho) hrne (fun oc ho => ?_) (fun y hy => ?_)
      · subst he
        have hu := valA_spec hfr hx
        generalize hue : a.eval x = u at hu
        cases hu with
        | @ptr _ _ b c hρ =>
        obtain ⟨rfl, bm, y, sa, ms, p1, p2, p3, p4, p5, p6⟩ := model g w hr b c hρ
        have hl0 := leftOf_spec p2 p5
        rcases run_next_at (P := E.P) w o.type b bm since last sa ms c0 p3 p4 p6 hsl with ⟨h0, _⟩ | ⟨e, he, w1, hw1, hn⟩
        · have : (leftOf ms sa).toList = [] := List.eq_nil_of_length_eq_zero (by simpa using h0)
          rw [this, hle] at hl0
          cases hl0
        obtain ⟨x0, hx0, hex0⟩ := hl0.mem e he
        refine op_at hi (wanted_true hfr hw) ?_
        rw [Oper.semAt_eq _ _ _ (fun c' h => by rw [hop] at h; cases h)]
        have hex : (execOp a.eval o).run E.P w = .ok (.value (.tuple #[.bool true, e.key, e.val])) (ChangeMaps.setBlock w1 b (.mapIter (some bm) since (sa.push e.born) c0)) := by
          simp only [execOp, hop, hue, Nat.add_zero, Sem.run_bind, hn, Result.andThen_ok, Sem.run_pure]
        rw [hex]
        have hheap : w1.heap = w.heap ∧ w1.os = w.os ∧ w1.tape = w.tape ∧ w1.output = w.output := by
          rcases hw1 with rfl | rfl
          · exact ⟨rfl, rfl, rfl, rfl⟩
          · exact ⟨rfl, rfl, rfl, rfl⟩
        have hb : b < w.heap.size := (hr.at hid hρ).1
        obtain ⟨t1, t2⟩ := HR.write hr (o' := .mapIter (some m0) since (seen ++ [x0.2.2]) c0) (w' := ChangeMaps.setBlock w1 b (.mapIter (some bm) since (sa.push e.born) c0)) hid hρ (by simp [ChangeMaps.setBlock, hheap.1]) (fun k hk => by simp [ChangeMaps.setBlock, hheap.1, Array.getElem?_setIfInBounds_ne (Ne.symm hk)])
          ⟨rfl, some bm, sa.push e.born, by simp [ChangeMaps.setBlock, hheap.1, hb], by rw [Array.toList_push, p2, hex0.2.2], bm, y, rfl, p1⟩ hheap.2.1 hheap.2.2.1 hheap.2.2.2
        rw [← put_get'] at t1 t2
        refine hk (putD tm o.dst (.tup [.bool true, x0.1, x0.2.1]), mk, h.put id (.mapIter (some m0) since (seen ++ [x0.2.2]) c0)) (List.mem_map.2 ⟨x0, hx0, rfl⟩) g (a.put o.dst (.tuple #[.bool true, e.key, e.val])) _ ?_ t1 t2 (by rw [put_defers]; exact hmk) hnx (fun _ _ => rfl)
        rw [putD_get]
        exact hfr.put hd (.tup (.cons (.bool true) (.cons hex0.1 (.cons hex0.2.1 .nil))))
      · obtain ⟨e, he, rfl⟩ := List.mem_map.1 hy
        exact ⟨put_fac' hbd hid, MkOK.refl _ _⟩
      · obtain ⟨e, he, r', h1, h2⟩ := q2 oc ho
        refine .inr ⟨(putD tm o.dst (.tup [.bool true, e.1, e.2.1]), mk, h.put id (.mapIter (some m0) since (seen ++ [e.2.2]) c0)), List.mem_map.2 ⟨e, he, rfl⟩, r', ?_, h2⟩
        have ih := hrec (.ops nt all l (putD tm o.dst (.tup [.bool true, e.1, e.2.1])) mk (h.put id (.mapIter (some m0) since (seen ++ [e.2.2]) c0)))
        rw [show rec (.ops nt all l (putD tm o.dst (.tup [.bool true, e.1, e.2.1])) mk (h.put id (.mapIter (some m0) since (seen ++ [e.2.2]) c0))) = .codes r' from h1] at ih
        exact ih
      · obtain ⟨e, he, rfl⟩ := List.mem_map.1 hy
        obtain ⟨r', h1, h2⟩ := q1 e he
        refine ⟨r', ?_, h2⟩
        have ih := hrec (.ops nt all l (putD tm o.dst (.tup [.bool true, e.1, e.2.1])) mk (h.put id (.mapIter (some m0) since (seen ++ [e.2.2]) c0)))
        rw [show rec (.ops nt all l (putD tm o.dst (.tup [.bool true, e.1, e.2.1])) mk (h.put id (.mapIter (some m0) since (seen ++ [e.2.2]) c0))) = .codes r' from h1] at ih
        exact ih
  · cases hres

theorem findE_spec {b : Nat} : ∀ {ms : List MapEntry} {es : List (SV × SV × Nat)}, EntsR g ms es → ∀ {v : SV}, findE b es = some v → ∃ e, ms.find? (·.born == b) = some e ∧ VR g (.tuple #[e.key, e.val]) v
  | _, _, .nil, v, h => by cases h
  | _, _, .cons (m := m) (x := x) (ms := ms) (xs := es) hd ht, v, h => by
    unfold findE at h
    rw [sel_if] at h
    split at h
    · rename_i hb
      have hb := (beq_iff _ _).1 hb
      cases h
      refine ⟨m, by simp [hd.2.2, hb], .tup (.cons hd.1 (.cons hd.2.1 .nil))⟩
    · rename_i hb
      have hb : ¬ x.2.2 = b := fun e => hb ((beq_iff _ _).2 e)
      obtain ⟨e, h1, h2⟩ := findE_spec ht h
      refine ⟨e, ?_, h2⟩
      rw [List.find?_cons]
      have : (m.born == b) = false := by rw [hd.2.2]; simpa using hb
      rw [this]; exact h1
theorem lastN_spec : ∀ {l : List Nat} {b : Nat}, lastN l = some b → l.getLast? = some b
  | [], b, h => by cases h
  | [a], b, h => by cases h; rfl
  | a :: c :: l, b, h => by
    have := lastN_spec (l := c :: l) h
    rw [List.getLast?_cons_cons]; exact this

/-- The round's key and value. -/
theorem ops_entry {nt : Nat} {all : List Oper} {o : Oper} {l : List Oper} {tm : Tr SV} {mk : List Dm} {h : Hs} {r : List Oc} {x : Operand} {y v : SV} {id : Nat} (hw : wantedA all o tm.get = some true) (hd : dstOk nt o.dst = true) (hop : o.op = .entry x) (hx : valA tm.get x = some y) (hy : zeroOff y = some id)
    (hv : entryA h.hp.get id = some v) (ih : Sound E (.ops nt all l (putD tm o.dst v) mk h) (.codes r)) : Sound E (.ops nt all (o :: l) tm mk h) (.codes r) := by
  obtain rfl := zeroOff_some hy
  refine ops_slot hd (MkOK.refl _ _) (fun ops i he hi ro m g a w K Q hro hE hfr hr hmk hk => ?_) ih
  subst he
  have hu := valA_spec hfr hx
  generalize hue : a.eval x = u at hu
  cases hu with
  | @ptr _ _ b c hρ =>
  unfold entryA at hv
  split at hv
  rotate_left
  · cases hv
  rename_i m0 since seen last hid
  split at hv
  rotate_left
  · cases hv
  rename_i es c0 hmap
  obtain ⟨hc, hv2⟩ := sel_some hv
  have hc := (beq_iff _ _).1 hc
  subst hc
  obtain ⟨bo, h1, h2⟩ := bind1_some hv2
  obtain ⟨_, rfl, bm, sa, q1, q2, q3⟩ := hr.at hid hρ
  obtain ⟨bm', y', rfl, q4⟩ := q3
  obtain ⟨_, ms, m1, m2⟩ := hr.at hmap q4
  obtain ⟨e, e1, e2⟩ := findE_spec m2 h2
  have hback : sa.back? = some bo := by rw [← Array.getLast?_toList, q2]; exact lastN_spec h1
  refine op_at hi (wanted_true hfr hw) ?_
  rw [Oper.semAt_eq _ _ _ (fun c' h => by rw [hop] at h; cases h)]
  have hf : ms.find? (·.born == bo) = some e := by rw [← Array.find?_toList]; exact e1
  have hn : (Instr.entry (.pointer (some ⟨b, 0, none⟩))).run E.P w = .ok (.tuple #[e.key, e.val]) w := by
    simp only [Instr.entry, getObj, Sem.run_bind, Sem.run, q1, m1, Result.andThen, hback, bne_self_eq_false, Bool.false_eq_true, if_false, hf]
    rfl
  have hex : (execOp a.eval o).run E.P w = .ok (.value (.tuple #[e.key, e.val])) w := by
    simp only [execOp, hop, hue, Nat.add_zero, Sem.run_bind, hn, Result.andThen_ok, Sem.run_pure]
  rw [hex]
  exact hk _ _ e2 rfl (by rw [put_defers]; exact hmk)

/-- A call with its ways. -/
theorem ops_call {rec : Job → Out} (hrec : ∀ j, Sound E j (rec j)) {nt : Nat} {all : List Oper} {o : Oper} {c : Call} {l : List Oper} {tm : Tr SV} {mk : List Dm} {h : Hs} {r : List Oc} {fv : SV} {as : List SV} {rs : List Rs} (hw : wantedA all o tm.get = some true) (hd : dstOk nt o.dst = true) (hop : o.op = .call c) (hc : calleeV tm.get c.callee = some fv)
    (has : vals tm.get c.args.toList = some as) (hs : Sound E (.call fv as h) (.ress rs)) (hres : catL (fun x : Rs => sel x.pan (.codes [⟨.pan x.v, tm, mk, x.h⟩]) (nextK rec nt all l tm mk o.dst x.v x.h)) rs = .codes r) : Sound E (.ops nt all (o :: l) tm mk h) (.codes r) := by
  have hs : Bd h → rs ≠ [] ∧ (∀ r ∈ rs, Fac h r.h) ∧ SemCalls E fv as h.hp.get h.nx rs := hs
  obtain ⟨hne, q1, q2⟩ := catL_codes hres
  have way : ∀ x ∈ rs, (x.pan = true ∧ (⟨.pan x.v, tm, mk, x.h⟩ : Oc) ∈ r) ∨ (x.pan = false ∧ ∃ r', Sound E (.ops nt all l (putD tm o.dst x.v) mk x.h) (.codes r') ∧ ∀ z ∈ r', z ∈ r) := by
    intro x hx
    obtain ⟨r', h1, h2⟩ := q1 x hx
    cases hp : x.pan with
    | true =>
      rw [hp] at h1
      cases (show Out.codes [⟨.pan x.v, tm, mk, x.h⟩] = .codes r' from h1)
      exact .inl ⟨rfl, h2 _ (by simp)⟩
    | false =>
      rw [hp] at h1
      have ih := hrec (.ops nt all l (putD tm o.dst x.v) mk x.h)
      rw [show rec (.ops nt all l (putD tm o.dst x.v) mk x.h) = .codes r' from h1] at ih
      exact .inr ⟨rfl, r', ih, h2⟩
  refine ops_ways ((rs.filter fun x => !x.pan).map fun x => (putD tm o.dst x.v, mk, x.h)) ((rs.filter fun x => x.pan).map fun x => ⟨.pan x.v, tm, mk, x.h⟩) (fun ops i he hi hbd ro m g a w K Q hro hE hfr hr hmk hnx hk hP => ?_) (fun hbd => ⟨fun y hy => ?_, fun o ho => ?_⟩) (fun o ho => ?_) (fun ops hops hdrop hbd hr0 => ?_) (fun oc ho => ?_) (fun y hy => ?_)
  · subst he
    refine op_call (g := g) (H := h.hp.get) (nx := h.nx) hi hw hop hc has hfr (fun _ _ => rfl) (fun u us hu hus => (hs hbd).2.2 (m - 1) g w u us hE hr hnx hu hus) ?_
    rintro e w' ⟨x, hx, u, g', rfl, h1, h2, h3, h4, h5⟩
    refine ⟨x.pan, u, rfl, fun hp => ?_, fun hp => ?_⟩
    · refine hk (putD tm o.dst x.v, mk, x.h) (List.mem_map.2 ⟨x, List.mem_filter.2 ⟨hx, by simp [hp]⟩, rfl⟩) g' _ w' ?_ h2 h3 (by rw [put_defers]; exact hmk.mono h3.le) h5 h4
      rw [putD_get]
      exact (hfr.mono h3.le).put hd h1
    · exact hP ⟨.pan x.v, tm, mk, x.h⟩ (List.mem_map.2 ⟨x, List.mem_filter.2 ⟨hx, hp⟩, rfl⟩) g' a w' _ (.pan h1) (hfr.mono h3.le) h2 h3 (hmk.mono h3.le) h5 h4
  · obtain ⟨x, hx, rfl⟩ := List.mem_map.1 hy
    exact ⟨(hs hbd).2.1 x (List.mem_filter.1 hx).1, MkOK.refl _ _⟩
  · obtain ⟨x, hx, rfl⟩ := List.mem_map.1 ho
    exact ⟨(hs hbd).2.1 x (List.mem_filter.1 hx).1, MkOK.refl _ _⟩
  · obtain ⟨x, hx, rfl⟩ := List.mem_map.1 ho
    obtain ⟨hx1, hx2⟩ := List.mem_filter.1 hx
    rcases way x hx1 with ⟨_, h1⟩ | ⟨h1, _⟩
    · exact h1
    · rw [h1] at hx2; simp at hx2
  · subst hr0
    obtain ⟨x, hx⟩ := List.exists_mem_of_ne_nil _ hne
    rcases way x hx with ⟨_, h1⟩ | ⟨_, r', h1, h2⟩
    · simp at h1
    · obtain ⟨hne', _⟩ := h1 ops hops hdrop ((hs hbd).2.1 x hx).bd
      obtain ⟨z, hz⟩ := List.exists_mem_of_ne_nil _ hne'
      have := h2 z hz
      simp at this
  · obtain ⟨x, hx, r', h1, h2⟩ := q2 oc ho
    cases hp : x.pan with
    | true =>
      rw [hp] at h1
      cases (show Out.codes [⟨.pan x.v, tm, mk, x.h⟩] = .codes r' from h1)
      obtain rfl := List.mem_singleton.1 h2
      exact .inl (List.mem_map.2 ⟨x, List.mem_filter.2 ⟨hx, hp⟩, rfl⟩)
    | false =>
      rw [hp] at h1
      have ih := hrec (.ops nt all l (putD tm o.dst x.v) mk x.h)
      rw [show rec (.ops nt all l (putD tm o.dst x.v) mk x.h) = .codes r' from h1] at ih
      exact .inr ⟨(putD tm o.dst x.v, mk, x.h), List.mem_map.2 ⟨x, List.mem_filter.2 ⟨hx, by simp [hp]⟩, rfl⟩, r', ih, h2⟩
  · obtain ⟨x, hx, rfl⟩ := List.mem_map.1 hy
    obtain ⟨hx1, hx2⟩ := List.mem_filter.1 hx
    rcases way x hx1 with ⟨h1, _⟩ | ⟨_, h1⟩
    · rw [h1] at hx2; simp at hx2
    · exact h1

theorem goK_codes {rec : Job → Out} {h : Hs} {fo : Option SV} {ao : Option (List SV)} {k kp : SV → Hs → Out} {r : List Oc} (hg : goK rec h fo ao k kp = .codes r) : ∃ fv as rs, fo = some fv ∧ ao = some as ∧ rec (.call fv as h) = .ress rs ∧ catL (fun x : Rs => sel x.pan (kp x.v x.h) (k x.v x.h)) rs = .codes r := by
  cases fo with
  | none => cases hg
  | some fv =>
    cases ao with
    | none => cases hg
    | some as =>
      obtain ⟨rs, h1, h2⟩ := resK_codes (show resK (rec (.call fv as h)) k kp = .codes r from hg)
      exact ⟨fv, as, rs, rfl, rfl, h1, h2⟩

theorem step_ops_sound {rec : Job → Out} (hrec : ∀ j, Sound E j (rec j)) (nt : Nat) (all l : List Oper) (tm : Tr SV) (mk : List Dm) (h : Hs) : Sound E (.ops nt all l tm mk h) (stepOps E rec nt all l tm mk h) := by
  cases l with
  | nil =>
    intro ops he hd hbd
    refine ⟨by simp, fun o ho => ?_, fun ro m g a w Q hro hE hfr hr hmk hnx hk => ?_⟩
    · obtain rfl := List.mem_singleton.1 ho
      exact ⟨Fac.refl hbd, MkOK.refl _ _⟩
    · simp only [List.length_nil, List.range'_zero]
      exact hk ⟨.normal, tm, mk, h⟩ (by simp) g a w _ .normal hfr hr (Fr.refl _ _ _) hmk hnx (fun _ _ => rfl)
  | cons o l =>
    show Sound E _ (sel (dstOk nt o.dst) (wantK E rec nt all l tm mk h o (wantedA all o tm.get)) (.fail "slot"))
    rw [sel_if]
    split
    rotate_left
    · trivial
    rename_i hd
    unfold wantK
    cases hw : wantedA all o tm.get with
    | none => trivial
    | some wb =>
      show Sound E _ (sel wb (doK E rec nt all l tm mk h o (callOf o.op)) (nextK rec nt all l tm mk o.dst (.tup []) h))
      cases wb with
      | false => exact ops_skip hw hd (hrec _)
      | true =>
        show Sound E _ (doK E rec nt all l tm mk h o (callOf o.op))
        unfold doK
        cases hc : callOf o.op with
        | some c =>
          obtain ⟨hop, _⟩ := callOf_some hc
          show Sound E _ (goK rec h (calleeV tm.get c.callee) (vals tm.get c.args.toList) (nextK rec nt all l tm mk o.dst) fun v h => .code (.pan v) tm mk h)
          cases hg : goK rec h (calleeV tm.get c.callee) (vals tm.get c.args.toList) (nextK rec nt all l tm mk o.dst) fun v h => .code (.pan v) tm mk h with
          | codes r =>
            obtain ⟨fv, as, rs, h1, h2, h3, h4⟩ := goK_codes hg
            have hs := hrec (.call fv as h)
            rw [h3] at hs
            exact ops_call hrec hw hd hop h1 h2 hs h4
          | _ => trivial
        | none =>
          show Sound E _ (restK E rec nt all l tm mk h o (deferOf o.op) (panicOf o.op))
          unfold restK
          cases hdf : deferOf o.op with
          | some c =>
            obtain ⟨hop, _⟩ := deferOf_some hdf
            show Sound E _ (deferK rec nt all l tm mk h o (bind2 (calleeV tm.get c.callee) (vals tm.get c.args.toList) putOff))
            unfold deferK
            cases hb : bind2 (calleeV tm.get c.callee) (vals tm.get c.args.toList) putOff with
            | none => trivial
            | some d =>
              obtain ⟨fv, as, h1, h2, h3⟩ := bind2_some hb
              show Sound E _ (rec (.ops nt all l (putD tm o.dst .undef) (d :: mk) h))
              have ih := hrec (.ops nt all l (putD tm o.dst .undef) (d :: mk) h)
              cases hr : rec (.ops nt all l (putD tm o.dst .undef) (d :: mk) h) with
              | codes r => rw [hr] at ih; exact ops_defer hw hd hop h1 h2 h3 ih
              | _ => trivial
          | none =>
            show Sound E _ (@Option.rec Operand (fun _ => Out) (restN E rec nt all l tm mk h o (nextOf o.op)) (fun x => panicK tm mk h (bind1 (valA tm.get x) panV)) (panicOf o.op))
            cases hpn : panicOf o.op with
            | some x =>
              have hop := panicOf_some hpn
              show Sound E _ (panicK tm mk h (bind1 (valA tm.get x) panV))
              unfold panicK
              cases hb : bind1 (valA tm.get x) panV with
              | none => trivial
              | some v =>
                obtain ⟨y, h1, h2⟩ := bind1_some hb
                exact ops_panic hw hop h1 h2
            | none =>
              show Sound E _ (restN E rec nt all l tm mk h o (nextOf o.op))
              unfold restN
              cases hnx : nextOf o.op with
              | some x =>
                show Sound E _ (iterK rec nt all l tm mk h o.dst x.2 (valA tm.get x.1))
                unfold iterK
                cases hb : bind1 (valA tm.get x.1) zeroOff with
                | none => trivial
                | some id =>
                  obtain ⟨y, h1, h2⟩ := bind1_some hb
                  show Sound E _ (sel x.2 (entryK rec nt all l tm mk h o.dst (entryA h.hp.get id)) (stepIter rec nt all l tm mk h o.dst id))
                  rcases nextOf_some hnx with ⟨hop, hx2⟩ | ⟨hop, hx2⟩
                  · rw [hx2]
                    show Sound E _ (stepIter rec nt all l tm mk h o.dst id)
                    cases hr : stepIter rec nt all l tm mk h o.dst id with
                    | codes r => exact ops_next hrec hw hd hop h1 h2 hr
                    | _ => trivial
                  · rw [hx2]
                    show Sound E _ (entryK rec nt all l tm mk h o.dst (entryA h.hp.get id))
                    unfold entryK
                    cases hv : entryA h.hp.get id with
                    | none => trivial
                    | some v =>
                      show Sound E _ (rec (.ops nt all l (putD tm o.dst v) mk h))
                      have ih := hrec (.ops nt all l (putD tm o.dst v) mk h)
                      cases hr : rec (.ops nt all l (putD tm o.dst v) mk h) with
                      | codes r => rw [hr] at ih; exact ops_entry hw hd hop h1 h2 hv ih
                      | _ => trivial
              | none =>
                show Sound E _ (valK rec nt all l tm mk h o (opA E o.op tm.get h.hp.get h.nx))
                unfold valK
                cases ho : opA E o.op tm.get h.hp.get h.nx with
                | none => trivial
                | some r => exact ops_val hw hd ho (defer_none ho) (hrec _)

end Go.Sim
