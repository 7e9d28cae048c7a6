/- Soundness: definitions, the operations of a region. -/
import Derived.Test.YtkjailapincfbaaGreatDoorSim18
import Derived.Lib.Bytealg
import Derived.Laws.Externs
set_option linter.unusedVariables false
set_option linter.unusedSimpArgs false
namespace Go.Sim
open Go.RowKit

variable {E : Env} {g : Gh} {f : Hf} {w : World}

/-- A loop, at the beginning of a round. -/
def loopWp (F : Fence) (n : Nat) (P : Program) (c : Code) (Q : Exit → Act → World → Prop) (a : Act) (w : World) : Prop :=
  ∀ (b : Frame) (k : List Item) (cs : List Frame), b.roundOf = F.round → F.fn b.fn → F.room (cs.length + 1 + n) →
    ∃ e a' w', Q e a' w' ∧ ArrivesIn (Machine.fenced P F) P (lone (b.atR a (.code c :: .inLoop c :: k)) cs w) b k cs e a' w'
/-- Code is walked; a loop may be in its midst. -/
def wpX (F : Fence) (n : Nat) (P : Program) (c : Code) (Q : Exit → Act → World → Prop) (a : Act) (w : World) : Prop :=
  match c with
  | .loop b => loopWp F n P b Q a w
  | c => c.wpIn F n P Q a w

def exOf : Ex → Exit
  | .normal => .normal
  | .exit id => .exit id
  | .ret => .ret

inductive Marks (g : Gh) : List Nat → List Deferred → Prop
  | nil : Marks g [] []
  | cons {d mk r o ds} (h : g.ρ d = some (r, o)) (ht : Marks g mk ds) : Marks g (d :: mk) ({ target := .collected r, args := #[] } :: ds)
theorem Marks.mono {g g' : Gh} (hle : g.le g') : ∀ {mk : List Nat} {ds : List Deferred}, Marks g mk ds → Marks g' mk ds
  | _, _, .nil => .nil
  | _, _, .cons h ht => .cons (hle.ρ _ _ h) (ht.mono hle)

def Bd (h : Hs) : Prop := ∀ x, h.nx ≤ x → h.hp.get x = none
/-- What a run does to the machine's own heap. -/
structure Fac (h h' : Hs) : Prop where
  nx : h.nx ≤ h'.nx
  bd : Bd h'
  lg : ∀ x, x < h.nx → x ∉ h'.lg → h'.hp.get x = h.hp.get x
  sub : ∀ x ∈ h.lg, x ∈ h'.lg
  dead : ∀ x, x < h.nx → h.hp.get x = none → h'.hp.get x = none
theorem Fac.refl {h : Hs} (hb : Bd h) : Fac h h := ⟨Nat.le_refl _, hb, fun _ _ _ => rfl, fun _ h => h, fun _ _ h => h⟩
theorem Fac.trans {a b c : Hs} (h : Fac a b) (k : Fac b c) : Fac a c :=
  ⟨Nat.le_trans h.nx k.nx, k.bd, fun x hx hn => (k.lg x (Nat.lt_of_lt_of_le hx h.nx) hn).trans (h.lg x hx (fun hc => hn (k.sub x hc))), fun x hx => k.sub x (h.sub x hx), fun x hx hn => k.dead x (Nat.lt_of_lt_of_le hx h.nx) (h.dead x hx hn)⟩

/-- What lies behind a piece of code. -/
def CodeS (E : Env) (nt : Nat) (c : Code) (tm : Tr SV) (mk : List Nat) (h : Hs) (e : Ex) (tm' : Tr SV) (mk' : List Nat) (h' : Hs) : Prop :=
  Fac h h' ∧ (mk.length ≤ mk'.length ∧ ∀ x ∈ mk', x ∈ mk ∨ h.nx ≤ x) ∧
  ∀ (ro : Option Nat) (m : Nat) (g : Gh) (a : Act) (w : World) (Q : Exit → Act → World → Prop), codeOk c = true → (ro = none ∨ mk'.length = mk.length) → EnvOK E g → FR g nt tm.get a.tmps → HR g h.hp.get w → Marks g mk a.defers → (∀ x, h.nx ≤ x → g.ρ x = none) →
    (∀ g' a' w', FR g' nt tm'.get a'.tmps → HR g' h'.hp.get w' → Fr g h.hp.get w g' h'.hp.get w' → Marks g' mk' a'.defers → (∀ x, h'.nx ≤ x → g'.ρ x = none) → (∀ x, x < h.nx → g'.ρ x = g.ρ x) → Q (exOf e) a' w') → wpX (fro ro) m E.P c Q a w

def OpsS (E : Env) (nt : Nat) (ops : Array Oper) (l : List Oper) (tm : Tr SV) (h : Hs) (tm' : Tr SV) (h' : Hs) : Prop :=
  Fac h h' ∧
  ∀ (ro : Option Nat) (m : Nat) (g : Gh) (a : Act) (w : World) (Q : Exit → Act → World → Prop), EnvOK E g → FR g nt tm.get a.tmps → HR g h.hp.get w → (∀ x, h.nx ≤ x → g.ρ x = none) →
    (∀ g' a' w', FR g' nt tm'.get a'.tmps → HR g' h'.hp.get w' → Fr g h.hp.get w g' h'.hp.get w' → a'.defers = a.defers → (∀ x, h'.nx ≤ x → g'.ρ x = none) → (∀ x, x < h.nx → g'.ρ x = g.ρ x) → Q .normal a' w') →
    wpOpsIn (fro ro) m E.P ops Q (List.range' (ops.size - l.length) l.length) a w

/-- The same with numbers that are kept back. -/
structure FacD (base i W : Nat) (h h' : Hs) : Prop where
  nx : h.nx ≤ h'.nx
  bd : Bd h'
  lg : ∀ x, x < h.nx → ¬ (base + i ≤ x ∧ x < base + W) → x ∉ h'.lg → h'.hp.get x = h.hp.get x
  sub : ∀ x ∈ h.lg, x ∈ h'.lg
  dead : ∀ x, x < h.nx → ¬ (base + i ≤ x ∧ x < base + W) → h.hp.get x = none → h'.hp.get x = none

def Sound (E : Env) : Job → Out → Prop
  | .code nt c tm mk h, .code e tm' mk' h' => Bd h → CodeS E nt c tm mk h e tm' mk' h'
  | .ops nt all l tm h, .st tm' h' => ∀ ops : Array Oper, ops.toList = all → ops.toList.drop (ops.size - l.length) = l → Bd h → OpsS E nt ops l tm h tm' h'
  | .draw nt W all base i M prev l tm h, .st tm' h' => ∀ ops : Array Oper, ops.toList = all → W = ops.size → ops.toList.drop i = l → base + W ≤ h.nx → Bd h → (∀ x, h.hp.get x ≠ none → ¬ (base + i ≤ x ∧ x < base + W)) → InvM ops W M i → (∀ p ∈ prev, p.call = false → p.hi = p.lo + 1 ∧ p.lo < base + W) →
      ∀ ps : List St, ps.map (·.rc) = prev → FacD base i W h h' ∧ ∃ out, DT E nt W ops base i ps l tm.get h.hp.get h.nx tm'.get h'.hp.get h'.nx out
  | .call fv as h, .res v h' => Bd h → Fac h h' ∧ SemCall E fv as h.hp.get h.nx v h'.hp.get h'.nx
  | _, _ => True

/-- A function without arguments that is known. -/
def DoneOK (P : Program) (k : FuncId) (v : SV) : Prop :=
  (∃ fn, P.funcs[k]? = some fn ∧ fn.body.isSome = true ∧ fn.name ≠ "runtime.NumGoroutine") ∧
  ∀ m w, CallsIn Fence.wide m P k #[] w fun e w' => ∃ r, e = .returned r ∧ (∀ g, VR g r v) ∧ w'.os = w.os ∧ w'.tape = w.tape ∧ w'.output = w.output ∧ w.heap.size ≤ w'.heap.size ∧ ∀ b, b < w.heap.size → w'.heap[b]? = w.heap[b]?

/-- The tables fit the program. -/
structure EnvS (E : Env) : Prop where
  fn : ∀ k fn, E.fn.get k = some fn → E.P.funcs[k]? = some fn ∧ funOk fn = true
  ext : ∀ k fn, E.fn.get k = some fn → fn.body = none → (fn.name == "internal/bytealg.abigen_runtime_cmpstring") = true → Extern.findNext fn = none ∧ Extern.find fn = some Extern.BytealgCompare.compare
  mix : E.P.follows .mixedOrders = true
  done : ∀ k v, findDone E k [] = some v → DoneOK E.P k v

/-! ### one operation -/
theorem ups_lg : ∀ (us : List Up) (h : Hs), (∀ x ∈ h.lg, x ∈ (h.ups us).lg) ∧ ∀ u ∈ us, u.1 ∈ (h.ups us).lg
  | [], h => ⟨fun _ hx => hx, fun u hu => by simp at hu⟩
  | u :: us, h => by
    obtain ⟨h1, h2⟩ := ups_lg us (h.up u)
    refine ⟨fun x hx => h1 x (List.mem_cons_of_mem _ hx), fun v hv => ?_⟩
    rcases List.mem_cons.1 hv with rfl | hv
    · exact h1 v.1 (by simp [Hs.up])
    · exact h2 v hv

theorem fin_get (h : Hs) (us : List Up) : (h.fin us).hp.get = upsF h.hp.get us := by
  cases us with
  | nil => rfl
  | cons u us => exact ups_get (u :: us) h
theorem upsF_keys {us : List Up} {x : Nat} (h : x ∉ us.map (·.1)) (F : Hf) : upsF F us x = F x := by rw [upsF_mix us F F x, if_neg h]

theorem fin_fac {h : Hs} {us : List Up} (hb : Bd h) (hk : KeysOK h.hp.get h.nx us) : Fac h (h.fin us) := by
  cases us with
  | nil => exact Fac.refl hb
  | cons u us =>
    have e : h.fin (u :: us) = (h.ups (u :: us)).bump := rfl
    have hn : (h.ups (u :: us)).nx = h.nx := ups_nx _ _
    have hg : (h.ups (u :: us)).hp.get = upsF h.hp.get (u :: us) := ups_get _ _
    have hlt : ∀ v ∈ u :: us, v.1 ≤ h.nx := fun v hv => by
      rcases hk v hv with h1 | h1
      · omega
      · by_cases hl : h.nx ≤ v.1
        · exact absurd (hb _ hl) h1
        · omega
    obtain ⟨l1, l2⟩ := ups_lg (u :: us) h
    refine ⟨?_, fun x hx => ?_, fun x hx hl => ?_, fun x hx => l1 x hx, fun x hx hl => ?_⟩
    · rw [e]; show h.nx ≤ (h.ups (u :: us)).nx + 1; omega
    · rw [e] at hx ⊢
      have hx : (h.ups (u :: us)).nx + 1 ≤ x := hx
      show (h.ups (u :: us)).hp.get x = none
      rw [hg, upsF_keys (fun hc => by obtain ⟨v, hv, rfl⟩ := List.mem_map.1 hc; have := hlt v hv; omega)]
      exact hb x (by omega)
    · rw [e] at hl ⊢
      show (h.ups (u :: us)).hp.get x = _
      rw [hg, upsF_keys (fun hc => by obtain ⟨v, hv, rfl⟩ := List.mem_map.1 hc; exact hl (l2 v hv))]
    · rw [e]
      show (h.ups (u :: us)).hp.get x = _
      rw [hg, upsF_keys (fun hc => by
        obtain ⟨v, hv, rfl⟩ := List.mem_map.1 hc
        rcases hk v hv with h1 | h1
        · omega
        · exact h1 hl)]
      exact hl

theorem ops_at {ops : Array Oper} {o : Oper} {l : List Oper} (h : ops.toList.drop (ops.size - (o :: l).length) = o :: l) : ops[ops.size - (o :: l).length]? = some o ∧ ops.toList.drop (ops.size - l.length) = l ∧ ops.size - l.length = ops.size - (o :: l).length + 1 := by
  have hi : ops.size - (o :: l).length < ops.toList.length := by
    by_cases hl : ops.size - (o :: l).length < ops.toList.length
    · exact hl
    · rw [List.drop_of_length_le (by omega)] at h; simp at h
  have hlen : (o :: l).length ≤ ops.size := by
    have := congrArg List.length h
    simp at this ⊢
    omega
  rw [List.drop_eq_getElem_cons hi] at h
  obtain ⟨h1, h2⟩ := List.cons.inj h
  have e : ops.size - l.length = ops.size - (o :: l).length + 1 := by simp at hlen ⊢; omega
  refine ⟨?_, by rw [e]; exact h2, e⟩
  have : ops.toList[ops.size - (o :: l).length]? = some o := by rw [List.getElem?_eq_getElem hi, h1]
  simpa using this

theorem ops_cons {nt : Nat} {all : List Oper} {o : Oper} {l : List Oper} {tm tm1 : Tr SV} {h h1 : Hs} {out : Out} {need frp newp : Nat → Prop} {v : SV} {D : Nat → Bool} {H' : Hf}
    (hst : ∀ (ops : Array Oper) (i : Nat), ops.toList = all → ops[i]? = some o → Bd h → ∀ ro, StepS E ro nt ops i o tm.get need h.hp.get frp newp v D H') (htm : tm1.get = putT tm.get o.dst v) (hh : Bd h → h1.hp.get = mixF D H' h.hp.get) (hfrp : ∀ x, frp x → h.nx ≤ x)
    (hnew : ∀ x, newp x → h.nx ≤ x ∧ x < h1.nx) (hfac : Bd h → Fac h h1) (ih : Sound E (.ops nt all l tm1 h1) out) : Sound E (.ops nt all (o :: l) tm h) out := by
  cases out with
  | st tm' h' =>
    intro ops he hd hbd
    obtain ⟨hi, hd', hidx⟩ := ops_at hd
    obtain ⟨f1, k1⟩ := ih ops he hd' (hfac hbd).bd
    refine ⟨(hfac hbd).trans f1, fun ro m g a w Q hE hfr hr hnx hk => ?_⟩
    rw [List.length_cons, List.range'_succ, wpOpsIn_cons]
    refine hst ops _ he hi hbd ro m g h.hp.get tm.get a w _ Q hE hfr hr (fun _ _ => rfl) (fun _ _ => rfl) (fun x hx => hnx x (hfrp x hx)) (fun r w' g' q1 q2 q3 q4 => ?_)
    rw [← htm] at q1
    rw [← hh hbd] at q2 q3
    have := k1 ro m g' (a.put o.dst r) w' Q (hE.mono q3.le) q1 q2 (fun x hx => by
      have hf1 := (hfac hbd).nx
      rw [q4 x (fun hn => by have := hnew x hn; omega)]
      exact hnx x (by omega)) (fun g2 a2 w2 s1 s2 s3 s4 s5 s6 => hk g2 a2 w2 s1 s2 (q3.trans s3) (by rw [s4, put_defers]) s5 (fun x hx => by
        rw [s6 x (Nat.lt_of_lt_of_le hx (hfac hbd).nx), q4 x (fun hn => by have := hnew x hn; omega)]))
    rw [hidx] at this
    exact this
  | _ => trivial

def keysD (us : List Up) (new : Nat) : Nat → Bool := fun x => decide (x ∈ us.map (·.1) ∨ x = new)

theorem ops_val {nt : Nat} {all : List Oper} {o : Oper} {l : List Oper} {tm : Tr SV} {h : Hs} {out : Out} {v : SV} {us : List Up} (hw : wantedA all o tm.get = some true) (hd : dstOk nt o.dst = true) (ho : opA E o.op tm.get h.hp.get h.nx = some (v, us))
    (hnd : ∀ c, o.op ≠ .defer c) (ih : Sound E (.ops nt all l (putD tm o.dst v) (h.fin us)) out) : Sound E (.ops nt all (o :: l) tm h) out := by
  refine ops_cons (need := fun x => x ∈ readsOf o.op tm.get) (frp := fun x => x = h.nx) (newp := fun x => x = h.nx ∧ us ≠ []) (v := v) (D := keysD us h.nx) (H' := upsF h.hp.get us) (fun ops i he hi hbd ro => ?_) (putD_get _ _ _) (fun hbd => ?_) (fun x hx => by omega) (fun x hx => ?_) (fun hbd => fin_fac hbd (opA_keys ho)) ih
  · subst he
    exact step_simple hi hw hd ho (hbd _ (Nat.le_refl _)) (fun x => by simp [keysD]) hnd
  · rw [fin_get]
    funext x
    unfold mixF keysD
    by_cases h1 : x ∈ us.map (·.1)
    · rw [if_pos (by simp only [decide_eq_true_eq]; exact .inl h1)]
    · rw [upsF_keys h1]
      split <;> rfl
  · obtain ⟨rfl, hne⟩ := hx
    refine ⟨Nat.le_refl _, ?_⟩
    cases us with
    | nil => exact absurd rfl hne
    | cons u us =>
      show h.nx < (h.ups (u :: us)).nx + 1
      rw [ups_nx]; omega

theorem ops_skip {nt : Nat} {all : List Oper} {o : Oper} {l : List Oper} {tm : Tr SV} {h : Hs} {out : Out} (hw : wantedA all o tm.get = some false) (hd : dstOk nt o.dst = true) (ih : Sound E (.ops nt all l (putD tm o.dst (.tup [])) h) out) : Sound E (.ops nt all (o :: l) tm h) out := by
  refine ops_cons (need := fun _ => False) (frp := fun x => x = h.nx) (newp := fun _ => False) (v := .tup []) (D := fun x => decide (x = h.nx)) (H' := h.hp.get) (fun ops i he hi hbd ro => ?_) (putD_get _ _ _) (fun hbd => ?_) (fun x hx => by omega) (fun x hx => hx.elim) (fun hbd => Fac.refl hbd) ih
  · subst he
    exact step_skip hi hw hd (hbd _ (Nat.le_refl _)) (fun x => by simp)
  · funext x
    unfold mixF
    split <;> rfl

theorem ops_call {nt : Nat} {all : List Oper} {o : Oper} {c : Call} {l : List Oper} {tm : Tr SV} {h h2 : Hs} {out : Out} {fv v : SV} {as : List SV} (hw : wantedA all o tm.get = some true) (hd : dstOk nt o.dst = true) (hop : o.op = .call c) (hc : calleeV tm.get c.callee = some fv)
    (has : vals tm.get c.args.toList = some as) (hs : Sound E (.call fv as h) (.res v h2)) (ih : Sound E (.ops nt all l (putD tm o.dst v) h2) out) : Sound E (.ops nt all (o :: l) tm h) out := by
  have hs : Bd h → Fac h h2 ∧ SemCall E fv as h.hp.get h.nx v h2.hp.get h2.nx := hs
  refine ops_cons (need := fun x => h.hp.get x ≠ none) (frp := fun x => h.nx ≤ x) (newp := fun x => h.nx ≤ x ∧ x < h2.nx) (v := v) (D := fun _ => true) (H' := h2.hp.get) (fun ops i he hi hbd ro => ?_) (putD_get _ _ _) (fun hbd => ?_) (fun x hx => hx) (fun x hx => hx) (fun hbd => (hs hbd).1) ih
  · subst he
    exact step_call hi hw hd hop hc has (hs hbd).2 (fun x hx => by simp at hx) (fun x hx => by simp at hx)
  · funext x
    simp [mixF]

theorem callOf_some {op : Op} {c : Call} (h : callOf op = some c) : op = .call c ∧ isValue c.callee = true := by
  cases op <;> first | (cases h; done) | skip
  rename_i c'
  have h : sel (isValue c'.callee) (some c') none = some c := h
  obtain ⟨h1, h2⟩ := sel_some h
  cases h2
  exact ⟨rfl, h1⟩

theorem defer_none {op : Op} {T : Tf} {new : Nat} {r : SV × List Up} (h : opA E op T f new = some r) : ∀ c, op ≠ .defer c := by
  intro c e
  subst e
  cases h

theorem res_inv {r : Out} {k : SV → Hs → Out} {Q : Out → Prop} (hf : ∀ s, Q (.fail s)) (ht : ∀ a b c, Q (.trap a b c)) (hr : ∀ v h, r = .res v h → Q (k v h)) : Q (resK r k) := by
  cases r with
  | res v h => exact hr v h rfl
  | fail s => exact hf s
  | trap a b c => exact ht a b c
  | _ => exact hf _

theorem goK_inv {rec : Job → Out} {h : Hs} {fo : Option SV} {ao : Option (List SV)} {k : SV → Hs → Out} {Q : Out → Prop} (hf : ∀ s, Q (.fail s)) (ht : ∀ a b c, Q (.trap a b c)) (hr : ∀ fv as v h2, fo = some fv → ao = some as → rec (.call fv as h) = .res v h2 → Q (k v h2)) : Q (goK rec h fo ao k) := by
  unfold goK
  cases fo with
  | none => exact hf _
  | some fv =>
    cases ao with
    | none => exact hf _
    | some as => exact res_inv hf ht (fun v h2 he => hr fv as v h2 rfl rfl he)

theorem step_ops_sound {rec : Job → Out} (hrec : ∀ j, Sound E j (rec j)) (nt : Nat) (all l : List Oper) (tm : Tr SV) (h : Hs) : Sound E (.ops nt all l tm h) (stepOps E rec nt all l tm h) := by
  cases l with
  | nil =>
    intro ops he hd hbd
    refine ⟨Fac.refl hbd, fun ro m g a w Q hE hfr hr hnx hk => ?_⟩
    simp only [List.length_nil, List.range'_zero]
    exact hk g a w hfr hr (Fr.refl _ _ _) rfl hnx (fun _ _ => rfl)
  | cons o l =>
    show Sound E _ (sel (dstOk nt o.dst) (wantK E rec nt all l tm h o (wantedA all o tm.get)) (.fail "slot"))
    rw [sel_if]
    split
    rotate_left
    · trivial
    rename_i hd
    unfold wantK
    cases hw : wantedA all o tm.get with
    | none => trivial
    | some wb =>
      show Sound E _ (sel wb (doK E rec nt all l tm h o (callOf o.op)) (nextK rec nt all l tm o.dst (.tup []) h))
      cases wb with
      | false => exact ops_skip hw hd (hrec _)
      | true =>
        show Sound E _ (doK E rec nt all l tm h o (callOf o.op))
        unfold doK
        cases hc : callOf o.op with
        | none =>
          show Sound E _ (valK rec nt all l tm h o (opA E o.op tm.get h.hp.get h.nx))
          unfold valK
          cases ho : opA E o.op tm.get h.hp.get h.nx with
          | none => trivial
          | some r => exact ops_val hw hd ho (defer_none ho) (hrec _)
        | some c =>
          obtain ⟨hop, _⟩ := callOf_some hc
          show Sound E _ (goK rec h (calleeV tm.get c.callee) (vals tm.get c.args.toList) (nextK rec nt all l tm o.dst))
          refine goK_inv (Q := Sound E _) (fun _ => trivial) (fun _ _ _ => trivial) (fun fv as v h2 h1 h3 h4 => ?_)
          have hs := hrec (.call fv as h)
          rw [h4] at hs
          exact ops_call hw hd hop h1 h3 hs (hrec _)

end Go.Sim
