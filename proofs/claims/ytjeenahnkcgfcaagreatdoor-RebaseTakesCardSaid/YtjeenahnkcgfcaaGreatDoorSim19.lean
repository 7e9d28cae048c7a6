/- Soundness: definitions, the operations of a region. -/
import Derived.Test.YtjeenahnkcgfcaaGreatDoorSim18
import Derived.Lib.Bytealg
import Derived.Laws.Externs
set_option linter.unusedVariables false
set_option linter.unusedSimpArgs false
namespace Go.Sim
open Go.RowKit

variable {E : Env} {g : Gh} {f : Hf} {w : World}

/-- A loop, at the beginning of a round. -/
def loopWp (F : Fence) (n : Nat) (P : Program) (c : Code) (Q : Exit → Act → World → Prop) (a : Act) (w : World) : Prop :=
  ∀ (b : Frame) (k : List Item) (cs : List Frame), b.roundOf = F.round → F.fn b.fn → F.room (cs.length + 1 + n) →
    ∃ e a' w', Q e a' w' ∧ ArrivesIn (Machine.fenced P F) P (lone (b.atR a (.code c :: .inLoop c :: k)) cs w) b k cs e a' w'
/-- Code is walked; a loop may be in its midst. -/
def wpX (F : Fence) (n : Nat) (P : Program) (c : Code) (Q : Exit → Act → World → Prop) (a : Act) (w : World) : Prop :=
  match c with
  | .loop b => loopWp F n P b Q a w
  | c => c.wpIn F n P Q a w

/-- How a piece of code ends. -/
inductive ExR (g : Gh) : Ex → Exit → Prop
  | normal : ExR g .normal .normal
  | exit (id) : ExR g (.exit id) (.exit id)
  | ret : ExR g .ret .ret
  | pan {v u} (h : VR g u v) : ExR g (.pan v) (.panic [{ v := u, recovered := false }])

inductive Marks (g : Gh) : List Dm → List Deferred → Prop
  | nil : Marks g [] []
  | mark {d mk r o ds} (h : g.ρ d = some (r, o)) (ht : Marks g mk ds) : Marks g (.mark d :: mk) ({ target := .collected r, args := #[] } :: ds)
  | fn {k as ca mk ds} {us cs : Array Value} (h1 : VRs g us.toList as) (h2 : VRs g cs.toList ca) (ht : Marks g mk ds) : Marks g (.fn k as ca :: mk) ({ target := .fn (.func k) cs, args := us } :: ds)
theorem Marks.mono {g g' : Gh} (hle : g.le g') : ∀ {mk : List Dm} {ds : List Deferred}, Marks g mk ds → Marks g' mk ds
  | _, _, .nil => .nil
  | _, _, .mark h ht => .mark (hle.ρ _ _ h) (ht.mono hle)
  | _, _, .fn h1 h2 ht => .fn (h1.mono hle) (h2.mono hle) (ht.mono hle)

def Bd (h : Hs) : Prop := ∀ x, h.nx ≤ x → h.hp.get x = none
/-- What a run does to the machine's own heap. -/
structure Fac (h h' : Hs) : Prop where
  nx : h.nx ≤ h'.nx
  bd : Bd h'
  lg : ∀ x, x < h.nx → x ∉ h'.lg → h'.hp.get x = h.hp.get x
  sub : ∀ x ∈ h.lg, x ∈ h'.lg
  dead : ∀ x, x < h.nx → h.hp.get x = none → h'.hp.get x = none
theorem Fac.refl {h : Hs} (hb : Bd h) : Fac h h := ⟨Nat.le_refl _, hb, fun _ _ _ => rfl, fun _ h => h, fun _ _ h => h⟩
theorem Fac.trans {a b c : Hs} (h : Fac a b) (k : Fac b c) : Fac a c :=
  ⟨Nat.le_trans h.nx k.nx, k.bd, fun x hx hn => (k.lg x (Nat.lt_of_lt_of_le hx h.nx) hn).trans (h.lg x hx (fun hc => hn (k.sub x hc))), fun x hx => k.sub x (h.sub x hx), fun x hx hn => k.dead x (Nat.lt_of_lt_of_le hx h.nx) (h.dead x hx hn)⟩

/-- Marks are but added, and new ones. -/
def MkOK (h : Hs) (mk mk' : List Dm) : Prop := mk.length ≤ mk'.length ∧ ∀ x, Dm.mark x ∈ mk' → Dm.mark x ∈ mk ∨ h.nx ≤ x
theorem MkOK.refl (h : Hs) (mk : List Dm) : MkOK h mk mk := ⟨Nat.le_refl _, fun _ hx => .inl hx⟩
theorem MkOK.trans {h h1 : Hs} {mk mk1 mk2 : List Dm} (f1 : h.nx ≤ h1.nx) (l1 : MkOK h mk mk1) (l2 : MkOK h1 mk1 mk2) : MkOK h mk mk2 :=
  ⟨Nat.le_trans l1.1 l2.1, fun x hx => (l2.2 x hx).elim (l1.2 x) fun hx => .inr (Nat.le_trans f1 hx)⟩

/-- What is asked behind a way. -/
def PostC (nt : Nat) (g : Gh) (h : Hs) (w : World) (Q : Exit → Act → World → Prop) (o : Oc) : Prop :=
  ∀ g' a' w' x, ExR g' o.e x → FR g' nt o.tm.get a'.tmps → HR g' o.h.hp.get w' → Fr g h.hp.get w g' o.h.hp.get w' → Marks g' o.dm a'.defers → (∀ x, o.h.nx ≤ x → g'.ρ x = none) → (∀ x, x < h.nx → g'.ρ x = g.ρ x) → Q x a' w'

/-- What lies behind a piece of code. -/
def CodeS (E : Env) (nt : Nat) (c : Code) (tm : Tr SV) (mk : List Dm) (h : Hs) (l : List Oc) : Prop :=
  l ≠ [] ∧ (∀ o ∈ l, Fac h o.h ∧ MkOK h mk o.dm) ∧
  ∀ (ro : Option Nat) (m : Nat) (g : Gh) (a : Act) (w : World) (Q : Exit → Act → World → Prop), codeOk c = true → (ro = none ∨ ∀ o ∈ l, o.dm.length = mk.length) → EnvOK E g → FR g nt tm.get a.tmps → HR g h.hp.get w → Marks g mk a.defers → (∀ x, h.nx ≤ x → g.ρ x = none) →
    (∀ o ∈ l, PostC nt g h w Q o) → wpX (fro ro) m E.P c Q a w

def OpsS (E : Env) (nt : Nat) (ops : Array Oper) (l : List Oper) (tm : Tr SV) (mk : List Dm) (h : Hs) (r : List Oc) : Prop :=
  r ≠ [] ∧ (∀ o ∈ r, Fac h o.h ∧ MkOK h mk o.dm) ∧
  ∀ (ro : Option Nat) (m : Nat) (g : Gh) (a : Act) (w : World) (Q : Exit → Act → World → Prop), (ro = none ∨ ∀ o ∈ r, o.dm.length = mk.length) → EnvOK E g → FR g nt tm.get a.tmps → HR g h.hp.get w → Marks g mk a.defers → (∀ x, h.nx ≤ x → g.ρ x = none) →
    (∀ o ∈ r, PostC nt g h w Q o) → wpOpsIn (fro ro) m E.P ops Q (List.range' (ops.size - l.length) l.length) a w

/-- The same with numbers that are kept back. -/
structure FacD (base i W : Nat) (h h' : Hs) : Prop where
  nx : h.nx ≤ h'.nx
  bd : Bd h'
  lg : ∀ x, x < h.nx → ¬ (base + i ≤ x ∧ x < base + W) → x ∉ h'.lg → h'.hp.get x = h.hp.get x
  sub : ∀ x ∈ h.lg, x ∈ h'.lg
  dead : ∀ x, x < h.nx → ¬ (base + i ≤ x ∧ x < base + W) → h.hp.get x = none → h'.hp.get x = none

/-- The last operation of a drawn region panics. -/
structure CndP (E : Env) (nt : Nat) (ops : Array Oper) (i : Nat) (o : Oper) (T : Tf) (F : Hf) (nx : Nat) (v : SV) (H' : Hf) (nx' : Nat) : Prop where
  last : i + 1 = ops.size
  op : ops[i]? = some o
  lt : ∀ d ∈ dirO o, d < i
  anc : ∀ j, j < i → j ∈ anc ops ops.size i
  nxle : nx ≤ nx'
  sem : ∀ (ro : Option Nat) (m : Nat) (g : Gh) (a : Act) (w : World) (Q : Exit → Act → World → Prop) (K : Act → World → Prop), EnvOK E g → FR g nt T a.tmps → HR g F w → (∀ x, nx ≤ x → g.ρ x = none) →
    (∀ u w' g', VR g' u v → HR g' H' w' → Fr g F w g' H' w' → (∀ x, x < nx → g'.ρ x = g.ρ x) → (∀ x, nx' ≤ x → g'.ρ x = none) → Q (.panic [{ v := u, recovered := false }]) a w') → wpOpIn (fro ro) m E.P ops Q i K a w

def Sound (E : Env) : Job → Out → Prop
  | .code nt c tm mk h, .codes l => Bd h → CodeS E nt c tm mk h l
  | .ops nt all l tm mk h, .codes r => ∀ ops : Array Oper, ops.toList = all → ops.toList.drop (ops.size - l.length) = l → Bd h → OpsS E nt ops l tm mk h r
  | .draw nt W all base i M prev l tm h, .st tm' h' => ∀ ops : Array Oper, ops.toList = all → W = ops.size → ops.toList.drop i = l → base + W ≤ h.nx → Bd h → (∀ x, h.hp.get x ≠ none → ¬ (base + i ≤ x ∧ x < base + W)) → InvM ops W M i → (∀ p ∈ prev, p.call = false → p.hi = p.lo + 1 ∧ p.lo < base + W) →
      ∀ ps : List St, ps.map (·.rc) = prev → FacD base i W h h' ∧ ∃ out, DT E nt W ops base i ps l tm.get h.hp.get h.nx tm'.get h'.hp.get h'.nx out
  | .draw nt W all base i M prev l tm h, .codes r => ∀ ops : Array Oper, ops.toList = all → W = ops.size → ops.toList.drop i = l → base + W ≤ h.nx → Bd h → (∀ x, h.hp.get x ≠ none → ¬ (base + i ≤ x ∧ x < base + W)) → InvM ops W M i → (∀ p ∈ prev, p.call = false → p.hi = p.lo + 1 ∧ p.lo < base + W) →
      ∀ ps : List St, ps.map (·.rc) = prev → ∃ v tm' dm h', r = [⟨.pan v, tm', dm, h'⟩] ∧ FacD base i W h h' ∧ ∃ l0 o out F1 nx1, l = l0 ++ [o] ∧ DT E nt W ops base i ps l0 tm.get h.hp.get h.nx tm'.get F1 nx1 out ∧ CndP E nt ops (i + l0.length) o tm'.get F1 nx1 v h'.hp.get h'.nx
  | .call fv as h, .ress l => Bd h → l ≠ [] ∧ (∀ r ∈ l, Fac h r.h) ∧ SemCalls E fv as h.hp.get h.nx l
  | _, _ => True

/-- What a call leaves as it was. -/
structure StillW (w w' : World) : Prop where
  os : w'.os = w.os
  tape : w'.tape = w.tape
  output : w'.output = w.output
  size : w.heap.size ≤ w'.heap.size
  heap : ∀ b, b < w.heap.size → w'.heap[b]? = w.heap[b]?

def GoFn (P : Program) (k : FuncId) : Prop := ∃ fn, P.funcs[k]? = some fn ∧ fn.body.isSome = true ∧ fn.name ≠ "runtime.NumGoroutine"
/-- A function without arguments that is known. -/
def DoneOK (P : Program) (k : FuncId) (v : SV) : Prop :=
  GoFn P k ∧ ∀ m w, CallsIn Fence.wide m P k #[] w fun e w' => ∃ r, e = .returned r ∧ (∀ g, VR g r v) ∧ StillW w w'
/-- A sort, at no element or one. -/
def TinyOK (P : Program) (k : FuncId) (t : TypeId) : Prop :=
  GoFn P k ∧ ∀ (m : Nat) (w : World) (p : Option Addr) (n c : Nat) (lf : Fn) (la lb : Array Value), n ≤ 1 → CallsIn Fence.wide m P k #[.iface t (.slice p n c), .func lf la lb] w fun e w' => e = .returned (.tuple #[]) ∧ StillW w w'

/-- What a known call lays is of what it sees, or new. -/
def MoFit (m : Mo) : Prop := (∀ p ∈ m.inp, p.1 < m.nx) ∧ (∀ p ∈ m.out, p.1 < m.nx' ∧ (m.nx ≤ p.1 ∨ p.1 ∈ m.inp.map (·.1))) ∧ m.nx ≤ m.nx' ∧ inSs (m.inp.map (·.1)) m.as = true ∧ inOs (m.inp.map (·.1)) m.inp = true ∧ ∀ p ∈ m.out, plainO p.2 = true
/-- A call that is known. -/
def MoOK (E : Env) (m : Mo) : Prop :=
  GoFn E.P m.k ∧ MoFit m ∧ ∀ (j : Nat) (g : Gh) (w : World) (us : List Value), EnvOK E g → HR g (mkHp m.inp .nil).get w → (∀ x, m.nx ≤ x → g.ρ x = none) → VRs g us m.as →
    CallsIn Fence.wide j E.P m.k us.toArray w fun e w' => ∃ r g', e = .returned r ∧ VR g' r m.v ∧ HR g' (mkHp m.out (mkHp m.inp .nil)).get w' ∧ Fr g (mkHp m.inp .nil).get w g' (mkHp m.out (mkHp m.inp .nil)).get w' ∧ (∀ x, x < m.nx → g'.ρ x = g.ρ x) ∧ ∀ x, m.nx' ≤ x → g'.ρ x = none

/-- The tables fit the program. -/
structure EnvS (E : Env) : Prop where
  fn : ∀ k fn, E.fn.get k = some fn → E.P.funcs[k]? = some fn ∧ funOk fn = true
  ext : ∀ k fn, E.fn.get k = some fn → fn.body = none → (fn.name == "internal/bytealg.abigen_runtime_cmpstring") = true → Extern.findNext fn = none ∧ Extern.find fn = some Extern.BytealgCompare.compare
  mix : E.P.follows .mixedOrders = true
  done : ∀ k v, findDone E k [] = some v → DoneOK E.P k v
  tiny : ∀ k t, tinyT k t E.tiny = true → TinyOK E.P k t
  memo : ∀ m ∈ E.memo, MoOK E m

/-! ### ways -/
theorem appO_codes {a b : Out} {r : List Oc} (h : appO a b = .codes r) : ∃ x y, a = .codes x ∧ b = .codes y ∧ r = x ++ y := by
  cases a <;> cases b <;> first | (cases h; done) | (cases h; exact ⟨_, _, rfl, rfl, rfl⟩)
theorem appO_ress {a b : Out} {r : List Rs} (h : appO a b = .ress r) : ∃ x y, a = .ress x ∧ b = .ress y ∧ r = x ++ y := by
  cases a <;> cases b <;> first | (cases h; done) | (cases h; exact ⟨_, _, rfl, rfl, rfl⟩)
theorem appO_st {a b : Out} {tm : Tr SV} {h : Hs} (h : appO a b = .st tm h) : False := by
  cases a <;> cases b <;> cases h
theorem catL_codes {α : Type} {k : α → Out} : ∀ {l : List α} {r : List Oc}, catL k l = .codes r → l ≠ [] ∧ (∀ o ∈ l, ∃ r', k o = .codes r' ∧ ∀ x ∈ r', x ∈ r) ∧ ∀ x ∈ r, ∃ o ∈ l, ∃ r', k o = .codes r' ∧ x ∈ r'
  | [], r, h => by cases h
  | [o], r, h => by
    have h : k o = .codes r := h
    refine ⟨by simp, fun o' ho => ?_, fun x hx => ⟨o, by simp, r, h, hx⟩⟩
    obtain rfl := List.mem_singleton.1 ho
    exact ⟨r, h, fun _ hx => hx⟩
  | o :: o' :: l, r, h => by
    obtain ⟨x, y, h1, h2, rfl⟩ := appO_codes (show appO (k o) (catL k (o' :: l)) = .codes r from h)
    obtain ⟨_, q1, q2⟩ := catL_codes h2
    refine ⟨by simp, fun z hz => ?_, fun z hz => ?_⟩
    · rcases List.mem_cons.1 hz with rfl | hz
      · exact ⟨x, h1, fun a ha => by simp [ha]⟩
      · obtain ⟨r', e1, e2⟩ := q1 z hz
        exact ⟨r', e1, fun a ha => by simp [e2 a ha]⟩
    · rcases List.mem_append.1 hz with hz | hz
      · exact ⟨o, by simp, x, h1, hz⟩
      · obtain ⟨a, ha, r', e1, e2⟩ := q2 z hz
        exact ⟨a, List.mem_cons_of_mem _ ha, r', e1, e2⟩
theorem catL_ress {α : Type} {k : α → Out} : ∀ {l : List α} {r : List Rs}, catL k l = .ress r → l ≠ [] ∧ (∀ o ∈ l, ∃ r', k o = .ress r' ∧ ∀ x ∈ r', x ∈ r) ∧ ∀ x ∈ r, ∃ o ∈ l, ∃ r', k o = .ress r' ∧ x ∈ r'
  | [], r, h => by cases h
  | [o], r, h => by
    have h : k o = .ress r := h
    refine ⟨by simp, fun o' ho => ?_, fun x hx => ⟨o, by simp, r, h, hx⟩⟩
    obtain rfl := List.mem_singleton.1 ho
    exact ⟨r, h, fun _ hx => hx⟩
  | o :: o' :: l, r, h => by
    obtain ⟨x, y, h1, h2, rfl⟩ := appO_ress (show appO (k o) (catL k (o' :: l)) = .ress r from h)
    obtain ⟨_, q1, q2⟩ := catL_ress h2
    refine ⟨by simp, fun z hz => ?_, fun z hz => ?_⟩
    · rcases List.mem_cons.1 hz with rfl | hz
      · exact ⟨x, h1, fun a ha => by simp [ha]⟩
      · obtain ⟨r', e1, e2⟩ := q1 z hz
        exact ⟨r', e1, fun a ha => by simp [e2 a ha]⟩
    · rcases List.mem_append.1 hz with hz | hz
      · exact ⟨o, by simp, x, h1, hz⟩
      · obtain ⟨a, ha, r', e1, e2⟩ := q2 z hz
        exact ⟨a, List.mem_cons_of_mem _ ha, r', e1, e2⟩
theorem onCode_codes {r : Out} {k : Ex → Tr SV → List Dm → Hs → Out} {x : List Oc} (h : onCode r k = .codes x) : ∃ l, r = .codes l ∧ catL (fun o : Oc => k o.e o.tm o.dm o.h) l = .codes x := by
  cases r <;> first | (cases h; done) | exact ⟨_, rfl, h⟩
theorem onCode_ress {r : Out} {k : Ex → Tr SV → List Dm → Hs → Out} {x : List Rs} (h : onCode r k = .ress x) : ∃ l, r = .codes l ∧ catL (fun o : Oc => k o.e o.tm o.dm o.h) l = .ress x := by
  cases r <;> first | (cases h; done) | exact ⟨_, rfl, h⟩
theorem resK_codes {r : Out} {k kp : SV → Hs → Out} {x : List Oc} (h : resK r k kp = .codes x) : ∃ l, r = .ress l ∧ catL (fun r : Rs => sel r.pan (kp r.v r.h) (k r.v r.h)) l = .codes x := by
  cases r <;> first | (cases h; done) | exact ⟨_, rfl, h⟩
theorem resK_ress {r : Out} {k kp : SV → Hs → Out} {x : List Rs} (h : resK r k kp = .ress x) : ∃ l, r = .ress l ∧ catL (fun r : Rs => sel r.pan (kp r.v r.h) (k r.v r.h)) l = .ress x := by
  cases r <;> first | (cases h; done) | exact ⟨_, rfl, h⟩

/-! ### one operation -/
theorem ups_lg : ∀ (us : List Up) (h : Hs), (∀ x ∈ h.lg, x ∈ (h.ups us).lg) ∧ ∀ u ∈ us, u.1 ∈ (h.ups us).lg
  | [], h => ⟨fun _ hx => hx, fun u hu => by simp at hu⟩
  | u :: us, h => by
    obtain ⟨h1, h2⟩ := ups_lg us (h.up u)
    refine ⟨fun x hx => h1 x (List.mem_cons_of_mem _ hx), fun v hv => ?_⟩
    rcases List.mem_cons.1 hv with rfl | hv
    · exact h1 v.1 (by simp [Hs.up])
    · exact h2 v hv

theorem fin_get (h : Hs) (us : List Up) : (h.fin us).hp.get = upsF h.hp.get us := by
  cases us with
  | nil => rfl
  | cons u us => exact ups_get (u :: us) h
theorem upsF_keys {us : List Up} {x : Nat} (h : x ∉ us.map (·.1)) (F : Hf) : upsF F us x = F x := by rw [upsF_mix us F F x, if_neg h]

theorem fin_fac {h : Hs} {us : List Up} (hb : Bd h) (hk : KeysOK h.hp.get h.nx us) : Fac h (h.fin us) := by
  cases us with
  | nil => exact Fac.refl hb
  | cons u us =>
    have e : h.fin (u :: us) = (h.ups (u :: us)).bump := rfl
    have hn : (h.ups (u :: us)).nx = h.nx := ups_nx _ _
    have hg : (h.ups (u :: us)).hp.get = upsF h.hp.get (u :: us) := ups_get _ _
    have hlt : ∀ v ∈ u :: us, v.1 ≤ h.nx := fun v hv => by
      rcases hk v hv with h1 | h1
      · omega
      · by_cases hl : h.nx ≤ v.1
        · exact absurd (hb _ hl) h1
        · omega
    obtain ⟨l1, l2⟩ := ups_lg (u :: us) h
    refine ⟨?_, fun x hx => ?_, fun x hx hl => ?_, fun x hx => l1 x hx, fun x hx hl => ?_⟩
    · rw [e]; show h.nx ≤ (h.ups (u :: us)).nx + 1; omega
    · rw [e] at hx ⊢
      have hx : (h.ups (u :: us)).nx + 1 ≤ x := hx
      show (h.ups (u :: us)).hp.get x = none
      rw [hg, upsF_keys (fun hc => by obtain ⟨v, hv, rfl⟩ := List.mem_map.1 hc; have := hlt v hv; omega)]
      exact hb x (by omega)
    · rw [e] at hl ⊢
      show (h.ups (u :: us)).hp.get x = _
      rw [hg, upsF_keys (fun hc => by obtain ⟨v, hv, rfl⟩ := List.mem_map.1 hc; exact hl (l2 v hv))]
    · rw [e]
      show (h.ups (u :: us)).hp.get x = _
      rw [hg, upsF_keys (fun hc => by
        obtain ⟨v, hv, rfl⟩ := List.mem_map.1 hc
        rcases hk v hv with h1 | h1
        · omega
        · exact h1 hl)]
      exact hl

theorem ops_at {ops : Array Oper} {o : Oper} {l : List Oper} (h : ops.toList.drop (ops.size - (o :: l).length) = o :: l) : ops[ops.size - (o :: l).length]? = some o ∧ ops.toList.drop (ops.size - l.length) = l ∧ ops.size - l.length = ops.size - (o :: l).length + 1 := by
  have hi : ops.size - (o :: l).length < ops.toList.length := by
    by_cases hl : ops.size - (o :: l).length < ops.toList.length
    · exact hl
    · rw [List.drop_of_length_le (by omega)] at h; simp at h
  have hlen : (o :: l).length ≤ ops.size := by
    have := congrArg List.length h
    simp at this ⊢
    omega
  rw [List.drop_eq_getElem_cons hi] at h
  obtain ⟨h1, h2⟩ := List.cons.inj h
  have e : ops.size - l.length = ops.size - (o :: l).length + 1 := by simp at hlen ⊢; omega
  refine ⟨?_, by rw [e]; exact h2, e⟩
  have : ops.toList[ops.size - (o :: l).length]? = some o := by rw [List.getElem?_eq_getElem hi, h1]
  simpa using this

/-- A piece of the way of a region: one operation, then the rest. W: the ways on; P: the ways that end at once. -/
theorem ops_ways {nt : Nat} {all : List Oper} {o : Oper} {l : List Oper} {tm : Tr SV} {mk : List Dm} {h : Hs} {r : List Oc} (W : List (Tr SV × List Dm × Hs)) (P : List Oc)
    (hstep : ∀ (ops : Array Oper) (i : Nat), ops.toList = all → ops[i]? = some o → Bd h → ∀ (ro : Option Nat) (m : Nat) (g : Gh) (a : Act) (w : World) (K : Act → World → Prop) (Q : Exit → Act → World → Prop), (ro = none ∨ ∀ y ∈ W, y.2.1.length = mk.length) → EnvOK E g → FR g nt tm.get a.tmps → HR g h.hp.get w → Marks g mk a.defers → (∀ x, h.nx ≤ x → g.ρ x = none) →
      (∀ y ∈ W, ∀ g' a' w', FR g' nt y.1.get a'.tmps → HR g' y.2.2.hp.get w' → Fr g h.hp.get w g' y.2.2.hp.get w' → Marks g' y.2.1 a'.defers → (∀ x, y.2.2.nx ≤ x → g'.ρ x = none) → (∀ x, x < h.nx → g'.ρ x = g.ρ x) → K a' w') → (∀ o ∈ P, PostC nt g h w Q o) → wpOpIn (fro ro) m E.P ops Q i K a w)
    (hfac : Bd h → (∀ y ∈ W, Fac h y.2.2 ∧ MkOK h mk y.2.1) ∧ ∀ o ∈ P, Fac h o.h ∧ MkOK h mk o.dm) (hP : ∀ o ∈ P, o ∈ r) (hne : ∀ ops : Array Oper, ops.toList = all → ops.toList.drop (ops.size - l.length) = l → Bd h → r ≠ [])
    (hin : ∀ o ∈ r, o ∈ P ∨ ∃ y ∈ W, ∃ r', Sound E (.ops nt all l y.1 y.2.1 y.2.2) (.codes r') ∧ o ∈ r') (ih : ∀ y ∈ W, ∃ r', Sound E (.ops nt all l y.1 y.2.1 y.2.2) (.codes r') ∧ ∀ o ∈ r', o ∈ r) : Sound E (.ops nt all (o :: l) tm mk h) (.codes r) := by
  intro ops he hd hbd
  obtain ⟨hi, hd', hidx⟩ := ops_at hd
  obtain ⟨fW, fP⟩ := hfac hbd
  refine ⟨hne ops he hd' hbd, fun o ho => ?_, fun ro m g a w Q hro hE hfr hr hmk hnx hk => ?_⟩
  · rcases hin o ho with hp | ⟨y, hy, r', hs, hor⟩
    · exact fP o hp
    · obtain ⟨_, f1, _⟩ := hs ops he hd' (fW y hy).1.bd
      exact ⟨(fW y hy).1.trans (f1 o hor).1, MkOK.trans (fW y hy).1.nx (fW y hy).2 (f1 o hor).2⟩
  · rw [List.length_cons, List.range'_succ, wpOpsIn_cons]
    refine hstep ops _ he hi hbd ro m g a w _ Q (hro.imp_right fun hro y hy => ?_) hE hfr hr hmk hnx (fun y hy g' a' w' q1 q2 q3 q4 q5 q6 => ?_) (fun o ho => hk o (hP o ho))
    · obtain ⟨r', hs, hor⟩ := ih y hy
      obtain ⟨hne', f1, _⟩ := hs ops he hd' (fW y hy).1.bd
      obtain ⟨o', ho'⟩ := List.exists_mem_of_ne_nil _ hne'
      have h1 := (fW y hy).2.1
      have h2 := (f1 o' ho').2.1
      have h3 := hro o' (hor o' ho')
      omega
    · obtain ⟨r', hs, hor⟩ := ih y hy
      obtain ⟨hne', f1, k1⟩ := hs ops he hd' (fW y hy).1.bd
      have := k1 ro m g' a' w' Q (hro.imp_right fun hro o' ho' => by
        obtain ⟨o2, ho2⟩ := List.exists_mem_of_ne_nil _ hne'
        have h1 := (fW y hy).2.1
        have h2 := (f1 o' ho').2.1
        have h3 := hro o' (hor o' ho')
        omega) (hE.mono q3.le) q1 q2 q4 q5 (fun o' ho' g2 a2 w2 x s0 s1 s2 s3 s4 s5 s6 => hk o' (hor o' ho') g2 a2 w2 x s0 s1 s2 (q3.trans s3) s4 s5 (fun x hx => by
          rw [s6 x (Nat.lt_of_lt_of_le hx (fW y hy).1.nx), q6 x hx]))
      rw [hidx] at this
      exact this

/-- One way on. -/
theorem ops_cons {nt : Nat} {all : List Oper} {o : Oper} {l : List Oper} {tm tm1 : Tr SV} {mk : List Dm} {h h1 : Hs} {out : Out} {need frp newp : Nat → Prop} {v : SV} {D : Nat → Bool} {H' : Hf}
    (hst : ∀ (ops : Array Oper) (i : Nat), ops.toList = all → ops[i]? = some o → Bd h → ∀ ro, StepS E ro nt ops i o tm.get need h.hp.get frp newp v D H') (htm : tm1.get = putT tm.get o.dst v) (hh : Bd h → h1.hp.get = mixF D H' h.hp.get) (hfrp : ∀ x, frp x → h.nx ≤ x)
    (hnew : ∀ x, newp x → h.nx ≤ x ∧ x < h1.nx) (hfac : Bd h → Fac h h1) (ih : Sound E (.ops nt all l tm1 mk h1) out) : Sound E (.ops nt all (o :: l) tm mk h) out := by
  cases out with
  | codes r =>
    by_cases hne : r = []
    · intro ops he hd hbd
      obtain ⟨_, hd', _⟩ := ops_at hd
      exact absurd hne (ih ops he hd' (hfac hbd).bd).1
    refine ops_ways [(tm1, mk, h1)] [] (fun ops i he hi hbd ro m g a w K Q hro hE hfr hr hmk hnx hk _ => ?_) (fun hbd => ⟨fun y hy => ?_, fun o ho => by simp at ho⟩) (fun o ho => by simp at ho) (fun _ _ _ _ => hne) (fun o ho => .inr ⟨(tm1, mk, h1), by simp, r, ih, ho⟩) (fun y hy => ?_)
    · refine hst ops i he hi hbd ro m g h.hp.get tm.get a w K Q hE hfr hr (fun _ _ => rfl) (fun _ _ => rfl) (fun x hx => hnx x (hfrp x hx)) (fun r w' g' q1 q2 q3 q4 => ?_)
      rw [← htm] at q1
      rw [← hh hbd] at q2 q3
      have hf1 := (hfac hbd).nx
      exact hk (tm1, mk, h1) (by simp) g' (a.put o.dst r) w' q1 q2 q3 (by rw [put_defers]; exact hmk.mono q3.le) (fun x hx => by
        have hx : h1.nx ≤ x := hx
        rw [q4 x (fun hn => by have := hnew x hn; omega)]
        exact hnx x (by omega)) (fun x hx => q4 x (fun hn => by have := hnew x hn; omega))
    · obtain rfl := List.mem_singleton.1 hy
      exact ⟨hfac hbd, MkOK.refl _ _⟩
    · obtain rfl := List.mem_singleton.1 hy
      exact ⟨r, ih, fun _ h => h⟩
  | _ => trivial

def keysD (us : List Up) (new : Nat) : Nat → Bool := fun x => decide (x ∈ us.map (·.1) ∨ x = new)

theorem ops_val {nt : Nat} {all : List Oper} {o : Oper} {l : List Oper} {tm : Tr SV} {mk : List Dm} {h : Hs} {out : Out} {v : SV} {us : List Up} (hw : wantedA all o tm.get = some true) (hd : dstOk nt o.dst = true) (ho : opA E o.op tm.get h.hp.get h.nx = some (v, us))
    (hnd : ∀ c, o.op ≠ .defer c) (ih : Sound E (.ops nt all l (putD tm o.dst v) mk (h.fin us)) out) : Sound E (.ops nt all (o :: l) tm mk h) out := by
  refine ops_cons (need := fun x => x ∈ readsOf o.op tm.get) (frp := fun x => x = h.nx) (newp := fun x => x = h.nx ∧ us ≠ []) (v := v) (D := keysD us h.nx) (H' := upsF h.hp.get us) (fun ops i he hi hbd ro => ?_) (putD_get _ _ _) (fun hbd => ?_) (fun x hx => by omega) (fun x hx => ?_) (fun hbd => fin_fac hbd (opA_keys ho)) ih
  · subst he
    exact step_simple hi hw hd ho (hbd _ (Nat.le_refl _)) (fun x => by simp [keysD]) hnd
  · rw [fin_get]
    funext x
    unfold mixF keysD
    by_cases h1 : x ∈ us.map (·.1)
    · rw [if_pos (by simp only [decide_eq_true_eq]; exact .inl h1)]
    · rw [upsF_keys h1]
      split <;> rfl
  · obtain ⟨rfl, hne⟩ := hx
    refine ⟨Nat.le_refl _, ?_⟩
    cases us with
    | nil => exact absurd rfl hne
    | cons u us =>
      show h.nx < (h.ups (u :: us)).nx + 1
      rw [ups_nx]; omega

theorem ops_skip {nt : Nat} {all : List Oper} {o : Oper} {l : List Oper} {tm : Tr SV} {mk : List Dm} {h : Hs} {out : Out} (hw : wantedA all o tm.get = some false) (hd : dstOk nt o.dst = true) (ih : Sound E (.ops nt all l (putD tm o.dst (.tup [])) mk h) out) : Sound E (.ops nt all (o :: l) tm mk h) out := by
  refine ops_cons (need := fun _ => False) (frp := fun x => x = h.nx) (newp := fun _ => False) (v := .tup []) (D := fun x => decide (x = h.nx)) (H' := h.hp.get) (fun ops i he hi hbd ro => ?_) (putD_get _ _ _) (fun hbd => ?_) (fun x hx => by omega) (fun x hx => hx.elim) (fun hbd => Fac.refl hbd) ih
  · subst he
    exact step_skip hi hw hd (hbd _ (Nat.le_refl _)) (fun x => by simp)
  · funext x
    unfold mixF
    split <;> rfl

theorem callOf_some {op : Op} {c : Call} (h : callOf op = some c) : op = .call c ∧ isValue c.callee = true := by
  cases op <;> first | (cases h; done) | skip
  rename_i c'
  have h : sel (isValue c'.callee) (some c') none = some c := h
  obtain ⟨h1, h2⟩ := sel_some h
  cases h2
  exact ⟨rfl, h1⟩

theorem defer_none {op : Op} {T : Tf} {new : Nat} {r : SV × List Up} (h : opA E op T f new = some r) : ∀ c, op ≠ .defer c := by
  intro c e
  subst e
  cases h


end Go.Sim
