/- Types, numbers, comparisons. -/
import Derived.Test.YtjeenahnkcgfcaaGreatDoorSim2
import Derived.WalkLawsBesides
import Derived.Great.BuildSlice
set_option linter.unusedVariables false
set_option linter.unusedSimpArgs false
namespace Go.Sim
open Go.RowKit

/-! ### inversions -/
theorem natI_some {e : SI} {n : Nat} (h : natI e = some n) : e = .lit (.ofNat n) := by
  unfold natI at h
  split at h
  · simp at h; subst h; rfl
  · simp at h
theorem natOf_some {x : SV} {n : Nat} (h : natOf x = some n) : ∃ k, x = .int k (.lit (.ofNat n)) := by
  cases x <;> first | (exact ⟨_, by rw [natI_some h]⟩) | cases h
theorem boolOf_some {x : SV} {b : Bool} (h : boolOf x = some b) : x = .bool b := by cases x <;> cases h <;> rfl
theorem intOf_some {x : SV} {p : IntKind × SI} (h : intOf x = some p) : x = .int p.1 p.2 := by cases x <;> cases h <;> rfl
theorem strOf_some {x : SV} {s : ByteArray} (h : strOf x = some s) : x = .str s := by cases x <;> cases h <;> rfl
theorem ptrOf_some {x : SV} {q : Nat × Nat} (h : ptrOf x = some q) : x = .ptr q.1 q.2 := by cases x <;> cases h <;> rfl
theorem aggOf_some {x : SV} {cs : List SV} (h : aggOf x = some cs) : x = .agg cs := by cases x <;> cases h <;> rfl
theorem tupOf_some {x : SV} {cs : List SV} (h : tupOf x = some cs) : x = .tup cs := by cases x <;> cases h <;> rfl
theorem mpOf_some {x : SV} {i : Nat} (h : mpOf x = some i) : x = .mp i := by cases x <;> cases h <;> rfl
theorem slOf_some {x : SV} {q : Nat × Nat × Nat × Cp} (h : slOf x = some q) : x = .sl q.1 q.2.1 q.2.2.1 q.2.2.2 := by cases x <;> cases h <;> rfl
theorem lenS_some {x : SV} {n : Nat} (h : lenS x = some n) : (∃ i o c, x = .sl i o n c) ∨ (x = .nils ∧ n = 0) ∨ (x = .sle ∧ n = 0) := by
  cases x <;> first | (cases h; exact .inl ⟨_, _, _, rfl⟩) | (cases h; exact .inr (.inl ⟨rfl, rfl⟩)) | (cases h; exact .inr (.inr ⟨rfl, rfl⟩)) | cases h
theorem nilOk_some {x y : SV} (h : nilOk x = some y) : y = x ∧ ((∃ i o, x = .ptr i o) ∨ (∃ f a c, x = .fn f a c) ∨ ∃ l, x = .yld l) := by
  cases x <;> first | (cases h; exact ⟨rfl, .inl ⟨_, _, rfl⟩⟩) | (cases h; exact ⟨rfl, .inr (.inl ⟨_, _, _, rfl⟩)⟩) | (cases h; exact ⟨rfl, .inr (.inr ⟨_, rfl⟩)⟩) | cases h
theorem sliceE_some {d : UD} {e : TypeId} (h : sliceE d = some e) : d = .slice e := by cases d <;> cases h <;> rfl
theorem structE_some {d : UD} {fs : List FL} (h : structE d = some fs) : d = .struct fs := by cases d <;> cases h <;> rfl
theorem mapE_some {d : UD} {q : TypeId × TypeId} (h : mapE d = some q) : d = .map q.1 q.2 := by cases d <;> cases h <;> rfl
theorem isIfc_false {d : UD} (h : isIfc d = false) : d ≠ .interface := by intro e; subst e; cases h
theorem isStrD_true {d : UD} (h : isStrD d = true) : d = .string := by cases d <;> cases h <;> rfl
theorem isIntD_true {d : UD} (h : isIntD d = true) : ∃ k, d = .int k := by cases d <;> first | exact ⟨_, rfl⟩ | cases h
theorem isBoolD_true {d : UD} (h : isBoolD d = true) : d = .bool := by cases d <;> cases h <;> rfl
theorem cellsO_some {o : Option SO} {p : TypeId × List SV} (h : cellsO o = some p) : o = some (.cells p.1 p.2) := by
  unfold cellsO at h
  split at h
  · simp at h; subst h; rfl
  · simp at h
theorem mapO_some {o : Option SO} {p : List (SV × SV × Nat) × Nat} (h : mapO o = some p) : o = some (.map p.1 p.2) := by
  unfold mapO at h
  split at h
  · simp at h; subst h; rfl
  · simp at h
theorem iterO_some {o : Option SO} {p : ByteArray × Nat} (h : iterO o = some p) : o = some (.strIter p.1 p.2) := by
  unfold iterO at h
  split at h
  · simp at h; subst h; rfl
  · simp at h

/-! ### numbers -/
theorem kindB_iff {a b : IntKind} (h : kindB a b = true) : a = b := by
  cases a <;> cases b <;> first | rfl | (simp [kindB] at h)
theorem kindB_refl (a : IntKind) : kindB a a = true := by cases a <;> rfl
theorem intB_eq (a b : Int) : intB a b = decide (a = b) := by
  cases a <;> cases b <;> simp [intB, beq_eq]
  rename_i m n
  exact ⟨fun h => by rw [h], fun h => Int.ofNat.inj h⟩
theorem intLt_eq (a b : Int) : intLt a b = decide (a < b) := by
  cases a <;> cases b <;> simp only [intLt, ble_eq, decide_eq_decide]
  · rename_i m n; simp only [Int.ofNat_eq_natCast]; omega
  · rename_i m n; simp only [eq_comm (a := false), decide_eq_false_iff_not, Int.ofNat_eq_natCast]; omega
  · rename_i m n; simp only [eq_comm (a := true), decide_eq_true_eq, Int.ofNat_eq_natCast]; omega
  · rename_i m n; omega
theorem SI.eqb_ev (η : Nat → Int) : ∀ {a b : SI}, a.eqb b = true → a.ev η = b.ev η
  | .lit a, .lit b, h => by simpa [SI.eqb, intB_eq, SI.ev] using h
  | .var a, .var b, h => by have := (beq_iff a b).1 h; subst this; rfl
  | .add k a b, .add k' a' b', h => by
    simp only [SI.eqb, Bool.and_eq_true] at h
    obtain ⟨h1, h2, h3⟩ := h
    rw [SI.ev, SI.ev, kindB_iff h1, SI.eqb_ev η h2, SI.eqb_ev η h3]
  | .sub k a b, .sub k' a' b', h => by
    simp only [SI.eqb, Bool.and_eq_true] at h
    obtain ⟨h1, h2, h3⟩ := h
    rw [SI.ev, SI.ev, kindB_iff h1, SI.eqb_ev η h2, SI.eqb_ev η h3]
  | .conv k a, .conv k' a', h => by
    simp only [SI.eqb, Bool.and_eq_true] at h
    obtain ⟨h1, h2⟩ := h
    rw [SI.ev, SI.ev, kindB_iff h1, SI.eqb_ev η h2]
  | .lit _, .var _, h | .lit _, .add _ _ _, h | .lit _, .sub _ _ _, h | .lit _, .conv _ _, h => by simp [SI.eqb] at h
  | .var _, .lit _, h | .var _, .add _ _ _, h | .var _, .sub _ _ _, h | .var _, .conv _ _, h => by simp [SI.eqb] at h
  | .add _ _ _, .lit _, h | .add _ _ _, .var _, h | .add _ _ _, .sub _ _ _, h | .add _ _ _, .conv _ _, h => by simp [SI.eqb] at h
  | .sub _ _ _, .lit _, h | .sub _ _ _, .var _, h | .sub _ _ _, .add _ _ _, h | .sub _ _ _, .conv _ _, h => by simp [SI.eqb] at h
  | .conv _ _, .lit _, h | .conv _ _, .var _, h | .conv _ _, .add _ _ _, h | .conv _ _, .sub _ _ _, h => by simp [SI.eqb] at h

/-! ### the tables are right -/
def DescOK (P : Program) (t : TypeId) : UD → Prop
  | .bool => P.underlying t = some .bool
  | .int k => P.underlying t = some (.int k)
  | .string => P.underlying t = some .string
  | .pointer => ∃ e, P.underlying t = some (.pointer e)
  | .slice e => P.underlying t = some (.slice e)
  | .array n e => P.underlying t = some (.array n e)
  | .map k e => P.underlying t = some (.map k e)
  | .struct fs => ∃ a : Array Field, P.underlying t = some (.struct a) ∧ a.toList.map (fun f => FL.mk f.type f.offset (decide (f.name ≠ "_"))) = fs ∧ ∀ f ∈ a.toList, (P.info? f.type).isSome = true
  | .func => ∃ a b c, P.underlying t = some (.func a b c)
  | .interface => ∃ ms, P.underlying t = some (.interface ms)
  | .other => False

/-- The zero value. -/
def ZeroOK (agg : Bool) (z : Value) (cs : List SV) : Prop :=
  (∀ g, VCs g z.cells.toList cs) ∧ (agg = true → ∃ a, z = .agg a) ∧ (agg = false → z.oneCell' = true)

structure TIOK (P : Program) (t : TypeId) (i : TI) : Prop where
  desc : DescOK P t i.desc
  info : ∃ f z, P.info? t = some f ∧ f.size = i.size ∧ f.bytes = i.bytes ∧ f.comparable = i.comparable ∧ f.zero = some z ∧ ZeroOK (isAggT i.desc) z i.zero ∧ (isAggT i.desc = true → i.zero.length = i.size)

structure EnvOK (E : Env) (g : Gh) : Prop where
  ty : ∀ t i, E.ty.get t = some i → TIOK E.P t i
  fn : ∀ f x, E.fn.get f = some x → E.P.funcs[f]? = some x
  lt : ∀ a b r, (a, b, r) ∈ E.lt → decide (a.ev g.η < b.ev g.η) = r
  eq : ∀ a b r, (a, b, r) ∈ E.eq → decide (a.ev g.η = b.ev g.η) = r
  mix : E.P.follows .mixedOrders = true
  sz : ∀ t, g.sz t = E.P.cellsOf t

theorem EnvOK.mono {E : Env} {g g' : Gh} (h : EnvOK E g) (hle : g.le g') : EnvOK E g' :=
  ⟨h.ty, h.fn, fun a b r hm => by rw [hle.η]; exact h.lt a b r hm, fun a b r hm => by rw [hle.η]; exact h.eq a b r hm, h.mix, fun t => by rw [hle.sz]; exact h.sz t⟩
theorem EnvOK.size {E : Env} {g : Gh} (h : EnvOK E g) {t : TypeId} {i : TI} (hi : E.ty.get t = some i) : g.sz t = i.size := by
  obtain ⟨f, z, h1, h2, _⟩ := (h.ty t i hi).info
  rw [h.sz, Program.cellsOf, h1]
  simpa using h2

theorem look_mem {a b : SI} {η : Nat → Int} {Q : Int → Int → Bool → Prop} : ∀ {l : List (SI × SI × Bool)} {r : Bool}, look a b l = some r → (∀ x y r, (x, y, r) ∈ l → Q (x.ev η) (y.ev η) r) → Q (a.ev η) (b.ev η) r
  | [], _, h, _ => by simp [look] at h
  | (x, y, r') :: l, r, h, hq => by
    unfold look at h
    rw [sel_if] at h
    split at h
    · rename_i hc
      simp only [Bool.and_eq_true] at hc
      simp at h; subst h
      rw [← SI.eqb_ev η hc.1, ← SI.eqb_ev η hc.2]
      exact hq x y r' (by simp)
    · exact look_mem h fun x y r hm => hq x y r (by simp [hm])

theorem ltI_spec {E : Env} {g : Gh} (hE : EnvOK E g) {a b : SI} {r : Bool} (h : ltI E a b = some r) : decide (a.ev g.η < b.ev g.η) = r := by
  unfold ltI at h
  split at h
  · simp at h; subst h; rw [intLt_eq]; rfl
  · exact look_mem (Q := fun x y r => decide (x < y) = r) h hE.lt
theorem eqI_spec {E : Env} {g : Gh} (hE : EnvOK E g) {a b : SI} {r : Bool} (h : eqI E a b = some r) : decide (a.ev g.η = b.ev g.η) = r := by
  unfold eqI at h
  split at h
  · simp at h; subst h; rw [intB_eq]; rfl
  · unfold eqS at h
    rw [sel_if] at h
    split at h
    · rename_i hc
      simp at h; subst h
      rw [SI.eqb_ev g.η hc]; simp
    · exact look_mem (Q := fun x y r => decide (x = y) = r) h hE.eq

theorem bytesB_iff : ∀ (a b : List UInt8), bytesB a b = decide (a = b)
  | [], [] => by simp [bytesB]
  | [], _ :: _ => by simp [bytesB]
  | _ :: _, [] => by simp [bytesB]
  | a :: l, b :: m => by
    rw [bytesB, bytesB_iff l m, beq_eq, Bool.eq_iff_iff]
    simp only [Bool.and_eq_true, decide_eq_true_eq, List.cons.injEq]
    rw [← UInt8.toNat_inj]
theorem strB_eq (a b : ByteArray) : strB a b = decide (a = b) := by
  unfold strB
  rw [bytesB_iff, decide_eq_decide]
  constructor
  · intro h
    cases a with | mk a => cases b with | mk b => simp at h; simp [h]
  · intro h; rw [h]

theorem runPure_spec {α : Type} {P : Program} : ∀ {s : Sem α} {a : α}, runPure P s = some a → ∀ w, s.run P w = .ok a w
  | .pure a, _, h, w => by simp [runPure] at h; subst h; rfl
  | .program k, a, h, w => runPure_spec (s := k P) h w
  | .load .., _, h, _ | .store .., _, h, _ | .new .., _, h, _ | .shape .., _, h, _ | .freeze .., _, h, _ | .frozen .., _, h, _ | .getObj .., _, h, _ | .setObj .., _, h, _ | .choose .., _, h, _ | .sys .., _, h, _ | .mark .., _, h, _ | .halt _, _, h, _ => by simp [runPure] at h

mutual
theorem constSV_VR (g : Gh) : ∀ (v : Value), VR g v (constSV v)
  | .bool b => .bool b
  | .int k n => .int k _ rfl
  | .string s => .str s
  | .pointer none => .nilp
  | .pointer (some _) => .undef _
  | .slice none 0 0 => .nils
  | .slice none 0 (_ + 1) => .undef _
  | .slice none (_ + 1) _ => .undef _
  | .slice (some _) _ _ => .undef _
  | .map none => .nilm
  | .map (some _) => .undef _
  | .nilFunc => .nilf
  | .nilIface => .nili
  | .agg ⟨cs⟩ => by
    unfold constSV
    rw [sel_if]
    split
    · rename_i hc
      refine .agg ?_
      have hr := constSVs_VR g cs
      refine VCs.mk hr.length fun j v x hv hx => ?_
      obtain ⟨u, hu, hd⟩ := hr.get hx
      have hv : cs[j]? = some v := hv
      rw [hv] at hu
      obtain rfl : v = u := by simpa using hu
      exact ⟨List.all_eq_true.1 hc v (List.mem_of_getElem? hv), hd⟩
    · exact .undef _
  | .tuple ⟨cs⟩ => .tup (constSVs_VR g cs)
  | .float _ _ | .complex _ _ _ | .chan _ | .func _ _ _ | .iface _ _ => .undef _
theorem constSVs_VR (g : Gh) : ∀ (vs : List Value), VRs g vs (constSVs vs)
  | [] => .nil
  | v :: vs => .cons (constSV_VR g v) (constSVs_VR g vs)
end

end Go.Sim
