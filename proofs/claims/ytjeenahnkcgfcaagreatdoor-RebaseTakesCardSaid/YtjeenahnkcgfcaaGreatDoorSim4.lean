/- Values: parts, equality, arithmetic, composite values. -/
import Derived.Test.YtjeenahnkcgfcaaGreatDoorSim3
set_option linter.unusedVariables false
set_option linter.unusedSimpArgs false
namespace Go.Sim
open Go.RowKit

variable {E : Env} {g : Gh} {w : World}

theorem run_isAgg' {P : Program} {t : TypeId} {i : TI} (h : TIOK P t i) (w : World) : (isAgg t).run P w = .ok (isAggT i.desc) w := by
  have hd := h.desc
  generalize i.desc = d at hd
  cases d <;> simp only [DescOK] at hd
  case pointer => obtain ⟨e, he⟩ := hd; simp only [isAgg, Sem.run_bind, run_underlying he, Result.andThen_ok]; rfl
  case struct => obtain ⟨e, he, _⟩ := hd; simp only [isAgg, Sem.run_bind, run_underlying he, Result.andThen_ok]; rfl
  case func => obtain ⟨_, _, _, he⟩ := hd; simp only [isAgg, Sem.run_bind, run_underlying he, Result.andThen_ok]; rfl
  case interface => obtain ⟨e, he⟩ := hd; simp only [isAgg, Sem.run_bind, run_underlying he, Result.andThen_ok]; rfl
  all_goals (simp only [isAgg, Sem.run_bind, run_underlying hd, Result.andThen_ok]; rfl)

theorem run_size {P : Program} {t : TypeId} {i : TI} (h : TIOK P t i) (w : World) : (sizeOf t).run P w = .ok i.size w := by
  obtain ⟨f, z, h1, h2, _⟩ := h.info
  simp [sizeOf, typeInfo, h1, h2]
theorem run_zero {P : Program} {t : TypeId} {i : TI} (h : TIOK P t i) : ∃ z, (∀ w, (zeroValue t).run P w = .ok z w) ∧ ZeroOK (isAggT i.desc) z i.zero ∧ (isAggT i.desc = true → i.zero.length = i.size) := by
  obtain ⟨f, z, h1, _, _, _, h5, h6⟩ := h.info
  exact ⟨z, fun w => by simp [zeroValue, typeInfo, h1, h5], h6⟩

theorem partA_spec {P : Program} {t : TypeId} {i : TI} (hi : TIOK P t i) {cs : List SV} {off : Nat} {x : SV} {vs : Array Value} (h : partA i cs off = some x) (hc : VCs g vs.toList cs) (w : World) :
    ∃ v, (part t vs off).run P w = .ok v w ∧ VR g v x := by
  unfold partA at h
  rw [sel_if] at h
  split at h
  · rename_i ha
    obtain ⟨hl, h⟩ := sel_some h
    simp at h; subst h
    refine ⟨.agg (vs.extract off (off + i.size)), ?_, .agg ?_⟩
    · simp only [part, Sem.run_bind, run_isAgg' hi, Result.andThen_ok, ha, if_true, run_size hi, Sem.run_pure]
    · have : (vs.extract off (off + i.size)).toList = (vs.toList.drop off).take i.size := by simp [List.extract_eq_take_drop]
      rw [this]
      exact (hc.drop off).take _
  · rename_i ha
    obtain ⟨v, hv, _, hd⟩ := hc.get h
    refine ⟨v, ?_, hd⟩
    have hv' : vs[off]? = some v := by simpa using hv
    have ha : isAggT i.desc = false := by simpa using ha
    simp only [part, Sem.run_bind, run_isAgg' hi, Result.andThen_ok, ha, Bool.false_eq_true, if_false, hv', Sem.run_pure]

/-- The zero value, whole. -/
theorem partA_zero {i : TI} {z : Value} (hz : ZeroOK (isAggT i.desc) z i.zero) (hl : isAggT i.desc = true → i.zero.length = i.size) {x : SV} (h : partA i i.zero 0 = some x) : VR g z x := by
  unfold partA at h
  rw [sel_if] at h
  obtain ⟨h1, h2, h3⟩ := hz
  split at h
  · rename_i ha
    obtain ⟨_, h⟩ := sel_some h
    simp at h; subst h
    obtain ⟨a, rfl⟩ := h2 ha
    rw [← hl ha, List.take_length]
    exact .agg (h1 g)
  · rename_i ha
    have ho := h3 (by simpa using ha)
    obtain ⟨v, hv, _, hd⟩ := (h1 g).get h
    have : z.cells = #[z] := by cases z <;> first | rfl | (simp [Value.oneCell'] at ho)
    rw [this] at hv
    simp at hv; subst hv; exact hd

theorem VR.cellsR {v : Value} {x : SV} {cs : List SV} (h : VR g v x) (hx : x.cells = some cs) : VCs g v.cells.toList cs := by
  cases h with
  | agg h => cases hx; exact h
  | tup h => cases hx
  | undef v => cases hx
  | bool b => cases hx; exact .cons rfl (.bool b) .nil
  | int k e h => cases hx; exact .cons rfl (.int k e h) .nil
  | str s => cases hx; exact .cons rfl (.str s) .nil
  | ptr h => cases hx; exact .cons rfl (.ptr h) .nil
  | nilp => cases hx; exact .cons rfl .nilp .nil
  | sl a b c d => cases hx; exact .cons rfl (.sl a b c d) .nil
  | sle => cases hx; exact .cons rfl .sle .nil
  | nils => cases hx; exact .cons rfl .nils .nil
  | mp h => cases hx; exact .cons rfl (.mp h) .nil
  | nilm => cases hx; exact .cons rfl .nilm .nil
  | fn a b => cases hx; exact .cons rfl (.fn a b) .nil
  | yld h => cases hx; exact .cons rfl (.yld h) .nil
  | nilf => cases hx; exact .cons rfl .nilf .nil
  | ifc h => cases hx; exact .cons rfl (.ifc h) .nil
  | nili => cases hx; exact .cons rfl .nili .nil

theorem valA_spec {nt : Nat} {tm : Tf} {a : Act} (h : FR g nt tm a.tmps) {x : Operand} {v : SV} (hv : valA tm x = some v) : VR g (a.eval x) v := by
  cases x with
  | tmp t => exact h.tm t v hv
  | const u => cases hv; exact constSV_VR g u
  | global _ => cases hv
  | func f => cases hv; exact .fn .nil .nil

theorem vals_spec {nt : Nat} {tm : Tf} {a : Act} (h : FR g nt tm a.tmps) : ∀ {xs : List Operand} {vs : List SV}, vals tm xs = some vs → VRs g (xs.map a.eval) vs
  | [], _, hv => by cases hv; exact .nil
  | x :: xs, vs, hv => by
    obtain ⟨v, l, h1, h2, h3⟩ := bind2_some hv
    cases h3
    exact .cons (valA_spec h h1) (vals_spec h h2)

/-! ### equality -/
theorem andThen_some {r k : Option Bool} {b : Bool} (h : andThen r k = some b) : (r = some true ∧ k = some b) ∨ (r = some false ∧ b = false) := by
  cases r with
  | none => simp [andThen] at h
  | some c => cases c <;> simp [andThen] at h <;> simp [h]

theorem eqFs_spec {E : Env} (hE : EnvOK E g) {eq : TypeId → SV → SV → Option Bool} {m : Nat} (heq : ∀ (t : TypeId) (x y : SV) (b : Bool), eq t x y = some b → ∀ (u v : Value), VR g u x → VR g v y → ∀ w, (Op.equalIn m t u v).run E.P w = .ok b w)
    {us vs : Array Value} {xs ys : List SV} (hx : VCs g us.toList xs) (hy : VCs g vs.toList ys) : ∀ (l : List Field) (b : Bool), eqFs E eq xs ys (l.map fun f => FL.mk f.type f.offset (decide (f.name ≠ "_"))) = some b → ∀ w, (Op.eqFields m us vs l).run E.P w = .ok b w
  | [], b, h, w => by cases h; simp [Op.eqFields]
  | f :: l, b, h, w => by
    simp only [List.map_cons, eqFs] at h
    obtain ⟨hn, h⟩ := sel_some h
    obtain ⟨i, hi, h⟩ := bind1_some h
    obtain ⟨x, y, hpx, hpy, h⟩ := bind2_some h
    have hname : f.name ≠ "_" := by simpa using hn
    obtain ⟨v1, hr1, hd1⟩ := partA_spec (hE.ty _ _ hi) hpx hx w
    obtain ⟨v2, hr2, hd2⟩ := partA_spec (hE.ty _ _ hi) hpy hy w
    rcases andThen_some h with ⟨h1, h2⟩ | ⟨h1, rfl⟩
    · have he := heq _ _ _ _ h1 v1 v2 hd1 hd2 w
      simp only [Op.eqFields, if_pos hname, Sem.run_bind, hr1, hr2, he, Result.andThen_ok, Sem.run_ite, Sem.run_pure]
      simpa using eqFs_spec hE heq hx hy l b h2 w
    · have he := heq _ _ _ _ h1 v1 v2 hd1 hd2 w
      simp only [Op.eqFields, if_pos hname, Sem.run_bind, hr1, hr2, he, Result.andThen_ok, Sem.run_ite, Sem.run_pure]
      simp

theorem eqT_spec {E : Env} (hE : EnvOK E g) : ∀ (n : Nat) (t : TypeId) (x y : SV) (b : Bool), eqT E n t x y = some b → ∀ (u v : Value), VR g u x → VR g v y → ∀ (d : Nat) (w : World), (Op.equalIn (n + d) t u v).run E.P w = .ok b w
  | 0, _, _, _, _, h => by cases h
  | n + 1, t, x, y, b, h => by
    intro u v hu hv d w
    have hnd : n + 1 + d = (n + d) + 1 := by omega
    rw [hnd]
    obtain ⟨i, hi, h⟩ := bind1_some (show bind1 (E.ty.get t) (fun i => eqD i.desc E (eqT E n) t x y) = some b from h)
    have hT := hE.ty t i hi
    have hd := hT.desc
    generalize i.desc = D at hd h
    cases D with
    | bool =>
      obtain ⟨p, q, h1, h2, h3⟩ := bind2_some (show bind2 (boolOf x) (boolOf y) _ = some b from h)
      obtain rfl := boolOf_some h1; obtain rfl := boolOf_some h2
      cases hu; cases hv
      cases h3
      exact run_equalIn_bool' w _ t _ _ hd
    | int k =>
      obtain ⟨p, q, h1, h2, h3⟩ := bind2_some (show bind2 (intOf x) (intOf y) _ = some b from h)
      obtain ⟨hk, h3⟩ := sel_some h3
      obtain rfl := intOf_some h1; obtain rfl := intOf_some h2
      have hk := kindB_iff hk
      have hb := eqI_spec hE h3
      cases hu with | int _ _ e1 => cases hv with | int _ _ e2 =>
      rw [hk, run_equalIn_int w _ t _ _ _ _ hd, e1, e2, ← hb]
      congr 1
    | string =>
      obtain ⟨p, q, h1, h2, h3⟩ := bind2_some (show bind2 (strOf x) (strOf y) _ = some b from h)
      obtain rfl := strOf_some h1; obtain rfl := strOf_some h2
      cases hu; cases hv
      cases h3
      rw [run_equalIn_string w _ t _ _ hd, strB_eq]
      congr 1
      rw [ByteArray.toList_eq, ByteArray.toList_eq, Bool.eq_iff_iff]
      simp only [beq_iff_eq, decide_eq_true_eq]
      constructor
      · intro h
        cases p with | mk a => cases q with | mk c => simp at h; simp [h]
      · intro h; rw [h]
    | pointer =>
      obtain ⟨e, hd⟩ := hd
      have h : eqPtr x y = some b := h
      unfold eqPtr at h
      split at h <;> first | (cases hu; cases hv; cases h; simp [Op.equalIn, run_underlying hd]; done) | (simp at h)
    | slice e =>
      have h : eqSl x y = some b := h
      unfold eqSl at h
      split at h <;> first | (cases hu; cases hv; cases h; simp [Op.equalIn, run_underlying hd]; done) | (simp at h)
    | array _ _ => cases h
    | map _ _ =>
      have h : eqMap x y = some b := h
      unfold eqMap at h
      split at h <;> first | (cases hu; cases hv; cases h; simp [Op.equalIn, run_underlying hd]; done) | (simp at h)
    | struct fs =>
      obtain ⟨a, hd, hfs, _⟩ := hd
      obtain ⟨p, h1, h2⟩ := bind1_some (show bind1 (aggsOf x y) _ = some b from h)
      obtain ⟨xs, ys, h3, h4, h5⟩ := bind2_some h1
      cases h5
      obtain rfl := aggOf_some h3; obtain rfl := aggOf_some h4
      rw [sel_if] at h2
      split at h2
      · simp at h2
      · rename_i hp
        have hp : E.P.stoodInHeld t = false := by simpa using hp
        cases hu with | agg hx => cases hv with | agg hy =>
        have hf : E.P.fieldsOf t = a := by simp [Program.fieldsOf, hd]
        rw [run_equalIn_struct w _ t _ _ (by rw [hf]; exact hd) hp, hf]
        subst hfs
        exact eqFs_spec hE (fun t x y b h u v hu hv w => eqT_spec hE n t x y b h u v hu hv d w) hx hy a.toList b h2 w
    | func =>
      obtain ⟨_, _, _, hd⟩ := hd
      have h : eqFn x y = some b := h
      unfold eqFn at h
      split at h <;> first | (cases hu; cases hv; cases h; simp [Op.equalIn, run_underlying hd]; done) | (simp at h)
    | interface =>
      obtain ⟨ms, hd⟩ := hd
      have hq : eqIfc E (eqT E n) x y = some b := h
      unfold eqIfc at hq
      split at hq
      · cases hu; cases hv; cases hq; simp [Op.equalIn, run_underlying hd]
      · cases hu; cases hv; cases hq; simp [Op.equalIn, run_underlying hd]
      · cases hu; cases hv; cases hq; simp [Op.equalIn, run_underlying hd]
      · rename_i t1 v1 t2 v2 _
        cases hu with | ifc h1 => cases hv with | ifc h2 =>
        rw [sel_if] at hq
        split at hq
        · rename_i ht
          have ht := (beq_iff _ _).1 ht
          subst ht
          obtain ⟨i1, hi1, hq⟩ := bind1_some hq
          obtain ⟨hc, hq⟩ := sel_some hq
          obtain ⟨f, z, q1, _, _, q4, _⟩ := (hE.ty _ _ hi1).info
          have := eqT_spec hE n t1 v1 v2 b hq _ _ h1 h2 d w
          have hinf : (typeInfo t1).run E.P w = .ok f w := by simp [typeInfo, q1]
          have hcc : f.comparable = true := by rw [q4]; exact hc
          simp [Op.equalIn, run_underlying hd, hinf, hcc, this]
        · rename_i ht
          have ht : t1 ≠ t2 := fun e => ht ((beq_iff _ _).2 e)
          obtain rfl : false = b := by simpa using hq
          simp [Op.equalIn, run_underlying hd, ht]
      · simp at hq
    | other => exact hd.elim

end Go.Sim
