/- Arithmetic, conversions, composite values. -/
import Derived.Test.YtjeenahnkcgfcaaGreatDoorSim4
set_option linter.unusedVariables false
set_option linter.unusedSimpArgs false
namespace Go.Sim
open Go.RowKit

variable {E : Env} {g : Gh} {w : World}

theorem addI_ev (η : Nat → Int) (k : IntKind) (a b : SI) : (addI k a b).ev η = k.wrap (a.ev η + b.ev η) := by
  unfold addI; split <;> rfl
theorem subI_ev (η : Nat → Int) (k : IntKind) (a b : SI) : (subI k a b).ev η = k.wrap (a.ev η - b.ev η) := by
  unfold subI; split <;> rfl
theorem convI_ev (η : Nat → Int) (k : IntKind) (a : SI) : (convI k a).ev η = k.wrap (a.ev η) := by
  unfold convI; split <;> rfl

theorem eqGuard_run {P : Program} {op : BinOp} {t : TypeId} {x y : Operand} {a b : Value} (h : P.eqGuardType P.depth t = false ∨ (∀ cs, a ≠ .agg cs)) (h2 : a ≠ .nilIface ∨ (isConst x || isConst y) = true) (w : World) : (eqGuard op t x y a b).run P w = .ok () w := by
  cases a <;> first
    | (cases op <;> rfl)
    | (rcases h2 with h2 | h2
       · exact absurd rfl h2
       · cases b <;> first
           | (cases op <;> rfl)
           | (cases op <;> first | rfl | (cases x <;> cases y <;> first | rfl | (simp [isConst] at h2)))
       )
    | (rcases h with h | h
       · cases b <;> first | (cases op <;> rfl) | exact run_eqGuard_agg w op t x y _ _ h
       · exact absurd rfl (h _))

theorem boolV_some {neg : Bool} {r : Option Bool} {z : SV} (h : boolV neg r = some z) : ∃ b, r = some b ∧ z = .bool (if neg then !b else b) := by
  obtain ⟨b, h1, h2⟩ := bind1_some h
  cases h2
  exact ⟨b, h1, by cases neg <;> rfl⟩
theorem pureV_some {r : Option Value} {z : SV} (h : pureV r = some z) : ∃ v, r = some v ∧ z = constSV v := by
  obtain ⟨v, h1, h2⟩ := bind1_some h
  cases h2
  exact ⟨v, h1, rfl⟩

theorem eqD_undef (E : Env) (eq : TypeId → SV → SV → Option Bool) (t : TypeId) (d : UD) (y : SV) : eqD d E eq t .undef y = none := by
  cases d <;> rfl
theorem eqT_undef (E : Env) (n : Nat) (t : TypeId) (y : SV) : eqT E n t .undef y = none := by
  cases n with
  | zero => rfl
  | succ n =>
    show bind1 (E.ty.get t) (fun i => eqD i.desc E (eqT E n) t .undef y) = none
    cases E.ty.get t with
    | none => rfl
    | some i => exact eqD_undef _ _ _ _ _

theorem litOp_some {op : BinOp} {t : TypeId} {k k' : IntKind} {a b : SI} {z : SV} (h : litOp E op t k k' a b = some z) : ∃ m n v, a = .lit m ∧ b = .lit n ∧ runPure E.P (binOp op t (.int k m) (.int k' n)) = some v ∧ z = constSV v := by
  unfold litOp at h
  split at h
  · rename_i m n
    obtain ⟨v, h1, h2⟩ := pureV_some h
    exact ⟨m, n, v, rfl, rfl, h1, h2⟩
  · simp at h

theorem intBeq (x y : Int) : (x == y) = decide (x = y) := by rw [Bool.eq_iff_iff]; simp
theorem decLe (x y : Int) : decide (x ≤ y) = !decide (y < x) := by rw [Bool.eq_iff_iff]; simp
theorem VR.bool' {b c : Bool} (h : b = c) : VR g (.bool b) (.bool c) := by subst h; exact .bool b

theorem intOp_spec (hE : EnvOK E g) {op : BinOp} {t : TypeId} {k k' : IntKind} {a b : SI} {z : SV} (h : intOp op E op t k k' a b = some z) (w : World) :
    ∃ r, (binOp op t (.int k (a.ev g.η)) (.int k' (b.ev g.η))).run E.P w = .ok r w ∧ VR g r z := by
  have lit : litOp E op t k k' a b = some z → ∃ r, (binOp op t (.int k (a.ev g.η)) (.int k' (b.ev g.η))).run E.P w = .ok r w ∧ VR g r z := by
    intro h
    obtain ⟨m, n, v, rfl, rfl, h1, rfl⟩ := litOp_some h
    exact ⟨v, runPure_spec h1 w, constSV_VR g v⟩
  cases op with
  | add =>
    obtain ⟨hk, h⟩ := sel_some (show sel (kindB k k') (some (SV.int k (addI k a b))) none = some z from h)
    cases h; obtain rfl := kindB_iff hk
    exact ⟨_, by simp [binOp, Op.intArith] <;> rfl, .int _ _ (addI_ev _ _ _ _).symm⟩
  | sub =>
    obtain ⟨hk, h⟩ := sel_some (show sel (kindB k k') (some (SV.int k (subI k a b))) none = some z from h)
    cases h; obtain rfl := kindB_iff hk
    exact ⟨_, by simp [binOp, Op.intArith] <;> rfl, .int _ _ (subI_ev _ _ _ _).symm⟩
  | eql =>
    obtain ⟨hk, h⟩ := sel_some (show sel (kindB k k') (boolV false (eqI E a b)) none = some z from h)
    obtain ⟨c, h1, rfl⟩ := boolV_some h; obtain rfl := kindB_iff hk
    exact ⟨_, by simp [binOp, Op.intCmp] <;> rfl, VR.bool' (by have := eqI_spec hE h1; rw [intBeq, this]; rfl)⟩
  | neq =>
    obtain ⟨hk, h⟩ := sel_some (show sel (kindB k k') (boolV true (eqI E a b)) none = some z from h)
    obtain ⟨c, h1, rfl⟩ := boolV_some h; obtain rfl := kindB_iff hk
    exact ⟨_, by simp [binOp, Op.intCmp] <;> rfl, VR.bool' (by have := eqI_spec hE h1; rw [← this, ← intBeq]; rfl)⟩
  | lss =>
    obtain ⟨hk, h⟩ := sel_some (show sel (kindB k k') (boolV false (ltI E a b)) none = some z from h)
    obtain ⟨c, h1, rfl⟩ := boolV_some h; obtain rfl := kindB_iff hk
    exact ⟨_, by simp [binOp, Op.intCmp] <;> rfl, VR.bool' (by have := ltI_spec hE h1; simpa using this)⟩
  | gtr =>
    obtain ⟨hk, h⟩ := sel_some (show sel (kindB k k') (boolV false (ltI E b a)) none = some z from h)
    obtain ⟨c, h1, rfl⟩ := boolV_some h; obtain rfl := kindB_iff hk
    exact ⟨_, by simp [binOp, Op.intCmp] <;> rfl, VR.bool' (by have := ltI_spec hE h1; simpa using this)⟩
  | leq =>
    obtain ⟨hk, h⟩ := sel_some (show sel (kindB k k') (boolV true (ltI E b a)) none = some z from h)
    obtain ⟨c, h1, rfl⟩ := boolV_some h; obtain rfl := kindB_iff hk
    exact ⟨_, by simp [binOp, Op.intCmp] <;> rfl, VR.bool' (by have := ltI_spec hE h1; rw [← this]; first | exact decLe _ _ | (rw [← decLe]; rfl))⟩
  | geq =>
    obtain ⟨hk, h⟩ := sel_some (show sel (kindB k k') (boolV true (ltI E a b)) none = some z from h)
    obtain ⟨c, h1, rfl⟩ := boolV_some h; obtain rfl := kindB_iff hk
    exact ⟨_, by simp [binOp, Op.intCmp] <;> rfl, VR.bool' (by have := ltI_spec hE h1; rw [← this]; first | exact decLe _ _ | (rw [← decLe]; rfl))⟩
  | _ => exact lit h

theorem strOp_spec {op : BinOp} {t : TypeId} {a b : ByteArray} {z : SV} (h : strOp op E op t a b = some z) (w : World) :
    ∃ r, (binOp op t (.string a) (.string b)).run E.P w = .ok r w ∧ VR g r z := by
  have lit : pureV (runPure E.P (binOp op t (.string a) (.string b))) = some z → ∃ r, (binOp op t (.string a) (.string b)).run E.P w = .ok r w ∧ VR g r z := by
    intro h
    obtain ⟨v, h1, rfl⟩ := pureV_some h
    exact ⟨v, runPure_spec h1 w, constSV_VR g v⟩
  have hb : (a.toList == b.toList) = decide (a = b) := by
    rw [ByteArray.toList_eq, ByteArray.toList_eq, Bool.eq_iff_iff]
    simp only [beq_iff_eq, decide_eq_true_eq]
    constructor
    · intro h
      cases a with | mk a => cases b with | mk c => simp at h; simp [h]
    · intro h; rw [h]
  cases op with
  | eql => cases h; exact ⟨_, by simp [binOp, Op.stringOp] <;> rfl, VR.bool' (by rw [strB_eq]; simpa using hb)⟩
  | neq => cases h; exact ⟨.bool (!(a.toList == b.toList)), by simp [binOp, Op.stringOp, bne], VR.bool' (by rw [strB_eq, hb])⟩
  | _ => exact lit h

theorem binOp_eql_run {P : Program} {t : TypeId} {a b : Value} (h1 : ∀ k n, a ≠ .int k n) (h2 : ∀ k n, a ≠ .float k n) (h3 : ∀ k n m, a ≠ .complex k n m) (h4 : ∀ s, a ≠ .string s) (w : World) :
    (binOp .eql t a b).run P w = ((Op.equalIn 10000 t a b).run P w).andThen fun r w' => .ok (.bool r) w' := by
  cases a <;> first | exact absurd rfl (h1 _ _) | exact absurd rfl (h2 _ _) | exact absurd rfl (h3 _ _ _) | exact absurd rfl (h4 _) | (simp only [binOp]; simp [Op.equal, Op.maxDepth])
theorem binOp_neq_run {P : Program} {t : TypeId} {a b : Value} (h1 : ∀ k n, a ≠ .int k n) (h2 : ∀ k n, a ≠ .float k n) (h3 : ∀ k n m, a ≠ .complex k n m) (h4 : ∀ s, a ≠ .string s) (w : World) :
    (binOp .neq t a b).run P w = ((Op.equalIn 10000 t a b).run P w).andThen fun r w' => .ok (.bool (!r)) w' := by
  cases a <;> first | exact absurd rfl (h1 _ _) | exact absurd rfl (h2 _ _) | exact absurd rfl (h3 _ _ _) | exact absurd rfl (h4 _) | (simp only [binOp]; simp [Op.equal, Op.maxDepth])

theorem otherOp_spec (hE : EnvOK E g) {op : BinOp} {t : TypeId} {ox oy : Operand} {x y z : SV} {u v : Value} (hx : ∀ k e, x ≠ .int k e) (hs : ∀ s, x ≠ .str s) (h : otherOp op E t ox oy x y = some z) (hu : VR g u x) (hv : VR g v y) (w : World) :
    ∃ r, (do eqGuard op t ox oy u v; binOp op t u v : Sem Value).run E.P w = .ok r w ∧ VR g r z := by
  have key : ∀ b, eqOp E t ox oy x y = some b → (eqGuard op t ox oy u v).run E.P w = .ok () w ∧ (∀ w, (binOp .eql t u v).run E.P w = .ok (.bool b) w) ∧ (∀ w, (binOp .neq t u v).run E.P w = .ok (.bool (!b)) w) := by
    intro b he
    obtain ⟨hok, he⟩ := sel_some he
    have hrun := fun w => eqT_spec hE 20 t x y b he u v hu hv 9980 w
    simp only [show 20 + 9980 = 10000 from rfl] at hrun
    have hnu : x ≠ .undef := fun e => by rw [e, eqT_undef] at he; simp at he
    have hfacts : (∀ k n, u ≠ .int k n) ∧ (∀ k n, u ≠ .float k n) ∧ (∀ k n m, u ≠ .complex k n m) ∧ (∀ s, u ≠ .string s) ∧ (E.P.eqGuardType E.P.depth t = false ∨ (∀ cs, u ≠ .agg cs)) ∧ (u ≠ .nilIface ∨ (isConst ox || isConst oy) = true) := by
      cases hu <;> first | exact absurd rfl (hx _ _) | exact absurd rfl (hs _) | exact absurd rfl hnu | (simp; done) | (simp [eqOk] at hok; simp [hok])
    obtain ⟨f1, f2, f3, f4, f5, f6⟩ := hfacts
    refine ⟨eqGuard_run f5 f6 w, fun w => ?_, fun w => ?_⟩
    · rw [binOp_eql_run f1 f2 f3 f4, hrun]; rfl
    · rw [binOp_neq_run f1 f2 f3 f4, hrun]; rfl
  cases op with
  | eql =>
    obtain ⟨b, h1, rfl⟩ := boolV_some (show boolV false (eqOp E t ox oy x y) = some z from h)
    obtain ⟨k1, k2, k3⟩ := key b h1
    exact ⟨.bool b, by simp only [Sem.run_bind, k1, Result.andThen_ok, k2], .bool b⟩
  | neq =>
    obtain ⟨b, h1, rfl⟩ := boolV_some (show boolV true (eqOp E t ox oy x y) = some z from h)
    obtain ⟨k1, k2, k3⟩ := key b h1
    exact ⟨.bool (!b), by simp only [Sem.run_bind, k1, Result.andThen_ok, k3], .bool (!b)⟩
  | _ => cases h

theorem binA_spec (hE : EnvOK E g) {op : BinOp} {t : TypeId} {ox oy : Operand} {x y z : SV} {u v : Value} (h : binA E op t ox oy x y = some z) (hu : VR g u x) (hv : VR g v y) (w : World) :
    ∃ r, (do eqGuard op t ox oy u v; binOp op t u v : Sem Value).run E.P w = .ok r w ∧ VR g r z := by
  by_cases hx : ∃ k e, x = .int k e
  · obtain ⟨k, a, rfl⟩ := hx
    obtain ⟨p, h1, h2⟩ := bind1_some (show bind1 (intOf y) (fun p => intOp op E op t k p.1 a p.2) = some z from h)
    obtain rfl := intOf_some h1
    cases hu with | int _ _ e1 => cases hv with | int _ _ e2 =>
    subst e1; subst e2
    obtain ⟨r, q1, q2⟩ := intOp_spec hE h2 w
    exact ⟨r, by rw [Sem.run_bind, eqGuard_run (P := E.P) (a := .int k (a.ev g.η)) (.inr (by simp)) (.inl (by simp))]; exact q1, q2⟩
  · by_cases hs : ∃ s, x = .str s
    · obtain ⟨s, rfl⟩ := hs
      obtain ⟨b, h1, h2⟩ := bind1_some (show bind1 (strOf y) (fun b => strOp op E op t s b) = some z from h)
      obtain rfl := strOf_some h1
      cases hu; cases hv
      obtain ⟨r, q1, q2⟩ := strOp_spec (g := g) h2 w
      exact ⟨r, by rw [Sem.run_bind, eqGuard_run (P := E.P) (a := .string s) (.inr (by simp)) (.inl (by simp))]; exact q1, q2⟩
    · have hx' : ∀ k e, x ≠ .int k e := fun k e q => hx ⟨k, e, q⟩
      have hs' : ∀ s, x ≠ .str s := fun s q => hs ⟨s, q⟩
      refine otherOp_spec hE hx' hs' ?_ hu hv w
      cases x <;> first | exact absurd rfl (hx' _ _) | exact absurd rfl (hs' _) | exact h

theorem und_of {P : Program} {t : TypeId} {i : TI} (h : TIOK P t i) : ∃ d, P.underlying t = some d := by
  have hd := h.desc
  generalize i.desc = d at hd
  cases d <;> simp only [DescOK] at hd <;> first | exact ⟨_, hd⟩ | exact ⟨_, hd.choose_spec⟩ | exact ⟨_, hd.choose_spec.1⟩ | exact ⟨_, hd.choose_spec.choose_spec.choose_spec⟩

theorem convA_spec (hE : EnvOK E g) {src dst : TypeId} {x z : SV} {u : Value} (h : convA E src dst x = some z) (hu : VR g u x) (w : World) : ∃ r, (convert src dst u).run E.P w = .ok r w ∧ VR g r z := by
  obtain ⟨i, j, hi, hj, h⟩ := bind2_some h
  obtain ⟨d1, hd1⟩ := und_of (hE.ty _ _ hi)
  have hd := (hE.ty _ _ hj).desc
  generalize j.desc = D at hd h
  cases D with
  | int k =>
    obtain ⟨p, h1, h2⟩ := bind1_some (show bind1 (intOf x) (fun p => some (SV.int k (convI k p.2))) = some z from h)
    cases h2
    obtain rfl := intOf_some h1
    cases hu with | int _ _ e1 =>
    subst e1
    exact ⟨_, by simp [convert, run_underlying hd1, run_underlying hd, Conv.intToInt] <;> rfl, .int _ _ (convI_ev _ _ _).symm⟩
  | string =>
    obtain ⟨s, h1, h2⟩ := bind1_some (show bind1 (strOf x) (fun s => some (SV.str s)) = some z from h)
    cases h2
    obtain rfl := strOf_some h1
    cases hu
    exact ⟨_, by simp [convert, run_underlying hd1, run_underlying hd] <;> rfl, .str _⟩
  | _ => cases h

theorem unA_spec {op : UnOp} {x z : SV} {u : Value} (h : unA op x = some z) (hu : VR g u x) {P : Program} (w : World) : ∃ r, (Op.unary op u).run P w = .ok r w ∧ VR g r z := by
  cases hu with
  | bool b =>
    obtain ⟨h1, h2⟩ := sel_some (show sel (isNot op) (some (SV.bool (!b))) none = some z from h)
    cases h2
    cases op <;> first | (simp [isNot] at h1; done) | exact ⟨_, rfl, .bool _⟩
  | int k e he =>
    obtain ⟨h1, h2⟩ := sel_some (show sel (isNeg op) (some (SV.int k (subI k (.lit 0) e))) none = some z from h)
    cases h2; subst he
    cases op <;> first | (simp [isNeg] at h1; done) | exact ⟨.int k (k.wrap (0 - e.ev g.η)), by simp [Op.unary, Op.intArith], .int _ _ (by rw [subI_ev]; simp only [SI.ev])⟩
  | _ => cases h

end Go.Sim
