import Derived.Test.YtalbakjfbgkjjaaAbsM
import Derived.WalkLawsBesides
import Derived.Great.BuildSlice
set_option linter.unusedSimpArgs false
namespace Go.Abs
open Go.RowKit

variable {P : Program} {μ : Mem} {w : World}

def isAggD : TypeDesc → Bool
  | .struct _ | .array _ _ => true
  | _ => false
/-- Is the type an aggregate? -/
def aggT (P : Program) (t : TypeId) : Option Bool := (P.underlying t).map isAggD

theorem run_isAgg {t : TypeId} {b : Bool} (h : aggT P t = some b) (w : World) : (isAgg t).run P w = .ok b w := by
  unfold aggT at h
  cases hu : P.underlying t with
  | none => simp [hu] at h
  | some d =>
    simp [hu] at h
    subst h
    simp only [isAgg, Sem.run_bind, run_underlying hu, Result.andThen_ok]
    cases d <;> rfl

theorem info_of_underlying {t : TypeId} {d : TypeDesc} (h : P.underlying t = some d) : ∃ i, P.info? t = some i := by
  unfold Program.underlying at h
  cases hi : P.info? t with
  | none => simp [hi] at h
  | some i => exact ⟨i, rfl⟩

theorem info_of_aggT {t : TypeId} {b : Bool} (h : aggT P t = some b) : ∃ i, P.info? t = some i := by
  unfold aggT at h
  cases hu : P.underlying t with
  | none => simp [hu] at h
  | some d => exact info_of_underlying hu

theorem run_sizeOf' {t : TypeId} {i : TypeInfo} (h : P.info? t = some i) (w : World) : (sizeOf t).run P w = .ok (P.cellsOf t) w := by
  simp [sizeOf, typeInfo, h, Program.cellsOf]

def constAV : Value → AV
  | .bool b => .bool b
  | .int k n => .int k n
  | .string s => .str s
  | .slice none 0 0 => .slice .nil []
  | .nilFunc => .nilFunc
  | _ => .undef

theorem constAV_DR (v : Value) : DR μ v (constAV v) := by
  unfold constAV
  split
  · exact .bool _
  · exact .int _ _
  · exact .str _
  · exact .sliceE (fun _ => ⟨rfl, rfl⟩)
  · exact .nilFunc
  · exact .undef _

/-- The cells of a value. -/
def AV.cells : AV → Option (List AV)
  | .agg cs => some cs
  | .tuple _ | .loc _ _ | .ms _ _ _ _ | .ex _ _ | .fs _ | .ptr _ | .msp _ _ _ _ | .undef => none
  | x => some [x]

theorem DR.cellsR {v : Value} {x : AV} {cs : List AV} (h : DR μ v x) (hx : x.cells = some cs) : CellsR μ v.cells.toList cs := by
  cases h with
  | agg h => simp [AV.cells] at hx; subst hx; exact h
  | tuple h => simp [AV.cells] at hx
  | undef v => simp [AV.cells] at hx
  | bool b => simp [AV.cells] at hx; subst hx; exact .cons rfl (.bool b) .nil
  | int k n => simp [AV.cells] at hx; subst hx; exact .cons rfl (.int k n) .nil
  | str s => simp [AV.cells] at hx; subst hx; exact .cons rfl (.str s) .nil
  | sliceE h => simp [AV.cells] at hx; subst hx; exact .cons rfl (.sliceE h) .nil
  | slice a b c d e => simp [AV.cells] at hx; subst hx; exact .cons rfl (.slice a b c d e) .nil
  | imm h => simp [AV.cells] at hx; subst hx; exact .cons rfl (.imm h) .nil
  | fn f => simp [AV.cells] at hx; subst hx; exact .cons rfl (.fn f) .nil
  | nilFunc => simp [AV.cells] at hx; subst hx; exact .cons rfl .nilFunc .nil

/-- The zero value's cells. -/
def zeroA (P : Program) (t : TypeId) : Option (List AV) :=
  match (P.info? t).bind (·.zero) with
  | some z => if z.cells.all Value.oneCell' then some (z.cells.toList.map constAV) else none
  | none => none

theorem CellsR.const : ∀ {vs : List Value}, (∀ v ∈ vs, v.oneCell' = true) → CellsR μ vs (vs.map constAV)
  | [], _ => .nil
  | v :: vs, h => .cons (h v (by simp)) (constAV_DR v) (CellsR.const fun u hu => h u (by simp [hu]))

theorem zeroA_spec {t : TypeId} {cs : List AV} (h : zeroA P t = some cs) : ∃ i z, P.info? t = some i ∧ i.zero = some z ∧ CellsR μ z.cells.toList cs ∧ cs.length = z.cells.size := by
  unfold zeroA at h
  split at h
  · rename_i z hz
    split at h
    · rename_i hall
      simp at h
      subst h
      cases hi : P.info? t with
      | none => simp [hi] at hz
      | some i =>
        simp [hi] at hz
        refine ⟨i, z, rfl, hz, CellsR.const fun v hv => ?_, by simp⟩
        rw [Array.all_eq_true'] at hall
        exact hall v (by simpa using hv)
    · simp at h
  · simp at h

/-- A part of an aggregate. -/
def partA (P : Program) (t : TypeId) (cs : List AV) (off : Nat) : Option AV :=
  match aggT P t with
  | some true => if off + P.cellsOf t ≤ cs.length then some (.agg ((cs.drop off).take (P.cellsOf t))) else none
  | some false => cs[off]?
  | none => none

theorem partA_spec {t : TypeId} {cs : List AV} {off : Nat} {x : AV} {vs : Array Value} (h : partA P t cs off = some x) (hc : CellsR μ vs.toList cs) (w : World) :
    ∃ v, (part t vs off).run P w = .ok v w ∧ DR μ v x := by
  unfold partA at h
  split at h
  · rename_i ha
    split at h
    · rename_i hl
      simp at h
      subst h
      obtain ⟨i, hi⟩ := info_of_aggT ha
      refine ⟨.agg (vs.extract off (off + P.cellsOf t)), ?_, .agg ?_⟩
      · simp only [part, Sem.run_bind, run_isAgg ha, Result.andThen_ok, if_true, run_sizeOf' hi, Sem.run_pure]
      · have : (vs.extract off (off + P.cellsOf t)).toList = (vs.toList.drop off).take (P.cellsOf t) := by simp [List.extract_eq_take_drop]
        rw [this]
        exact (hc.drop off).take _
    · simp at h
  · rename_i ha
    obtain ⟨v, hv, _, hd⟩ := hc.get h
    refine ⟨v, ?_, hd⟩
    have hv' : vs[off]? = some v := by simpa using hv
    simp only [part, Sem.run_bind, run_isAgg ha, Result.andThen_ok, Bool.false_eq_true, if_false, hv', Sem.run_pure]
  · simp at h

/-- '==' at types of numbers, bools, strings and structs of these. -/
def eqFs (P : Program) (eq : TypeId → AV → AV → Option Bool) (xs ys : List AV) : List Field → Option Bool
  | [] => some true
  | f :: fs =>
    if f.name ≠ "_" then
      match partA P f.type xs f.offset, partA P f.type ys f.offset with
      | some x, some y =>
        match eq f.type x y, eqFs P eq xs ys fs with
        | some b, some c => some (b && c)
        | _, _ => none
      | _, _ => none
    else eqFs P eq xs ys fs

def eqT (P : Program) : Nat → TypeId → AV → AV → Option Bool
  | 0, _, _, _ => none
  | n + 1, t, x, y =>
    match P.underlying t, x, y with
    | some .bool, .bool a, .bool b => some (a == b)
    | some (.int _), .int k a, .int k' b => if k = k' then some (a == b) else none
    | some .string, .str a, .str b => some (decide (a = b))
    | some (.struct fs), .agg xs, .agg ys => if P.stoodInHeld t then none else eqFs P (eqT P n) xs ys fs.toList
    | some (.func _ _ _), .nilFunc, .nilFunc => some true
    | some (.func _ _ _), .nilFunc, .fn _ => some false
    | some (.func _ _ _), .fn _, .nilFunc => some false
    | _, _, _ => none

theorem bytes_beq (a b : ByteArray) : (a.toList == b.toList) = decide (a = b) := by
  rw [← beq_toListBytes]
  by_cases h : a = b
  · subst h; rw [beq_toListBytes]; simp
  · rw [beq_toListBytes, ByteArray.toList_eq, ByteArray.toList_eq]
    have : ¬ a.data.toList = b.data.toList := by
      intro he
      apply h
      cases a; cases b
      simp at he
      simpa using he
    simp [h]
    intro he
    exact this (by rw [he])

theorem eqT_spec : ∀ (n : Nat) (t : TypeId) (x y : AV) (b : Bool), eqT P n t x y = some b → ∀ (u v : Value), DR μ u x → DR μ v y → ∀ (d : Nat) (w : World), (Op.equalIn (n + d) t u v).run P w = .ok b w
  | 0, _, _, _, _, h => by simp [eqT] at h
  | n + 1, t, x, y, b, h => by
    intro u v hu hv d w
    have hnd : n + 1 + d = (n + d) + 1 := by omega
    rw [hnd]
    unfold eqT at h
    split at h
    · rename_i ht
      cases hu; cases hv
      simp at h; subst h
      exact run_equalIn_bool' w _ t _ _ ht
    · rename_i ht
      cases hu; cases hv
      split at h
      · rename_i hk; subst hk; simp at h; subst h; exact run_equalIn_int w _ t _ _ _ _ ht
      · simp at h
    · rename_i ht
      cases hu; cases hv
      simp at h; subst h
      rw [run_equalIn_string w _ t _ _ ht, bytes_beq]
    · rename_i fs xs ys ht
      cases hu with
      | agg hx =>
        cases hv with
        | agg hy =>
          split at h
          · simp at h
          · rename_i hp
            have hp : P.stoodInHeld t = false := by simpa using hp
            have hf : P.fieldsOf t = fs := by simp [Program.fieldsOf, ht]
            rw [run_equalIn_struct w _ t _ _ (by rw [hf]; exact ht) hp, hf]
            generalize fs.toList = l at h
            clear hf ht hnd
            induction l generalizing b with
            | nil => simp [eqFs] at h; subst h; simp [Op.eqFields]
            | cons f fs ih =>
              unfold eqFs at h
              split at h
              · rename_i hname
                split at h
                · rename_i px py hpx hpy
                  split at h
                  · rename_i b1 c1 hb hc
                    simp at h
                    subst h
                    obtain ⟨v1, hr1, hd1⟩ := partA_spec hpx hx w
                    obtain ⟨v2, hr2, hd2⟩ := partA_spec hpy hy w
                    have he := eqT_spec n f.type px py b1 hb v1 v2 hd1 hd2 d w
                    simp only [Op.eqFields, if_pos hname, Sem.run_bind, hr1, hr2, he, Result.andThen_ok, Sem.run_ite, Sem.run_pure]
                    cases b1
                    · simp
                    · simpa using ih c1 hc
                  · simp at h
                · simp at h
              · rename_i hname
                simp only [Op.eqFields, if_neg hname]
                exact ih b h
    · rename_i ht
      cases hu; cases hv
      simp at h; subst h
      simp [Op.equalIn, run_underlying ht]
    · rename_i ht
      cases hu; cases hv
      simp at h; subst h
      simp [Op.equalIn, run_underlying ht]
    · rename_i ht
      cases hu; cases hv
      simp at h; subst h
      simp [Op.equalIn, run_underlying ht]
    · simp at h

/-- Binary operations. -/
def binA (P : Program) (op : BinOp) (t : TypeId) (x y : AV) : Option AV :=
  match x, y with
  | .int k a, .int k' b =>
    if k = k' then
      match op with
      | .add => some (.int k (k.wrap (a + b)))
      | .sub => some (.int k (k.wrap (a - b)))
      | .mul => some (.int k (k.wrap (a * b)))
      | .quo => if b = 0 then none else some (.int k (k.wrap (a.tdiv b)))
      | .rem => if b = 0 then none else some (.int k (a.tmod b))
      | .eql => some (.bool (a == b))
      | .neq => some (.bool (a != b))
      | .lss => some (.bool (decide (a < b)))
      | .leq => some (.bool (decide (a ≤ b)))
      | .gtr => some (.bool (decide (a > b)))
      | .geq => some (.bool (decide (a ≥ b)))
      | _ => none
    else none
  | .str a, .str b =>
    match op with
    | .add => if a.size + b.size ≤ 4294967296 then some (.str (a ++ b)) else none
    | .eql => some (.bool (decide (a = b)))
    | .neq => some (.bool (!decide (a = b)))
    | .lss => some (.bool (Op.bytesLess a.toList b.toList))
    | .leq => some (.bool (Op.bytesLess a.toList b.toList || decide (a = b)))
    | .gtr => some (.bool (!(Op.bytesLess a.toList b.toList || decide (a = b))))
    | .geq => some (.bool (!Op.bytesLess a.toList b.toList))
    | _ => none
  | _, _ =>
    match op with
    | .eql => if P.eqGuardType P.depth t then none else (eqT P 6 t x y).map .bool
    | .neq => if P.eqGuardType P.depth t then none else (eqT P 6 t x y).map (fun b => .bool (!b))
    | _ => none

theorem eqGuard_run {op : BinOp} {t : TypeId} {x y : Operand} {a b : Value} (h : P.eqGuardType P.depth t = false ∨ (∀ cs, a ≠ .agg cs)) (h2 : a ≠ .nilIface) (w : World) : (eqGuard op t x y a b).run P w = .ok () w := by
  cases a <;> first
    | exact absurd rfl h2
    | (cases op <;> rfl)
    | (rcases h with h | h
       · cases b <;> first | (cases op <;> rfl) | exact run_eqGuard_agg w op t x y _ _ h
       · exact absurd rfl (h _))

theorem binOp_eql_run {t : TypeId} {a b : Value} (h1 : ∀ k n, a ≠ .int k n) (h2 : ∀ k n, a ≠ .float k n) (h3 : ∀ k n m, a ≠ .complex k n m) (h4 : ∀ s, a ≠ .string s) (w : World) :
    (binOp .eql t a b).run P w = ((Op.equalIn 10000 t a b).run P w).andThen fun r w' => .ok (.bool r) w' := by
  cases a <;> first | exact absurd rfl (h1 _ _) | exact absurd rfl (h2 _ _) | exact absurd rfl (h3 _ _ _) | exact absurd rfl (h4 _) | (simp only [binOp]; simp [Op.equal, Op.maxDepth])
theorem binOp_neq_run {t : TypeId} {a b : Value} (h1 : ∀ k n, a ≠ .int k n) (h2 : ∀ k n, a ≠ .float k n) (h3 : ∀ k n m, a ≠ .complex k n m) (h4 : ∀ s, a ≠ .string s) (w : World) :
    (binOp .neq t a b).run P w = ((Op.equalIn 10000 t a b).run P w).andThen fun r w' => .ok (.bool (!r)) w' := by
  cases a <;> first | exact absurd rfl (h1 _ _) | exact absurd rfl (h2 _ _) | exact absurd rfl (h3 _ _ _) | exact absurd rfl (h4 _) | (simp only [binOp]; simp [Op.equal, Op.maxDepth])

/-- What eqT takes on its left: a value that is no number, no float, no string unless it is an integer or a string itself. -/
theorem eqT_left {n : Nat} {t : TypeId} {x y : AV} {b : Bool} (h : eqT P n t x y = some b) {u : Value} (hu : DR μ u x) :
    (∃ c, x = .bool c ∧ u = .bool c) ∨ (∃ k m k' m', x = .int k m ∧ y = .int k' m') ∨ (∃ s s', x = .str s ∧ y = .str s') ∨ (∃ cs vs, x = .agg cs ∧ u = .agg vs) ∨ (x = .nilFunc ∧ u = .nilFunc) ∨ (∃ f, x = .fn f ∧ u = .func f #[] #[]) := by
  cases n with
  | zero => simp [eqT] at h
  | succ n =>
    unfold eqT at h
    split at h
    · cases hu; exact .inl ⟨_, rfl, rfl⟩
    · exact .inr (.inl ⟨_, _, _, _, rfl, rfl⟩)
    · exact .inr (.inr (.inl ⟨_, _, rfl, rfl⟩))
    · cases hu; exact .inr (.inr (.inr (.inl ⟨_, _, rfl, rfl⟩)))
    · cases hu; exact .inr (.inr (.inr (.inr (.inl ⟨rfl, rfl⟩))))
    · cases hu; exact .inr (.inr (.inr (.inr (.inl ⟨rfl, rfl⟩))))
    · cases hu; exact .inr (.inr (.inr (.inr (.inr ⟨_, rfl, rfl⟩))))
    · simp at h

theorem binA_spec {op : BinOp} {t : TypeId} {x y z : AV} (h : binA P op t x y = some z) {u v : Value} (hu : DR μ u x) (hv : DR μ v y) (ox oy : Operand) (w : World) :
    ∃ r, (do eqGuard op t ox oy u v; binOp op t u v : Sem Value).run P w = .ok r w ∧ DR μ r z ∧ z.isLoc = false := by
  unfold binA at h
  split at h
  · rename_i k a k' b
    cases hu; cases hv
    have hg := eqGuard_run (P := P) (op := op) (t := t) (x := ox) (y := oy) (a := .int k a) (b := .int k' b) (.inr (by simp)) (by simp) w
    simp only [Sem.run_bind, hg, Result.andThen_ok]
    split at h
    · rename_i hk
      subst hk
      split at h <;> first
        | (simp at h; subst h; refine ⟨_, ?_, by constructor, rfl⟩; simp [binOp, Op.intArith, Op.intCmp]; done)
        | (split at h
           · simp at h
           · rename_i hb
             simp at h; subst h
             refine ⟨_, ?_, by constructor, rfl⟩
             simp [binOp, Op.intDiv, hb])
        | simp at h
    · simp at h
  · rename_i a b
    cases hu; cases hv
    have hg := eqGuard_run (P := P) (op := op) (t := t) (x := ox) (y := oy) (a := .string a) (b := .string b) (.inr (by simp)) (by simp) w
    simp only [Sem.run_bind, hg, Result.andThen_ok]
    split at h <;> first
      | (split at h
         · rename_i hsz
           simp at h; subst h
           refine ⟨_, ?_, by constructor, rfl⟩
           have hmax : ¬ (((a.size + b.size : Nat) : Int) > IntKind.i64.max) := by simp [IntKind.max, IntKind.bits, IntKind.signed]; omega
           simp only [binOp, Op.stringOp, if_neg hmax, Sem.run_pure]
         · simp at h)
      | (simp at h; subst h; refine ⟨_, ?_, by constructor, rfl⟩; simp [binOp, Op.stringOp, bytes_beq]; done)
      | simp at h
  · rename_i hni hns
    have key : ∀ b, P.eqGuardType P.depth t = false → eqT P 6 t x y = some b → (eqGuard op t ox oy u v).run P w = .ok () w ∧
        (∀ w, (binOp .eql t u v).run P w = .ok (.bool b) w) ∧ (∀ w, (binOp .neq t u v).run P w = .ok (.bool (!b)) w) := by
      intro b hgt he
      have hrun := fun w => eqT_spec (P := P) 6 t x y b he u v hu hv 9994 w
      simp only [show 6 + 9994 = 10000 from rfl] at hrun
      have hl := eqT_left he hu
      have hfacts : (∀ k n, u ≠ .int k n) ∧ (∀ k n, u ≠ .float k n) ∧ (∀ k n m, u ≠ .complex k n m) ∧ (∀ s, u ≠ .string s) ∧ u ≠ .nilIface := by
        rcases hl with ⟨c, hx, rfl⟩ | ⟨k, m, k', m', hx, hy⟩ | ⟨s, s', hx, hy⟩ | ⟨cs, vs, hx, rfl⟩ | ⟨hx, rfl⟩ | ⟨f, hx, rfl⟩
        · simp
        · exact (hni _ _ _ _ hx hy).elim
        · exact (hns _ _ hx hy).elim
        · simp
        · simp
        · simp
      obtain ⟨f1, f2, f3, f4, f5⟩ := hfacts
      refine ⟨eqGuard_run (.inl hgt) f5 w, fun w => ?_, fun w => ?_⟩
      · rw [binOp_eql_run f1 f2 f3 f4, hrun]; rfl
      · rw [binOp_neq_run f1 f2 f3 f4, hrun]; rfl
    split at h
    · split at h
      · simp at h
      · rename_i hgt
        cases he : eqT P 6 t x y with
        | none => simp [he] at h
        | some b =>
          simp [he] at h; subst h
          obtain ⟨k1, k2, k3⟩ := key b (by simpa using hgt) he
          exact ⟨.bool b, by simp only [Sem.run_bind, k1, Result.andThen_ok, k2], .bool b, rfl⟩
    · split at h
      · simp at h
      · rename_i hgt
        cases he : eqT P 6 t x y with
        | none => simp [he] at h
        | some b =>
          simp [he] at h; subst h
          obtain ⟨k1, k2, k3⟩ := key b (by simpa using hgt) he
          exact ⟨.bool (!b), by simp only [Sem.run_bind, k1, Result.andThen_ok, k3], .bool (!b), rfl⟩
    · simp at h

end Go.Abs
