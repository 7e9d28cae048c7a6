/- Functions of the program as plain functions, and that the program answers as they do; written by a program (comp.py). -/
import Derived.Test.YtalbakjfbgkjjaaFun6
set_option maxRecDepth 100000
set_option linter.all false
namespace Go.Proofs.Ytalbakjfbgkjjaa
open Go.Abs

/-- partsync/partsyncref05.Bind -/
noncomputable def e30 : Env := { P := Try.prog, ann := ann, f := 30, fn := Try.f30, ptrs := [], rets := [(4, .same)] }
def st30_0 (params1 : (List TValue)) (t22 : Int) (t23 : Int) (bp2 : TPredicate) (bout5 : TPredicate) : LS := ⟨[(1, .slice .sh (rows23 params1)), (2, .loc 2 0), (4, .loc 4 0), (5, .loc 5 0), (22, .int .i64 t22), (23, .int .i64 t23)], [(2, (enc28 bp2)), (4, [.int .i64 0, .int .i64 0, .int .i64 0, .int .i64 0, .int .i64 0, .int .i64 0, .str ByteArray.empty, .int .i64 0, .int .i64 0, .int .i64 0, .int .i64 0, .str ByteArray.empty, .slice .nil []]), (5, [.int .i64 bout5.fOp, .int .i64 bout5.fCmp, .int .i64 bout5.fLeft.fKind, .int .i64 bout5.fLeft.fIndex, .int .i64 bout5.fLeft.fValue.fKind, .int .i64 bout5.fLeft.fValue.fInt, .str bout5.fLeft.fValue.fText, .int .i64 bout5.fRight.fKind, .int .i64 bout5.fRight.fIndex, .int .i64 bout5.fRight.fValue.fKind, .int .i64 bout5.fRight.fValue.fInt, .str bout5.fRight.fValue.fText, .slice (.own 29) (rows28 bout5.fArgs)])]⟩
def st30_1 (bout5 : TPredicate) : LS := ⟨[(4, .loc 4 0), (5, .loc 5 0)], [(4, [.int .i64 0, .int .i64 0, .int .i64 0, .int .i64 0, .int .i64 0, .int .i64 0, .str ByteArray.empty, .int .i64 0, .int .i64 0, .int .i64 0, .int .i64 0, .str ByteArray.empty, .slice .nil []]), (5, [.int .i64 bout5.fOp, .int .i64 bout5.fCmp, .int .i64 bout5.fLeft.fKind, .int .i64 bout5.fLeft.fIndex, .int .i64 bout5.fLeft.fValue.fKind, .int .i64 bout5.fLeft.fValue.fInt, .str bout5.fLeft.fValue.fText, .int .i64 bout5.fRight.fKind, .int .i64 bout5.fRight.fIndex, .int .i64 bout5.fRight.fValue.fKind, .int .i64 bout5.fRight.fValue.fInt, .str bout5.fRight.fValue.fText, .slice (.own 29) (rows28 bout5.fArgs)])]⟩
def st30_2 (p0 : TPredicate) (params1 : (List TValue)) : LS := ⟨[(0, .agg (enc28 p0)), (1, .slice .sh (rows23 params1))], []⟩
def sp30_0 : Stops := [([0, 1, 0, 1, 1], [(1, .nrm), (2, .same), (4, .same), (5, .same), (22, .same), (23, .same)], [(2, [.same, .same, .same, .same, .same, .same, .same, .same, .same, .same, .same, .same, .nrm]), (4, []), (5, [.same, .same, .same, .same, .same, .same, .same, .same, .same, .same, .same, .same, .own 29])]), ([1, 1, 1], [(4, .same), (5, .same)], [(4, []), (5, [.same, .same, .same, .same, .same, .same, .same, .same, .same, .same, .same, .same, .own 29])])]
def B30_0 (s_30 : TPredicate → (List TValue) → Option TPredicate) (k_1 : TPredicate → Option TPredicate) (back : (List TValue) → Int → Int → TPredicate → TPredicate → Option TPredicate) (n : Nat) (params1 : (List TValue)) (t22 : Int) (t23 : Int) (bp2 : TPredicate) (bout5 : TPredicate) : Option TPredicate :=
  if decide (t23 < t22) then
    (idx bp2.fArgs t23).bind fun x9_ =>
    (s_30 x9_ params1).bind fun x12_ =>
    (app bout5.fArgs [x12_]).bind fun x14_ =>
    back params1 t22 (w64 (t23 + 1)) bp2 (TPredicate.mk bout5.fOp bout5.fCmp bout5.fLeft bout5.fRight x14_)
  else
    k_1 bout5

theorem b30_0 (s_30 : TPredicate → (List TValue) → Option TPredicate) (hs_30 : ∀ (a0_ : TPredicate) (a1_ : (List TValue)) (r : TPredicate), s_30 a0_ a1_ = some r → CallOK Try.prog ann 30 [.agg (enc28 a0_), .slice .sh (rows23 a1_)] (res30 r) (outs30 r)) (k_1 : TPredicate → Option TPredicate) (hk_1 : ∀ (bout5 : TPredicate) (r : TPredicate), k_1 bout5 = some r → At e30 [1, 1, 1] (st30_1 bout5) (res30 r) (outs30 r)) (back : (List TValue) → Int → Int → TPredicate → TPredicate → Option TPredicate) (hback : ∀ (params1 : (List TValue)) (t22 : Int) (t23 : Int) (bp2 : TPredicate) (bout5 : TPredicate) (r : TPredicate), back params1 t22 t23 bp2 bout5 = some r → At e30 [0, 1, 0, 1, 1] (st30_0 params1 t22 t23 bp2 bout5) (res30 r) (outs30 r)) (n : Nat) (params1 : (List TValue)) (t22 : Int) (t23 : Int) (bp2 : TPredicate) (bout5 : TPredicate) (r : TPredicate) (h : B30_0 s_30 k_1 back n params1 t22 t23 bp2 bout5 = some r) : At e30 [0, 1, 0, 1, 1] (st30_0 params1 t22 t23 bp2 bout5) (res30 r) (outs30 r) := by
  unfold B30_0 at h
  refine ite_elim h (fun c0_ h1_ => ?_) (fun c0_ h1_ => ?_)
  ·
    refine bind_elim h1_ (fun x9_ hx9_ h2_ => ?_)
    refine bind_elim h2_ (fun x12_ hx12_ h3_ => ?_)
    refine bind_elim h3_ (fun x14_ hx14_ h4_ => ?_)
    exact run_at (S := sp30_0) (G := []) (sc := [(0, .eq (.bool true)), (7, .core ⟨[(31, .imm (enc28 x9_))], []⟩), (2, .call 30 (res30 x12_) (outs30 x12_)), (0, .eq (.slice (.own 29) (rows28 [x12_]))), (0, .core ⟨[(36, .slice (.own 29) (rows28 x14_)), (27, .slice .sh (rows28 bout5.fArgs))], []⟩)]) (obs := [appendA Try.prog an30 36 27 (.tmp 27) (.slice (.own 29) (rows28 bout5.fArgs)) (.slice (.own 29) (rows28 [x12_])) (fun _ => none) = some ⟨[(36, .slice (.own 29) (rows28 x14_)), (27, .slice .sh (rows28 bout5.fArgs))], []⟩, AV.slice (.own 29) ([x12_].map enc28) = .slice (.own 29) (rows28 [x12_]), CallOK Try.prog ann 30 [.agg (enc28 x9_), .slice .sh (rows23 params1)] (res30 x12_) (outs30 x12_), indexAddrA Try.prog an30 (some 31) 27 (.slice .sh (rows28 bp2.fArgs)) (.int .i64 t23) = some ⟨[(31, .imm (enc28 x9_))], []⟩, AV.bool (decide (t23 < t22)) = .bool true]) (by kernel_rfl) ⟨R27.appOb (A := an30) (by decide) hx14_, R27.build1 [x12_], hs_30 _ _ _ hx12_, R27.idxOb (A := an30) hx9_, congrArg AV.bool c0_, trivial⟩ (hback _ _ _ _ _ _ h4_)
  ·
    exact run_at (S := sp30_0) (G := []) (sc := [(0, .eq (.bool false))]) (obs := [AV.bool (decide (t23 < t22)) = .bool false]) (by kernel_rfl) ⟨congrArg AV.bool c0_, trivial⟩ (hk_1 _ _ h1_)

def L30_0 (s_30 : TPredicate → (List TValue) → Option TPredicate) (k_1 : TPredicate → Option TPredicate) : Nat → (List TValue) → Int → Int → TPredicate → TPredicate → Option TPredicate
  | 0, _, _, _, _, _ => none
  | n + 1, params1, t22, t23, bp2, bout5 => B30_0 s_30 k_1 (L30_0 s_30 k_1 n) n params1 t22 t23 bp2 bout5
theorem l30_0 (s_30 : TPredicate → (List TValue) → Option TPredicate) (hs_30 : ∀ (a0_ : TPredicate) (a1_ : (List TValue)) (r : TPredicate), s_30 a0_ a1_ = some r → CallOK Try.prog ann 30 [.agg (enc28 a0_), .slice .sh (rows23 a1_)] (res30 r) (outs30 r)) (k_1 : TPredicate → Option TPredicate) (hk_1 : ∀ (bout5 : TPredicate) (r : TPredicate), k_1 bout5 = some r → At e30 [1, 1, 1] (st30_1 bout5) (res30 r) (outs30 r)) : ∀ (n : Nat) (params1 : (List TValue)) (t22 : Int) (t23 : Int) (bp2 : TPredicate) (bout5 : TPredicate) (r : TPredicate), L30_0 s_30 k_1 n params1 t22 t23 bp2 bout5 = some r → At e30 [0, 1, 0, 1, 1] (st30_0 params1 t22 t23 bp2 bout5) (res30 r) (outs30 r)
  | 0, _, _, _, _, _, _, h => by simp [L30_0] at h
  | n + 1, params1, t22, t23, bp2, bout5, r, h => b30_0 s_30 hs_30 k_1 hk_1 (L30_0 s_30 k_1 n) (l30_0 s_30 hs_30 k_1 hk_1 n) n params1 t22 t23 bp2 bout5 r h
def sp30_1 : Stops := []
def B30_1 (s_30 : TPredicate → (List TValue) → Option TPredicate) (n : Nat) (bout5 : TPredicate) : Option TPredicate :=
  some bout5

theorem b30_1 (s_30 : TPredicate → (List TValue) → Option TPredicate) (hs_30 : ∀ (a0_ : TPredicate) (a1_ : (List TValue)) (r : TPredicate), s_30 a0_ a1_ = some r → CallOK Try.prog ann 30 [.agg (enc28 a0_), .slice .sh (rows23 a1_)] (res30 r) (outs30 r)) (n : Nat) (bout5 : TPredicate) (r : TPredicate) (h : B30_1 s_30 n bout5 = some r) : At e30 [1, 1, 1] (st30_1 bout5) (res30 r) (outs30 r) := by
  unfold B30_1 at h
  have e_ := Option.some.inj h
  subst e_
  exact run_ret (S := sp30_1) (G := []) (sc := []) (obs := []) (by kernel_rfl) trivial

def sp30_2 : Stops := [([0, 1, 0, 1, 1], [(1, .nrm), (2, .same), (4, .same), (5, .same), (22, .same), (23, .same)], [(2, [.same, .same, .same, .same, .same, .same, .same, .same, .same, .same, .same, .same, .nrm]), (4, []), (5, [.same, .same, .same, .same, .same, .same, .same, .same, .same, .same, .same, .same, .own 29])])]
def B30_2 (s_30 : TPredicate → (List TValue) → Option TPredicate) (n : Nat) (p0 : TPredicate) (params1 : (List TValue)) : Option TPredicate :=
  (F56 n p0.fLeft params1).bind fun x10_ =>
  (F56 n p0.fRight params1).bind fun x14_ =>
  L30_0 s_30 (B30_1 s_30 n) n params1 (p0.fArgs.length : Int) 0 p0 (TPredicate.mk p0.fOp p0.fCmp x10_ x14_ [])

theorem b30_2 (s_30 : TPredicate → (List TValue) → Option TPredicate) (hs_30 : ∀ (a0_ : TPredicate) (a1_ : (List TValue)) (r : TPredicate), s_30 a0_ a1_ = some r → CallOK Try.prog ann 30 [.agg (enc28 a0_), .slice .sh (rows23 a1_)] (res30 r) (outs30 r)) (n : Nat) (p0 : TPredicate) (params1 : (List TValue)) (r : TPredicate) (h : B30_2 s_30 n p0 params1 = some r) : At e30 [] (st30_2 p0 params1) (res30 r) (outs30 r) := by
  unfold B30_2 at h
  refine bind_elim h (fun x10_ hx10_ h5_ => ?_)
  refine bind_elim h5_ (fun x14_ hx14_ h6_ => ?_)
  exact run_at (S := sp30_2) (G := []) (sc := [(9, .call 56 (res56 x10_) (outs56 x10_)), (3, .call 56 (res56 x14_) (outs56 x14_)), (5, .eq (.int .i64 (p0.fArgs.length : Int)))]) (obs := [AV.int .i64 ((rows28 p0.fArgs).length : Int) = .int .i64 (p0.fArgs.length : Int), CallOK Try.prog ann 56 [.agg (enc25 p0.fRight), .slice .sh (rows23 params1)] (res56 x14_) (outs56 x14_), CallOK Try.prog ann 56 [.agg (enc25 p0.fLeft), .slice .sh (rows23 params1)] (res56 x10_) (outs56 x10_)]) (by kernel_rfl) ⟨R27.lenOb p0.fArgs, ev56 n _ _ _ hx14_, ev56 n _ _ _ hx10_, trivial⟩ (l30_0 s_30 hs_30 (B30_1 s_30 n) (b30_1 s_30 hs_30 n) n _ _ _ _ _ _ h6_)

def F30 : Nat → TPredicate → (List TValue) → Option TPredicate
  | 0, _, _ => none
  | n + 1, p0, params1 => B30_2 (F30 n) n p0 params1
theorem ev30 : ∀ (n : Nat) (p0 : TPredicate) (params1 : (List TValue)) (r : TPredicate), F30 n p0 params1 = some r → CallOK Try.prog ann 30 [.agg (enc28 p0), .slice .sh (rows23 params1)] (res30 r) (outs30 r)
  | 0, _, _, _, h => by simp [F30] at h
  | n + 1, p0, params1, r, h => call_of_at (E := e30) (s := st30_2 p0 params1) body30 Try.func30 (by kernel_rfl) (by kernel_rfl) (by kernel_rfl) (by kernel_rfl) (by kernel_rfl) (emptyOK_of (by kernel_rfl)) (by kernel_rfl) (b30_2 (F30 n) (ev30 n) n p0 params1 r h)

/-- slices.EqualFunc[[]partsync/api.Predicate,[]partsync/api.Predicate,partsync/api.Predicate,partsync/api.Predicate] -/
noncomputable def e57 : Env := { P := Try.prog, ann := ann, f := 57, fn := Try.f57, ptrs := [], rets := [(6, .same)] }
def st57_0 (s21 : (List TPredicate)) (t15 : (List TPredicate)) (t16 : Int) (t17 : Int) : LS := ⟨[(1, .slice .sh (rows28 s21)), (2, .fn (.func 31)), (15, .slice .sh (rows28 t15)), (16, .int .i64 t16), (17, .int .i64 t17)], []⟩
def st57_1  : LS := ⟨[], []⟩
def st57_2 (s10 : (List TPredicate)) (s21 : (List TPredicate)) : LS := ⟨[(0, .slice .sh (rows28 s10)), (1, .slice .sh (rows28 s21)), (2, .fn (.func 31))], []⟩
def sp57_0 : Stops := [([0, 1, 0, 1, 1], [(1, .nrm), (2, .same), (15, .nrm), (16, .same), (17, .same)], []), ([1, 1, 1], [], [])]
def B57_0 (s_31 : TPredicate → TPredicate → Option Bool) (k_1 : Option Bool) (back : (List TPredicate) → (List TPredicate) → Int → Int → Option Bool) (n : Nat) (s21 : (List TPredicate)) (t15 : (List TPredicate)) (t16 : Int) (t17 : Int) : Option Bool :=
  if decide (t17 < t16) then
    (idx t15 t17).bind fun x3_ =>
    (idx s21 t17).bind fun x10_ =>
    (s_31 x3_ x10_).bind fun x17_ =>
    if !x17_ then
      some false
    else
      back s21 t15 t16 (w64 (t17 + 1))
  else
    k_1

theorem b57_0 (s_31 : TPredicate → TPredicate → Option Bool) (hs_31 : ∀ (a0_ : TPredicate) (a1_ : TPredicate) (r : Bool), s_31 a0_ a1_ = some r → CallOK Try.prog ann 31 [.agg (enc28 a0_), .agg (enc28 a1_)] (res31 r) (outs31 r)) (k_1 : Option Bool) (hk_1 : ∀  (r : Bool), k_1 = some r → At e57 [1, 1, 1] (st57_1) (res57 r) (outs57 r)) (back : (List TPredicate) → (List TPredicate) → Int → Int → Option Bool) (hback : ∀ (s21 : (List TPredicate)) (t15 : (List TPredicate)) (t16 : Int) (t17 : Int) (r : Bool), back s21 t15 t16 t17 = some r → At e57 [0, 1, 0, 1, 1] (st57_0 s21 t15 t16 t17) (res57 r) (outs57 r)) (n : Nat) (s21 : (List TPredicate)) (t15 : (List TPredicate)) (t16 : Int) (t17 : Int) (r : Bool) (h : B57_0 s_31 k_1 back n s21 t15 t16 t17 = some r) : At e57 [0, 1, 0, 1, 1] (st57_0 s21 t15 t16 t17) (res57 r) (outs57 r) := by
  unfold B57_0 at h
  refine ite_elim h (fun c0_ h1_ => ?_) (fun c0_ h1_ => ?_)
  ·
    refine bind_elim h1_ (fun x3_ hx3_ h2_ => ?_)
    refine bind_elim h2_ (fun x10_ hx10_ h3_ => ?_)
    refine bind_elim h3_ (fun x17_ hx17_ h4_ => ?_)
    refine ite_elim h4_ (fun c1_ h5_ => ?_) (fun c1_ h5_ => ?_)
    ·
      have e_ := Option.some.inj h5_
      subst e_
      exact run_ret (S := sp57_0) (G := []) (sc := [(0, .eq (.bool true)), (1, .core ⟨[(20, .imm (enc28 x3_))], []⟩), (6, .core ⟨[(24, .imm (enc28 x10_))], []⟩), (6, .call 31 (res31 x17_) (outs31 x17_)), (0, .eq (.bool true))]) (obs := [AV.bool (!x17_) = .bool true, CallOK Try.prog ann 31 [.agg (enc28 x3_), .agg (enc28 x10_)] (res31 x17_) (outs31 x17_), indexAddrA Try.prog an57 (some 24) 27 (.slice .sh (rows28 s21)) (.int .i64 t17) = some ⟨[(24, .imm (enc28 x10_))], []⟩, indexAddrA Try.prog an57 (some 20) 27 (.slice .sh (rows28 t15)) (.int .i64 t17) = some ⟨[(20, .imm (enc28 x3_))], []⟩, AV.bool (decide (t17 < t16)) = .bool true]) (by kernel_rfl) ⟨congrArg AV.bool c1_, hs_31 _ _ _ hx17_, R27.idxOb (A := an57) hx10_, R27.idxOb (A := an57) hx3_, congrArg AV.bool c0_, trivial⟩
    ·
      exact run_at (S := sp57_0) (G := []) (sc := [(0, .eq (.bool true)), (1, .core ⟨[(20, .imm (enc28 x3_))], []⟩), (6, .core ⟨[(24, .imm (enc28 x10_))], []⟩), (6, .call 31 (res31 x17_) (outs31 x17_)), (0, .eq (.bool false))]) (obs := [AV.bool (!x17_) = .bool false, CallOK Try.prog ann 31 [.agg (enc28 x3_), .agg (enc28 x10_)] (res31 x17_) (outs31 x17_), indexAddrA Try.prog an57 (some 24) 27 (.slice .sh (rows28 s21)) (.int .i64 t17) = some ⟨[(24, .imm (enc28 x10_))], []⟩, indexAddrA Try.prog an57 (some 20) 27 (.slice .sh (rows28 t15)) (.int .i64 t17) = some ⟨[(20, .imm (enc28 x3_))], []⟩, AV.bool (decide (t17 < t16)) = .bool true]) (by kernel_rfl) ⟨congrArg AV.bool c1_, hs_31 _ _ _ hx17_, R27.idxOb (A := an57) hx10_, R27.idxOb (A := an57) hx3_, congrArg AV.bool c0_, trivial⟩ (hback _ _ _ _ _ h5_)
  ·
    exact run_at (S := sp57_0) (G := []) (sc := [(0, .eq (.bool false))]) (obs := [AV.bool (decide (t17 < t16)) = .bool false]) (by kernel_rfl) ⟨congrArg AV.bool c0_, trivial⟩ (hk_1 _ h1_)

def L57_0 (s_31 : TPredicate → TPredicate → Option Bool) (k_1 : Option Bool) : Nat → (List TPredicate) → (List TPredicate) → Int → Int → Option Bool
  | 0, _, _, _, _ => none
  | n + 1, s21, t15, t16, t17 => B57_0 s_31 k_1 (L57_0 s_31 k_1 n) n s21 t15 t16 t17
theorem l57_0 (s_31 : TPredicate → TPredicate → Option Bool) (hs_31 : ∀ (a0_ : TPredicate) (a1_ : TPredicate) (r : Bool), s_31 a0_ a1_ = some r → CallOK Try.prog ann 31 [.agg (enc28 a0_), .agg (enc28 a1_)] (res31 r) (outs31 r)) (k_1 : Option Bool) (hk_1 : ∀  (r : Bool), k_1 = some r → At e57 [1, 1, 1] (st57_1) (res57 r) (outs57 r)) : ∀ (n : Nat) (s21 : (List TPredicate)) (t15 : (List TPredicate)) (t16 : Int) (t17 : Int) (r : Bool), L57_0 s_31 k_1 n s21 t15 t16 t17 = some r → At e57 [0, 1, 0, 1, 1] (st57_0 s21 t15 t16 t17) (res57 r) (outs57 r)
  | 0, _, _, _, _, _, h => by simp [L57_0] at h
  | n + 1, s21, t15, t16, t17, r, h => b57_0 s_31 hs_31 k_1 hk_1 (L57_0 s_31 k_1 n) (l57_0 s_31 hs_31 k_1 hk_1 n) n s21 t15 t16 t17 r h
def sp57_1 : Stops := []
def B57_1 (s_31 : TPredicate → TPredicate → Option Bool) (n : Nat)  : Option Bool :=
  some true

theorem b57_1 (s_31 : TPredicate → TPredicate → Option Bool) (hs_31 : ∀ (a0_ : TPredicate) (a1_ : TPredicate) (r : Bool), s_31 a0_ a1_ = some r → CallOK Try.prog ann 31 [.agg (enc28 a0_), .agg (enc28 a1_)] (res31 r) (outs31 r)) (n : Nat)  (r : Bool) (h : B57_1 s_31 n = some r) : At e57 [1, 1, 1] (st57_1) (res57 r) (outs57 r) := by
  unfold B57_1 at h
  have e_ := Option.some.inj h
  subst e_
  exact run_ret (S := sp57_1) (G := []) (sc := []) (obs := []) (by kernel_rfl) trivial

def sp57_2 : Stops := [([0, 1, 0, 1, 1], [(1, .nrm), (2, .same), (15, .nrm), (16, .same), (17, .same)], [])]
def B57_2 (s_31 : TPredicate → TPredicate → Option Bool) (n : Nat) (s10 : (List TPredicate)) (s21 : (List TPredicate)) : Option Bool :=
  if (s10.length : Int) != (s21.length : Int) then
    some false
  else
    L57_0 s_31 (B57_1 s_31 n) n s21 s10 (s10.length : Int) 0

theorem b57_2 (s_31 : TPredicate → TPredicate → Option Bool) (hs_31 : ∀ (a0_ : TPredicate) (a1_ : TPredicate) (r : Bool), s_31 a0_ a1_ = some r → CallOK Try.prog ann 31 [.agg (enc28 a0_), .agg (enc28 a1_)] (res31 r) (outs31 r)) (n : Nat) (s10 : (List TPredicate)) (s21 : (List TPredicate)) (r : Bool) (h : B57_2 s_31 n s10 s21 = some r) : At e57 [] (st57_2 s10 s21) (res57 r) (outs57 r) := by
  unfold B57_2 at h
  refine ite_elim h (fun c0_ h6_ => ?_) (fun c0_ h6_ => ?_)
  ·
    have e_ := Option.some.inj h6_
    subst e_
    exact run_ret (S := sp57_2) (G := []) (sc := [(2, .eq (.int .i64 (s10.length : Int))), (1, .eq (.int .i64 (s21.length : Int))), (0, .eq (.bool true))]) (obs := [AV.bool ((s10.length : Int) != (s21.length : Int)) = .bool true, AV.int .i64 ((rows28 s21).length : Int) = .int .i64 (s21.length : Int), AV.int .i64 ((rows28 s10).length : Int) = .int .i64 (s10.length : Int)]) (by kernel_rfl) ⟨congrArg AV.bool c0_, R27.lenOb s21, R27.lenOb s10, trivial⟩
  ·
    exact run_at (S := sp57_2) (G := []) (sc := [(2, .eq (.int .i64 (s10.length : Int))), (1, .eq (.int .i64 (s21.length : Int))), (0, .eq (.bool false)), (1, .eq (.int .i64 (s10.length : Int)))]) (obs := [AV.int .i64 ((rows28 s10).length : Int) = .int .i64 (s10.length : Int), AV.bool ((s10.length : Int) != (s21.length : Int)) = .bool false, AV.int .i64 ((rows28 s21).length : Int) = .int .i64 (s21.length : Int), AV.int .i64 ((rows28 s10).length : Int) = .int .i64 (s10.length : Int)]) (by kernel_rfl) ⟨R27.lenOb s10, congrArg AV.bool c0_, R27.lenOb s21, R27.lenOb s10, trivial⟩ (l57_0 s_31 hs_31 (B57_1 s_31 n) (b57_1 s_31 hs_31 n) n _ _ _ _ _ h6_)

def F57 (s_31 : TPredicate → TPredicate → Option Bool) (n : Nat) (s10 : (List TPredicate)) (s21 : (List TPredicate)) : Option Bool := B57_2 s_31 n s10 s21
theorem ev57 (s_31 : TPredicate → TPredicate → Option Bool) (hs_31 : ∀ (a0_ : TPredicate) (a1_ : TPredicate) (r : Bool), s_31 a0_ a1_ = some r → CallOK Try.prog ann 31 [.agg (enc28 a0_), .agg (enc28 a1_)] (res31 r) (outs31 r)) (n : Nat) (s10 : (List TPredicate)) (s21 : (List TPredicate)) (r : Bool) (h : F57 s_31 n s10 s21 = some r) : CallOK Try.prog ann 57 [.slice .sh (rows28 s10), .slice .sh (rows28 s21), .fn (.func 31)] (res57 r) (outs57 r) :=
  call_of_at (E := e57) (s := st57_2 s10 s21) body57 Try.func57 (by kernel_rfl) (by kernel_rfl) (by kernel_rfl) (by kernel_rfl) (by kernel_rfl) (emptyOK_of (by kernel_rfl)) (by kernel_rfl) (b57_2 s_31 hs_31 n s10 s21 r h)

/-- partsync/predicate.Equal -/
noncomputable def e31 : Env := { P := Try.prog, ann := ann, f := 31, fn := Try.f31, ptrs := [], rets := [(4, .same)] }
def st31_0 (a0 : TPredicate) (b1 : TPredicate) : LS := ⟨[(0, .agg (enc28 a0)), (1, .agg (enc28 b1))], []⟩
def sp31_0 : Stops := []
def B31_0 (s_31 : TPredicate → TPredicate → Option Bool) (n : Nat) (a0 : TPredicate) (b1 : TPredicate) : Option Bool :=
  if a0.fOp == b1.fOp then
    if a0.fCmp == b1.fCmp then
      if ((a0.fLeft.fKind == b1.fLeft.fKind) && ((a0.fLeft.fIndex == b1.fLeft.fIndex) && (((a0.fLeft.fValue.fKind == b1.fLeft.fValue.fKind) && ((a0.fLeft.fValue.fInt == b1.fLeft.fValue.fInt) && ((decide (a0.fLeft.fValue.fText = b1.fLeft.fValue.fText)) && true))) && true))) then
        if ((a0.fRight.fKind == b1.fRight.fKind) && ((a0.fRight.fIndex == b1.fRight.fIndex) && (((a0.fRight.fValue.fKind == b1.fRight.fValue.fKind) && ((a0.fRight.fValue.fInt == b1.fRight.fValue.fInt) && ((decide (a0.fRight.fValue.fText = b1.fRight.fValue.fText)) && true))) && true))) then
          (F57 s_31 n a0.fArgs b1.fArgs).bind fun x35_ =>
          some x35_
        else
          some false
      else
        some false
    else
      some false
  else
    some false

theorem b31_0 (s_31 : TPredicate → TPredicate → Option Bool) (hs_31 : ∀ (a0_ : TPredicate) (a1_ : TPredicate) (r : Bool), s_31 a0_ a1_ = some r → CallOK Try.prog ann 31 [.agg (enc28 a0_), .agg (enc28 a1_)] (res31 r) (outs31 r)) (n : Nat) (a0 : TPredicate) (b1 : TPredicate) (r : Bool) (h : B31_0 s_31 n a0 b1 = some r) : At e31 [] (st31_0 a0 b1) (res31 r) (outs31 r) := by
  unfold B31_0 at h
  refine ite_elim h (fun c0_ h1_ => ?_) (fun c0_ h1_ => ?_)
  ·
    refine ite_elim h1_ (fun c1_ h2_ => ?_) (fun c1_ h2_ => ?_)
    ·
      refine ite_elim h2_ (fun c2_ h3_ => ?_) (fun c2_ h3_ => ?_)
      ·
        refine ite_elim h3_ (fun c3_ h4_ => ?_) (fun c3_ h4_ => ?_)
        ·
          refine bind_elim h4_ (fun x35_ hx35_ h5_ => ?_)
          have e_ := Option.some.inj h5_
          subst e_
          exact run_ret (S := sp31_0) (G := []) (sc := [(7, .eq (.bool true)), (5, .eq (.bool true)), (6, .eq (.bool true)), (6, .eq (.bool true)), (6, .call 57 (res57 x35_) (outs57 x35_))]) (obs := [CallOK Try.prog ann 57 [.slice .sh (rows28 a0.fArgs), .slice .sh (rows28 b1.fArgs), .fn (.func 31)] (res57 x35_) (outs57 x35_), AV.bool ((a0.fRight.fKind == b1.fRight.fKind) && ((a0.fRight.fIndex == b1.fRight.fIndex) && (((a0.fRight.fValue.fKind == b1.fRight.fValue.fKind) && ((a0.fRight.fValue.fInt == b1.fRight.fValue.fInt) && ((decide (a0.fRight.fValue.fText = b1.fRight.fValue.fText)) && true))) && true))) = .bool true, AV.bool ((a0.fLeft.fKind == b1.fLeft.fKind) && ((a0.fLeft.fIndex == b1.fLeft.fIndex) && (((a0.fLeft.fValue.fKind == b1.fLeft.fValue.fKind) && ((a0.fLeft.fValue.fInt == b1.fLeft.fValue.fInt) && ((decide (a0.fLeft.fValue.fText = b1.fLeft.fValue.fText)) && true))) && true))) = .bool true, AV.bool (a0.fCmp == b1.fCmp) = .bool true, AV.bool (a0.fOp == b1.fOp) = .bool true]) (by kernel_rfl) ⟨ev57 s_31 hs_31 n _ _ _ hx35_, congrArg AV.bool c3_, congrArg AV.bool c2_, congrArg AV.bool c1_, congrArg AV.bool c0_, trivial⟩
        ·
          have e_ := Option.some.inj h4_
          subst e_
          exact run_ret (S := sp31_0) (G := []) (sc := [(7, .eq (.bool true)), (5, .eq (.bool true)), (6, .eq (.bool true)), (6, .eq (.bool false))]) (obs := [AV.bool ((a0.fRight.fKind == b1.fRight.fKind) && ((a0.fRight.fIndex == b1.fRight.fIndex) && (((a0.fRight.fValue.fKind == b1.fRight.fValue.fKind) && ((a0.fRight.fValue.fInt == b1.fRight.fValue.fInt) && ((decide (a0.fRight.fValue.fText = b1.fRight.fValue.fText)) && true))) && true))) = .bool false, AV.bool ((a0.fLeft.fKind == b1.fLeft.fKind) && ((a0.fLeft.fIndex == b1.fLeft.fIndex) && (((a0.fLeft.fValue.fKind == b1.fLeft.fValue.fKind) && ((a0.fLeft.fValue.fInt == b1.fLeft.fValue.fInt) && ((decide (a0.fLeft.fValue.fText = b1.fLeft.fValue.fText)) && true))) && true))) = .bool true, AV.bool (a0.fCmp == b1.fCmp) = .bool true, AV.bool (a0.fOp == b1.fOp) = .bool true]) (by kernel_rfl) ⟨congrArg AV.bool c3_, congrArg AV.bool c2_, congrArg AV.bool c1_, congrArg AV.bool c0_, trivial⟩
      ·
        have e_ := Option.some.inj h3_
        subst e_
        exact run_ret (S := sp31_0) (G := []) (sc := [(7, .eq (.bool true)), (5, .eq (.bool true)), (6, .eq (.bool false))]) (obs := [AV.bool ((a0.fLeft.fKind == b1.fLeft.fKind) && ((a0.fLeft.fIndex == b1.fLeft.fIndex) && (((a0.fLeft.fValue.fKind == b1.fLeft.fValue.fKind) && ((a0.fLeft.fValue.fInt == b1.fLeft.fValue.fInt) && ((decide (a0.fLeft.fValue.fText = b1.fLeft.fValue.fText)) && true))) && true))) = .bool false, AV.bool (a0.fCmp == b1.fCmp) = .bool true, AV.bool (a0.fOp == b1.fOp) = .bool true]) (by kernel_rfl) ⟨congrArg AV.bool c2_, congrArg AV.bool c1_, congrArg AV.bool c0_, trivial⟩
    ·
      have e_ := Option.some.inj h2_
      subst e_
      exact run_ret (S := sp31_0) (G := []) (sc := [(7, .eq (.bool true)), (5, .eq (.bool false))]) (obs := [AV.bool (a0.fCmp == b1.fCmp) = .bool false, AV.bool (a0.fOp == b1.fOp) = .bool true]) (by kernel_rfl) ⟨congrArg AV.bool c1_, congrArg AV.bool c0_, trivial⟩
  ·
    have e_ := Option.some.inj h1_
    subst e_
    exact run_ret (S := sp31_0) (G := []) (sc := [(7, .eq (.bool false))]) (obs := [AV.bool (a0.fOp == b1.fOp) = .bool false]) (by kernel_rfl) ⟨congrArg AV.bool c0_, trivial⟩

def F31 : Nat → TPredicate → TPredicate → Option Bool
  | 0, _, _ => none
  | n + 1, a0, b1 => B31_0 (F31 n) n a0 b1
theorem ev31 : ∀ (n : Nat) (a0 : TPredicate) (b1 : TPredicate) (r : Bool), F31 n a0 b1 = some r → CallOK Try.prog ann 31 [.agg (enc28 a0), .agg (enc28 b1)] (res31 r) (outs31 r)
  | 0, _, _, _, h => by simp [F31] at h
  | n + 1, a0, b1, r, h => call_of_at (E := e31) (s := st31_0 a0 b1) body31 Try.func31 (by kernel_rfl) (by kernel_rfl) (by kernel_rfl) (by kernel_rfl) (by kernel_rfl) (emptyOK_of (by kernel_rfl)) (by kernel_rfl) (b31_0 (F31 n) (ev31 n) n a0 b1 r h)

end Go.Proofs.Ytalbakjfbgkjjaa
