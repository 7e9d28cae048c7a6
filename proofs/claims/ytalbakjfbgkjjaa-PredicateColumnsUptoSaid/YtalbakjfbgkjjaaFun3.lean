/- Functions of the program as plain functions, and that the program answers as they do; written by a program (comp.py). -/
import Derived.Test.YtalbakjfbgkjjaaFun2
set_option maxRecDepth 100000
set_option linter.all false
namespace Go.Proofs.Ytalbakjfbgkjjaa
open Go.Abs

/-- partsync/value.Real -/
noncomputable def e43 : Env := { P := Try.prog, ann := ann, f := 43, fn := Try.f43, ptrs := [], rets := [(2, .same)] }
def st43_0 (v0 : TValue) : LS := ⟨[(0, .agg (enc23 v0))], []⟩
def sp43_0 : Stops := []
def B43_0 (n : Nat) (v0 : TValue) : Option Bool :=
  (F63 n v0).bind fun x4_ =>
  if x4_ then
    if v0.fKind != 1 then
      some (v0.fKind != 2)
    else
      some false
  else
    some false

theorem b43_0 (n : Nat) (v0 : TValue) (r : Bool) (h : B43_0 n v0 = some r) : At e43 [] (st43_0 v0) (res43 r) (outs43 r) := by
  unfold B43_0 at h
  refine bind_elim h (fun x4_ hx4_ h1_ => ?_)
  refine ite_elim h1_ (fun c0_ h2_ => ?_) (fun c0_ h2_ => ?_)
  ·
    subst c0_
    refine ite_elim h2_ (fun c1_ h3_ => ?_) (fun c1_ h3_ => ?_)
    ·
      have e_ := Option.some.inj h3_
      subst e_
      exact run_ret (S := sp43_0) (G := []) (sc := [(3, .call 63 (res63 true) (outs63 true)), (3, .eq (.bool true))]) (obs := [AV.bool (v0.fKind != 1) = .bool true, CallOK Try.prog ann 63 [.agg (enc23 v0)] (res63 true) (outs63 true)]) (by kernel_rfl) ⟨congrArg AV.bool c1_, ev63 n _ _ hx4_, trivial⟩
    ·
      have e_ := Option.some.inj h3_
      subst e_
      exact run_ret (S := sp43_0) (G := []) (sc := [(3, .call 63 (res63 true) (outs63 true)), (3, .eq (.bool false))]) (obs := [AV.bool (v0.fKind != 1) = .bool false, CallOK Try.prog ann 63 [.agg (enc23 v0)] (res63 true) (outs63 true)]) (by kernel_rfl) ⟨congrArg AV.bool c1_, ev63 n _ _ hx4_, trivial⟩
  ·
    subst c0_
    have e_ := Option.some.inj h2_
    subst e_
    exact run_ret (S := sp43_0) (G := []) (sc := [(3, .call 63 (res63 false) (outs63 false))]) (obs := [CallOK Try.prog ann 63 [.agg (enc23 v0)] (res63 false) (outs63 false)]) (by kernel_rfl) ⟨ev63 n _ _ hx4_, trivial⟩

def F43 (n : Nat) (v0 : TValue) : Option Bool := B43_0 n v0
theorem ev43 (n : Nat) (v0 : TValue) (r : Bool) (h : F43 n v0 = some r) : CallOK Try.prog ann 43 [.agg (enc23 v0)] (res43 r) (outs43 r) :=
  call_of_at (E := e43) (s := st43_0 v0) body43 Try.func43 (by kernel_rfl) (by kernel_rfl) (by kernel_rfl) (by kernel_rfl) (by kernel_rfl) (emptyOK_of (by kernel_rfl)) (by kernel_rfl) (b43_0 n v0 r h)

/-- (partsync/predicate.kinds).of -/
noncomputable def e59 : Env := { P := Try.prog, ann := ann, f := 59, fn := Try.f59, ptrs := [], rets := [(4, .same)] }
def st59_0 (list5 : (List Int)) (bo3 : TOperand) : LS := ⟨[(3, .loc 3 0), (5, .slice .sh (rows3 list5))], [(3, (enc25 bo3))]⟩
def st59_1 (k0 : Tkinds) (o1 : TOperand) : LS := ⟨[(0, .agg (enc64 k0)), (1, .agg (enc25 o1))], []⟩
def sp59_0 : Stops := []
def B59_0 (n : Nat) (list5 : (List Int)) (bo3 : TOperand) : Option Int :=
  if decide (bo3.fIndex < 0) then
    some 0
  else
    if decide (bo3.fIndex ≥ (list5.length : Int)) then
      some 0
    else
      if !((bo3.fValue.fKind == 0) && ((bo3.fValue.fInt == 0) && ((decide (bo3.fValue.fText = ByteArray.empty)) && true))) then
        some 0
      else
        (idx list5 bo3.fIndex).bind fun x20_ =>
        some x20_

theorem b59_0 (n : Nat) (list5 : (List Int)) (bo3 : TOperand) (r : Int) (h : B59_0 n list5 bo3 = some r) : At e59 [1, 1, 1] (st59_0 list5 bo3) (res59 r) (outs59 r) := by
  unfold B59_0 at h
  refine ite_elim h (fun c0_ h1_ => ?_) (fun c0_ h1_ => ?_)
  ·
    have e_ := Option.some.inj h1_
    subst e_
    exact run_ret (S := sp59_0) (G := []) (sc := [(2, .eq (.bool true))]) (obs := [AV.bool (decide (bo3.fIndex < 0)) = .bool true]) (by kernel_rfl) ⟨congrArg AV.bool c0_, trivial⟩
  ·
    refine ite_elim h1_ (fun c1_ h2_ => ?_) (fun c1_ h2_ => ?_)
    ·
      have e_ := Option.some.inj h2_
      subst e_
      exact run_ret (S := sp59_0) (G := []) (sc := [(2, .eq (.bool false)), (4, .eq (.int .i64 (list5.length : Int))), (0, .eq (.bool true))]) (obs := [AV.bool (decide (bo3.fIndex ≥ (list5.length : Int))) = .bool true, AV.int .i64 ((rows3 list5).length : Int) = .int .i64 (list5.length : Int), AV.bool (decide (bo3.fIndex < 0)) = .bool false]) (by kernel_rfl) ⟨congrArg AV.bool c1_, R30.lenOb list5, congrArg AV.bool c0_, trivial⟩
    ·
      refine ite_elim h2_ (fun c2_ h3_ => ?_) (fun c2_ h3_ => ?_)
      ·
        have e_ := Option.some.inj h3_
        subst e_
        exact run_ret (S := sp59_0) (G := []) (sc := [(2, .eq (.bool false)), (4, .eq (.int .i64 (list5.length : Int))), (0, .eq (.bool false)), (5, .eq (.bool true))]) (obs := [AV.bool (!((bo3.fValue.fKind == 0) && ((bo3.fValue.fInt == 0) && ((decide (bo3.fValue.fText = ByteArray.empty)) && true)))) = .bool true, AV.bool (decide (bo3.fIndex ≥ (list5.length : Int))) = .bool false, AV.int .i64 ((rows3 list5).length : Int) = .int .i64 (list5.length : Int), AV.bool (decide (bo3.fIndex < 0)) = .bool false]) (by kernel_rfl) ⟨congrArg AV.bool c2_, congrArg AV.bool c1_, R30.lenOb list5, congrArg AV.bool c0_, trivial⟩
      ·
        refine bind_elim h3_ (fun x20_ hx20_ h4_ => ?_)
        have e_ := Option.some.inj h4_
        subst e_
        exact run_ret (S := sp59_0) (G := []) (sc := [(2, .eq (.bool false)), (4, .eq (.int .i64 (list5.length : Int))), (0, .eq (.bool false)), (5, .eq (.bool false)), (4, .core ⟨[(49, .imm (enc3 x20_))], []⟩)]) (obs := [indexAddrA Try.prog an59 (some 49) 30 (.slice .sh (rows3 list5)) (.int .i64 bo3.fIndex) = some ⟨[(49, .imm (enc3 x20_))], []⟩, AV.bool (!((bo3.fValue.fKind == 0) && ((bo3.fValue.fInt == 0) && ((decide (bo3.fValue.fText = ByteArray.empty)) && true)))) = .bool false, AV.bool (decide (bo3.fIndex ≥ (list5.length : Int))) = .bool false, AV.int .i64 ((rows3 list5).length : Int) = .int .i64 (list5.length : Int), AV.bool (decide (bo3.fIndex < 0)) = .bool false]) (by kernel_rfl) ⟨R30.idxOb (A := an59) hx20_, congrArg AV.bool c2_, congrArg AV.bool c1_, R30.lenOb list5, congrArg AV.bool c0_, trivial⟩

def sp59_1 : Stops := [([1, 1, 1], [(3, .same), (5, .nrm)], [(3, [.same, .same, .same, .same, .same])])]
def B59_1 (n : Nat) (k0 : Tkinds) (o1 : TOperand) : Option Int :=
  if o1.fKind == 3 then
    if o1.fIndex != 0 then
      some 0
    else
      (F43 n o1.fValue).bind fun x17_ =>
      if !x17_ then
        some 0
      else
        some o1.fValue.fKind
  else
    if o1.fKind == 2 then
      B59_0 n k0.fparams o1
    else
      if o1.fKind == 1 then
        B59_0 n k0.fcolumns o1
      else
        some 0

theorem b59_1 (n : Nat) (k0 : Tkinds) (o1 : TOperand) (r : Int) (h : B59_1 n k0 o1 = some r) : At e59 [] (st59_1 k0 o1) (res59 r) (outs59 r) := by
  unfold B59_1 at h
  refine ite_elim h (fun c0_ h5_ => ?_) (fun c0_ h5_ => ?_)
  ·
    refine ite_elim h5_ (fun c1_ h6_ => ?_) (fun c1_ h6_ => ?_)
    ·
      have e_ := Option.some.inj h6_
      subst e_
      exact run_ret (S := sp59_1) (G := []) (sc := [(8, .eq (.bool true)), (3, .eq (.bool true))]) (obs := [AV.bool (o1.fIndex != 0) = .bool true, AV.bool (o1.fKind == 3) = .bool true]) (by kernel_rfl) ⟨congrArg AV.bool c1_, congrArg AV.bool c0_, trivial⟩
    ·
      refine bind_elim h6_ (fun x17_ hx17_ h7_ => ?_)
      refine ite_elim h7_ (fun c2_ h8_ => ?_) (fun c2_ h8_ => ?_)
      ·
        have e_ := Option.some.inj h8_
        subst e_
        exact run_ret (S := sp59_1) (G := []) (sc := [(8, .eq (.bool true)), (3, .eq (.bool false)), (3, .call 43 (res43 x17_) (outs43 x17_)), (0, .eq (.bool true))]) (obs := [AV.bool (!x17_) = .bool true, CallOK Try.prog ann 43 [.agg (enc23 o1.fValue)] (res43 x17_) (outs43 x17_), AV.bool (o1.fIndex != 0) = .bool false, AV.bool (o1.fKind == 3) = .bool true]) (by kernel_rfl) ⟨congrArg AV.bool c2_, ev43 n _ _ hx17_, congrArg AV.bool c1_, congrArg AV.bool c0_, trivial⟩
      ·
        have e_ := Option.some.inj h8_
        subst e_
        exact run_ret (S := sp59_1) (G := []) (sc := [(8, .eq (.bool true)), (3, .eq (.bool false)), (3, .call 43 (res43 x17_) (outs43 x17_)), (0, .eq (.bool false))]) (obs := [AV.bool (!x17_) = .bool false, CallOK Try.prog ann 43 [.agg (enc23 o1.fValue)] (res43 x17_) (outs43 x17_), AV.bool (o1.fIndex != 0) = .bool false, AV.bool (o1.fKind == 3) = .bool true]) (by kernel_rfl) ⟨congrArg AV.bool c2_, ev43 n _ _ hx17_, congrArg AV.bool c1_, congrArg AV.bool c0_, trivial⟩
  ·
    refine ite_elim h5_ (fun c1_ h9_ => ?_) (fun c1_ h9_ => ?_)
    ·
      exact run_at (S := sp59_1) (G := []) (sc := [(8, .eq (.bool false)), (1, .eq (.bool true))]) (obs := [AV.bool (o1.fKind == 2) = .bool true, AV.bool (o1.fKind == 3) = .bool false]) (by kernel_rfl) ⟨congrArg AV.bool c1_, congrArg AV.bool c0_, trivial⟩ (b59_0 n _ _ _ h9_)
    ·
      refine ite_elim h9_ (fun c2_ h10_ => ?_) (fun c2_ h10_ => ?_)
      ·
        exact run_at (S := sp59_1) (G := []) (sc := [(8, .eq (.bool false)), (1, .eq (.bool false)), (1, .eq (.bool true))]) (obs := [AV.bool (o1.fKind == 1) = .bool true, AV.bool (o1.fKind == 2) = .bool false, AV.bool (o1.fKind == 3) = .bool false]) (by kernel_rfl) ⟨congrArg AV.bool c2_, congrArg AV.bool c1_, congrArg AV.bool c0_, trivial⟩ (b59_0 n _ _ _ h10_)
      ·
        have e_ := Option.some.inj h10_
        subst e_
        exact run_ret (S := sp59_1) (G := []) (sc := [(8, .eq (.bool false)), (1, .eq (.bool false)), (1, .eq (.bool false))]) (obs := [AV.bool (o1.fKind == 1) = .bool false, AV.bool (o1.fKind == 2) = .bool false, AV.bool (o1.fKind == 3) = .bool false]) (by kernel_rfl) ⟨congrArg AV.bool c2_, congrArg AV.bool c1_, congrArg AV.bool c0_, trivial⟩

def F59 (n : Nat) (k0 : Tkinds) (o1 : TOperand) : Option Int := B59_1 n k0 o1
theorem ev59 (n : Nat) (k0 : Tkinds) (o1 : TOperand) (r : Int) (h : F59 n k0 o1 = some r) : CallOK Try.prog ann 59 [.agg (enc64 k0), .agg (enc25 o1)] (res59 r) (outs59 r) :=
  call_of_at (E := e59) (s := st59_1 k0 o1) body59 Try.func59 (by kernel_rfl) (by kernel_rfl) (by kernel_rfl) (by kernel_rfl) (by kernel_rfl) (emptyOK_of (by kernel_rfl)) (by kernel_rfl) (b59_1 n k0 o1 r h)

/-- (partsync/predicate.kinds).valid -/
noncomputable def e37 : Env := { P := Try.prog, ann := ann, f := 37, fn := Try.f37, ptrs := [], rets := [(4, .same)] }
def st37_0 (t76 : (List TPredicate)) (t77 : Int) (t78 : Int) (bk2 : Tkinds) : LS := ⟨[(2, .loc 2 0), (76, .slice .sh (rows28 t76)), (77, .int .i64 t77), (78, .int .i64 t78)], [(2, (enc64 bk2))]⟩
def st37_1  : LS := ⟨[], []⟩
def st37_2 (t50 : Bool) (bk2 : Tkinds) (bp3 : TPredicate) : LS := ⟨[(2, .loc 2 0), (3, .loc 3 0), (50, .bool t50)], [(2, (enc64 bk2)), (3, (enc28 bp3))]⟩
def st37_3 (t76 : (List TPredicate)) (t77 : Int) (t78 : Int) (bk2 : Tkinds) : LS := ⟨[(2, .loc 2 0), (76, .slice .sh (rows28 t76)), (77, .int .i64 t77), (78, .int .i64 t78)], [(2, (enc64 bk2))]⟩
def st37_4  : LS := ⟨[], []⟩
def st37_5 (bk2 : Tkinds) (bp3 : TPredicate) : LS := ⟨[(2, .loc 2 0), (3, .loc 3 0)], [(2, (enc64 bk2)), (3, (enc28 bp3))]⟩
def st37_6 (k0 : Tkinds) (p1 : TPredicate) : LS := ⟨[(0, .agg (enc64 k0)), (1, .agg (enc28 p1))], []⟩
def sp37_0 : Stops := [([0, 1, 0, 1, 1, 1], [(2, .same), (76, .nrm), (77, .same), (78, .same)], [(2, [.nrm, .nrm])]), ([1, 1, 1, 1], [], [])]
def B37_0 (s_37 : Tkinds → TPredicate → Option Bool) (k_1 : Option Bool) (back : (List TPredicate) → Int → Int → Tkinds → Option Bool) (n : Nat) (t76 : (List TPredicate)) (t77 : Int) (t78 : Int) (bk2 : Tkinds) : Option Bool :=
  if decide (t78 < t77) then
    (idx t76 t78).bind fun x2_ =>
    (s_37 bk2 x2_).bind fun x8_ =>
    if !x8_ then
      some false
    else
      back t76 t77 (w64 (t78 + 1)) bk2
  else
    k_1

theorem b37_0 (s_37 : Tkinds → TPredicate → Option Bool) (hs_37 : ∀ (a0_ : Tkinds) (a1_ : TPredicate) (r : Bool), s_37 a0_ a1_ = some r → CallOK Try.prog ann 37 [.agg (enc64 a0_), .agg (enc28 a1_)] (res37 r) (outs37 r)) (k_1 : Option Bool) (hk_1 : ∀  (r : Bool), k_1 = some r → At e37 [1, 1, 1, 1] (st37_1) (res37 r) (outs37 r)) (back : (List TPredicate) → Int → Int → Tkinds → Option Bool) (hback : ∀ (t76 : (List TPredicate)) (t77 : Int) (t78 : Int) (bk2 : Tkinds) (r : Bool), back t76 t77 t78 bk2 = some r → At e37 [0, 1, 0, 1, 1, 1] (st37_0 t76 t77 t78 bk2) (res37 r) (outs37 r)) (n : Nat) (t76 : (List TPredicate)) (t77 : Int) (t78 : Int) (bk2 : Tkinds) (r : Bool) (h : B37_0 s_37 k_1 back n t76 t77 t78 bk2 = some r) : At e37 [0, 1, 0, 1, 1, 1] (st37_0 t76 t77 t78 bk2) (res37 r) (outs37 r) := by
  unfold B37_0 at h
  refine ite_elim h (fun c0_ h1_ => ?_) (fun c0_ h1_ => ?_)
  ·
    refine bind_elim h1_ (fun x2_ hx2_ h2_ => ?_)
    refine bind_elim h2_ (fun x8_ hx8_ h3_ => ?_)
    refine ite_elim h3_ (fun c1_ h4_ => ?_) (fun c1_ h4_ => ?_)
    ·
      have e_ := Option.some.inj h4_
      subst e_
      exact run_ret (S := sp37_0) (G := []) (sc := [(0, .eq (.bool true)), (0, .core ⟨[(80, .imm (enc28 x2_))], []⟩), (5, .call 37 (res37 x8_) (outs37 x8_)), (0, .eq (.bool true))]) (obs := [AV.bool (!x8_) = .bool true, CallOK Try.prog ann 37 [.agg (enc64 bk2), .agg (enc28 x2_)] (res37 x8_) (outs37 x8_), indexAddrA Try.prog an37 (some 80) 27 (.slice .sh (rows28 t76)) (.int .i64 t78) = some ⟨[(80, .imm (enc28 x2_))], []⟩, AV.bool (decide (t78 < t77)) = .bool true]) (by kernel_rfl) ⟨congrArg AV.bool c1_, hs_37 _ _ _ hx8_, R27.idxOb (A := an37) hx2_, congrArg AV.bool c0_, trivial⟩
    ·
      exact run_at (S := sp37_0) (G := []) (sc := [(0, .eq (.bool true)), (0, .core ⟨[(80, .imm (enc28 x2_))], []⟩), (5, .call 37 (res37 x8_) (outs37 x8_)), (0, .eq (.bool false))]) (obs := [AV.bool (!x8_) = .bool false, CallOK Try.prog ann 37 [.agg (enc64 bk2), .agg (enc28 x2_)] (res37 x8_) (outs37 x8_), indexAddrA Try.prog an37 (some 80) 27 (.slice .sh (rows28 t76)) (.int .i64 t78) = some ⟨[(80, .imm (enc28 x2_))], []⟩, AV.bool (decide (t78 < t77)) = .bool true]) (by kernel_rfl) ⟨congrArg AV.bool c1_, hs_37 _ _ _ hx8_, R27.idxOb (A := an37) hx2_, congrArg AV.bool c0_, trivial⟩ (hback _ _ _ _ _ h4_)
  ·
    exact run_at (S := sp37_0) (G := []) (sc := [(0, .eq (.bool false))]) (obs := [AV.bool (decide (t78 < t77)) = .bool false]) (by kernel_rfl) ⟨congrArg AV.bool c0_, trivial⟩ (hk_1 _ h1_)

def L37_0 (s_37 : Tkinds → TPredicate → Option Bool) (k_1 : Option Bool) : Nat → (List TPredicate) → Int → Int → Tkinds → Option Bool
  | 0, _, _, _, _ => none
  | n + 1, t76, t77, t78, bk2 => B37_0 s_37 k_1 (L37_0 s_37 k_1 n) n t76 t77 t78 bk2
theorem l37_0 (s_37 : Tkinds → TPredicate → Option Bool) (hs_37 : ∀ (a0_ : Tkinds) (a1_ : TPredicate) (r : Bool), s_37 a0_ a1_ = some r → CallOK Try.prog ann 37 [.agg (enc64 a0_), .agg (enc28 a1_)] (res37 r) (outs37 r)) (k_1 : Option Bool) (hk_1 : ∀  (r : Bool), k_1 = some r → At e37 [1, 1, 1, 1] (st37_1) (res37 r) (outs37 r)) : ∀ (n : Nat) (t76 : (List TPredicate)) (t77 : Int) (t78 : Int) (bk2 : Tkinds) (r : Bool), L37_0 s_37 k_1 n t76 t77 t78 bk2 = some r → At e37 [0, 1, 0, 1, 1, 1] (st37_0 t76 t77 t78 bk2) (res37 r) (outs37 r)
  | 0, _, _, _, _, _, h => by simp [L37_0] at h
  | n + 1, t76, t77, t78, bk2, r, h => b37_0 s_37 hs_37 k_1 hk_1 (L37_0 s_37 k_1 n) (l37_0 s_37 hs_37 k_1 hk_1 n) n t76 t77 t78 bk2 r h
def sp37_1 : Stops := []
def B37_1 (s_37 : Tkinds → TPredicate → Option Bool) (n : Nat)  : Option Bool :=
  some true

theorem b37_1 (s_37 : Tkinds → TPredicate → Option Bool) (hs_37 : ∀ (a0_ : Tkinds) (a1_ : TPredicate) (r : Bool), s_37 a0_ a1_ = some r → CallOK Try.prog ann 37 [.agg (enc64 a0_), .agg (enc28 a1_)] (res37 r) (outs37 r)) (n : Nat)  (r : Bool) (h : B37_1 s_37 n = some r) : At e37 [1, 1, 1, 1] (st37_1) (res37 r) (outs37 r) := by
  unfold B37_1 at h
  have e_ := Option.some.inj h
  subst e_
  exact run_ret (S := sp37_1) (G := []) (sc := []) (obs := []) (by kernel_rfl) trivial

def sp37_2 : Stops := [([0, 1, 0, 1, 1, 1], [(2, .same), (76, .nrm), (77, .same), (78, .same)], [(2, [.nrm, .nrm])])]
def B37_2 (s_37 : Tkinds → TPredicate → Option Bool) (n : Nat) (t50 : Bool) (bk2 : Tkinds) (bp3 : TPredicate) : Option Bool :=
  if t50 then
    some false
  else
    if bp3.fCmp != 0 then
      some false
    else
      if !((bp3.fLeft.fKind == 0) && ((bp3.fLeft.fIndex == 0) && (((bp3.fLeft.fValue.fKind == 0) && ((bp3.fLeft.fValue.fInt == 0) && ((decide (bp3.fLeft.fValue.fText = ByteArray.empty)) && true))) && true))) then
        some false
      else
        if !((bp3.fRight.fKind == 0) && ((bp3.fRight.fIndex == 0) && (((bp3.fRight.fValue.fKind == 0) && ((bp3.fRight.fValue.fInt == 0) && ((decide (bp3.fRight.fValue.fText = ByteArray.empty)) && true))) && true))) then
          some false
        else
          L37_0 s_37 (B37_1 s_37 n) n bp3.fArgs (bp3.fArgs.length : Int) 0 bk2

theorem b37_2 (s_37 : Tkinds → TPredicate → Option Bool) (hs_37 : ∀ (a0_ : Tkinds) (a1_ : TPredicate) (r : Bool), s_37 a0_ a1_ = some r → CallOK Try.prog ann 37 [.agg (enc64 a0_), .agg (enc28 a1_)] (res37 r) (outs37 r)) (n : Nat) (t50 : Bool) (bk2 : Tkinds) (bp3 : TPredicate) (r : Bool) (h : B37_2 s_37 n t50 bk2 bp3 = some r) : At e37 [1, 0, 1, 1, 1, 0, 1, 0, 1] (st37_2 t50 bk2 bp3) (res37 r) (outs37 r) := by
  unfold B37_2 at h
  refine ite_elim h (fun c0_ h5_ => ?_) (fun c0_ h5_ => ?_)
  ·
    subst c0_
    have e_ := Option.some.inj h5_
    subst e_
    exact run_ret (S := sp37_2) (G := []) (sc := []) (obs := []) (by kernel_rfl) trivial
  ·
    subst c0_
    refine ite_elim h5_ (fun c1_ h6_ => ?_) (fun c1_ h6_ => ?_)
    ·
      have e_ := Option.some.inj h6_
      subst e_
      exact run_ret (S := sp37_2) (G := []) (sc := [(2, .eq (.bool true))]) (obs := [AV.bool (bp3.fCmp != 0) = .bool true]) (by kernel_rfl) ⟨congrArg AV.bool c1_, trivial⟩
    ·
      refine ite_elim h6_ (fun c2_ h7_ => ?_) (fun c2_ h7_ => ?_)
      ·
        have e_ := Option.some.inj h7_
        subst e_
        exact run_ret (S := sp37_2) (G := []) (sc := [(2, .eq (.bool false)), (4, .eq (.bool true))]) (obs := [AV.bool (!((bp3.fLeft.fKind == 0) && ((bp3.fLeft.fIndex == 0) && (((bp3.fLeft.fValue.fKind == 0) && ((bp3.fLeft.fValue.fInt == 0) && ((decide (bp3.fLeft.fValue.fText = ByteArray.empty)) && true))) && true)))) = .bool true, AV.bool (bp3.fCmp != 0) = .bool false]) (by kernel_rfl) ⟨congrArg AV.bool c2_, congrArg AV.bool c1_, trivial⟩
      ·
        refine ite_elim h7_ (fun c3_ h8_ => ?_) (fun c3_ h8_ => ?_)
        ·
          have e_ := Option.some.inj h8_
          subst e_
          exact run_ret (S := sp37_2) (G := []) (sc := [(2, .eq (.bool false)), (4, .eq (.bool false)), (5, .eq (.bool true))]) (obs := [AV.bool (!((bp3.fRight.fKind == 0) && ((bp3.fRight.fIndex == 0) && (((bp3.fRight.fValue.fKind == 0) && ((bp3.fRight.fValue.fInt == 0) && ((decide (bp3.fRight.fValue.fText = ByteArray.empty)) && true))) && true)))) = .bool true, AV.bool (!((bp3.fLeft.fKind == 0) && ((bp3.fLeft.fIndex == 0) && (((bp3.fLeft.fValue.fKind == 0) && ((bp3.fLeft.fValue.fInt == 0) && ((decide (bp3.fLeft.fValue.fText = ByteArray.empty)) && true))) && true)))) = .bool false, AV.bool (bp3.fCmp != 0) = .bool false]) (by kernel_rfl) ⟨congrArg AV.bool c3_, congrArg AV.bool c2_, congrArg AV.bool c1_, trivial⟩
        ·
          exact run_at (S := sp37_2) (G := []) (sc := [(2, .eq (.bool false)), (4, .eq (.bool false)), (5, .eq (.bool false)), (3, .eq (.int .i64 (bp3.fArgs.length : Int)))]) (obs := [AV.int .i64 ((rows28 bp3.fArgs).length : Int) = .int .i64 (bp3.fArgs.length : Int), AV.bool (!((bp3.fRight.fKind == 0) && ((bp3.fRight.fIndex == 0) && (((bp3.fRight.fValue.fKind == 0) && ((bp3.fRight.fValue.fInt == 0) && ((decide (bp3.fRight.fValue.fText = ByteArray.empty)) && true))) && true)))) = .bool false, AV.bool (!((bp3.fLeft.fKind == 0) && ((bp3.fLeft.fIndex == 0) && (((bp3.fLeft.fValue.fKind == 0) && ((bp3.fLeft.fValue.fInt == 0) && ((decide (bp3.fLeft.fValue.fText = ByteArray.empty)) && true))) && true)))) = .bool false, AV.bool (bp3.fCmp != 0) = .bool false]) (by kernel_rfl) ⟨R27.lenOb bp3.fArgs, congrArg AV.bool c3_, congrArg AV.bool c2_, congrArg AV.bool c1_, trivial⟩ (l37_0 s_37 hs_37 (B37_1 s_37 n) (b37_1 s_37 hs_37 n) n _ _ _ _ _ h8_)

def sp37_3 : Stops := [([0, 1, 0, 1, 1, 1], [(2, .same), (76, .nrm), (77, .same), (78, .same)], [(2, [.nrm, .nrm])]), ([1, 1, 1, 1], [], [])]
def B37_3 (s_37 : Tkinds → TPredicate → Option Bool) (k_4 : Option Bool) (back : (List TPredicate) → Int → Int → Tkinds → Option Bool) (n : Nat) (t76 : (List TPredicate)) (t77 : Int) (t78 : Int) (bk2 : Tkinds) : Option Bool :=
  if decide (t78 < t77) then
    (idx t76 t78).bind fun x2_ =>
    (s_37 bk2 x2_).bind fun x8_ =>
    if !x8_ then
      some false
    else
      back t76 t77 (w64 (t78 + 1)) bk2
  else
    k_4

theorem b37_3 (s_37 : Tkinds → TPredicate → Option Bool) (hs_37 : ∀ (a0_ : Tkinds) (a1_ : TPredicate) (r : Bool), s_37 a0_ a1_ = some r → CallOK Try.prog ann 37 [.agg (enc64 a0_), .agg (enc28 a1_)] (res37 r) (outs37 r)) (k_4 : Option Bool) (hk_4 : ∀  (r : Bool), k_4 = some r → At e37 [1, 1, 1, 1] (st37_4) (res37 r) (outs37 r)) (back : (List TPredicate) → Int → Int → Tkinds → Option Bool) (hback : ∀ (t76 : (List TPredicate)) (t77 : Int) (t78 : Int) (bk2 : Tkinds) (r : Bool), back t76 t77 t78 bk2 = some r → At e37 [0, 1, 0, 1, 1, 1] (st37_3 t76 t77 t78 bk2) (res37 r) (outs37 r)) (n : Nat) (t76 : (List TPredicate)) (t77 : Int) (t78 : Int) (bk2 : Tkinds) (r : Bool) (h : B37_3 s_37 k_4 back n t76 t77 t78 bk2 = some r) : At e37 [0, 1, 0, 1, 1, 1] (st37_3 t76 t77 t78 bk2) (res37 r) (outs37 r) := by
  unfold B37_3 at h
  refine ite_elim h (fun c0_ h9_ => ?_) (fun c0_ h9_ => ?_)
  ·
    refine bind_elim h9_ (fun x2_ hx2_ h10_ => ?_)
    refine bind_elim h10_ (fun x8_ hx8_ h11_ => ?_)
    refine ite_elim h11_ (fun c1_ h12_ => ?_) (fun c1_ h12_ => ?_)
    ·
      have e_ := Option.some.inj h12_
      subst e_
      exact run_ret (S := sp37_3) (G := []) (sc := [(0, .eq (.bool true)), (0, .core ⟨[(80, .imm (enc28 x2_))], []⟩), (5, .call 37 (res37 x8_) (outs37 x8_)), (0, .eq (.bool true))]) (obs := [AV.bool (!x8_) = .bool true, CallOK Try.prog ann 37 [.agg (enc64 bk2), .agg (enc28 x2_)] (res37 x8_) (outs37 x8_), indexAddrA Try.prog an37 (some 80) 27 (.slice .sh (rows28 t76)) (.int .i64 t78) = some ⟨[(80, .imm (enc28 x2_))], []⟩, AV.bool (decide (t78 < t77)) = .bool true]) (by kernel_rfl) ⟨congrArg AV.bool c1_, hs_37 _ _ _ hx8_, R27.idxOb (A := an37) hx2_, congrArg AV.bool c0_, trivial⟩
    ·
      exact run_at (S := sp37_3) (G := []) (sc := [(0, .eq (.bool true)), (0, .core ⟨[(80, .imm (enc28 x2_))], []⟩), (5, .call 37 (res37 x8_) (outs37 x8_)), (0, .eq (.bool false))]) (obs := [AV.bool (!x8_) = .bool false, CallOK Try.prog ann 37 [.agg (enc64 bk2), .agg (enc28 x2_)] (res37 x8_) (outs37 x8_), indexAddrA Try.prog an37 (some 80) 27 (.slice .sh (rows28 t76)) (.int .i64 t78) = some ⟨[(80, .imm (enc28 x2_))], []⟩, AV.bool (decide (t78 < t77)) = .bool true]) (by kernel_rfl) ⟨congrArg AV.bool c1_, hs_37 _ _ _ hx8_, R27.idxOb (A := an37) hx2_, congrArg AV.bool c0_, trivial⟩ (hback _ _ _ _ _ h12_)
  ·
    exact run_at (S := sp37_3) (G := []) (sc := [(0, .eq (.bool false))]) (obs := [AV.bool (decide (t78 < t77)) = .bool false]) (by kernel_rfl) ⟨congrArg AV.bool c0_, trivial⟩ (hk_4 _ h9_)

def L37_3 (s_37 : Tkinds → TPredicate → Option Bool) (k_4 : Option Bool) : Nat → (List TPredicate) → Int → Int → Tkinds → Option Bool
  | 0, _, _, _, _ => none
  | n + 1, t76, t77, t78, bk2 => B37_3 s_37 k_4 (L37_3 s_37 k_4 n) n t76 t77 t78 bk2
theorem l37_3 (s_37 : Tkinds → TPredicate → Option Bool) (hs_37 : ∀ (a0_ : Tkinds) (a1_ : TPredicate) (r : Bool), s_37 a0_ a1_ = some r → CallOK Try.prog ann 37 [.agg (enc64 a0_), .agg (enc28 a1_)] (res37 r) (outs37 r)) (k_4 : Option Bool) (hk_4 : ∀  (r : Bool), k_4 = some r → At e37 [1, 1, 1, 1] (st37_4) (res37 r) (outs37 r)) : ∀ (n : Nat) (t76 : (List TPredicate)) (t77 : Int) (t78 : Int) (bk2 : Tkinds) (r : Bool), L37_3 s_37 k_4 n t76 t77 t78 bk2 = some r → At e37 [0, 1, 0, 1, 1, 1] (st37_3 t76 t77 t78 bk2) (res37 r) (outs37 r)
  | 0, _, _, _, _, _, h => by simp [L37_3] at h
  | n + 1, t76, t77, t78, bk2, r, h => b37_3 s_37 hs_37 k_4 hk_4 (L37_3 s_37 k_4 n) (l37_3 s_37 hs_37 k_4 hk_4 n) n t76 t77 t78 bk2 r h
def sp37_4 : Stops := []
def B37_4 (s_37 : Tkinds → TPredicate → Option Bool) (n : Nat)  : Option Bool :=
  some true

theorem b37_4 (s_37 : Tkinds → TPredicate → Option Bool) (hs_37 : ∀ (a0_ : Tkinds) (a1_ : TPredicate) (r : Bool), s_37 a0_ a1_ = some r → CallOK Try.prog ann 37 [.agg (enc64 a0_), .agg (enc28 a1_)] (res37 r) (outs37 r)) (n : Nat)  (r : Bool) (h : B37_4 s_37 n = some r) : At e37 [1, 1, 1, 1] (st37_4) (res37 r) (outs37 r) := by
  unfold B37_4 at h
  have e_ := Option.some.inj h
  subst e_
  exact run_ret (S := sp37_4) (G := []) (sc := []) (obs := []) (by kernel_rfl) trivial

def sp37_5 : Stops := [([0, 1, 0, 1, 1, 1], [(2, .same), (76, .nrm), (77, .same), (78, .same)], [(2, [.nrm, .nrm])])]
def B37_5 (s_37 : Tkinds → TPredicate → Option Bool) (n : Nat) (bk2 : Tkinds) (bp3 : TPredicate) : Option Bool :=
  if bp3.fCmp != 0 then
    some false
  else
    if !((bp3.fLeft.fKind == 0) && ((bp3.fLeft.fIndex == 0) && (((bp3.fLeft.fValue.fKind == 0) && ((bp3.fLeft.fValue.fInt == 0) && ((decide (bp3.fLeft.fValue.fText = ByteArray.empty)) && true))) && true))) then
      some false
    else
      if !((bp3.fRight.fKind == 0) && ((bp3.fRight.fIndex == 0) && (((bp3.fRight.fValue.fKind == 0) && ((bp3.fRight.fValue.fInt == 0) && ((decide (bp3.fRight.fValue.fText = ByteArray.empty)) && true))) && true))) then
        some false
      else
        L37_3 s_37 (B37_4 s_37 n) n bp3.fArgs (bp3.fArgs.length : Int) 0 bk2

theorem b37_5 (s_37 : Tkinds → TPredicate → Option Bool) (hs_37 : ∀ (a0_ : Tkinds) (a1_ : TPredicate) (r : Bool), s_37 a0_ a1_ = some r → CallOK Try.prog ann 37 [.agg (enc64 a0_), .agg (enc28 a1_)] (res37 r) (outs37 r)) (n : Nat) (bk2 : Tkinds) (bp3 : TPredicate) (r : Bool) (h : B37_5 s_37 n bk2 bp3 = some r) : At e37 [1, 1] (st37_5 bk2 bp3) (res37 r) (outs37 r) := by
  unfold B37_5 at h
  refine ite_elim h (fun c0_ h13_ => ?_) (fun c0_ h13_ => ?_)
  ·
    have e_ := Option.some.inj h13_
    subst e_
    exact run_ret (S := sp37_5) (G := []) (sc := [(2, .eq (.bool true))]) (obs := [AV.bool (bp3.fCmp != 0) = .bool true]) (by kernel_rfl) ⟨congrArg AV.bool c0_, trivial⟩
  ·
    refine ite_elim h13_ (fun c1_ h14_ => ?_) (fun c1_ h14_ => ?_)
    ·
      have e_ := Option.some.inj h14_
      subst e_
      exact run_ret (S := sp37_5) (G := []) (sc := [(2, .eq (.bool false)), (4, .eq (.bool true))]) (obs := [AV.bool (!((bp3.fLeft.fKind == 0) && ((bp3.fLeft.fIndex == 0) && (((bp3.fLeft.fValue.fKind == 0) && ((bp3.fLeft.fValue.fInt == 0) && ((decide (bp3.fLeft.fValue.fText = ByteArray.empty)) && true))) && true)))) = .bool true, AV.bool (bp3.fCmp != 0) = .bool false]) (by kernel_rfl) ⟨congrArg AV.bool c1_, congrArg AV.bool c0_, trivial⟩
    ·
      refine ite_elim h14_ (fun c2_ h15_ => ?_) (fun c2_ h15_ => ?_)
      ·
        have e_ := Option.some.inj h15_
        subst e_
        exact run_ret (S := sp37_5) (G := []) (sc := [(2, .eq (.bool false)), (4, .eq (.bool false)), (5, .eq (.bool true))]) (obs := [AV.bool (!((bp3.fRight.fKind == 0) && ((bp3.fRight.fIndex == 0) && (((bp3.fRight.fValue.fKind == 0) && ((bp3.fRight.fValue.fInt == 0) && ((decide (bp3.fRight.fValue.fText = ByteArray.empty)) && true))) && true)))) = .bool true, AV.bool (!((bp3.fLeft.fKind == 0) && ((bp3.fLeft.fIndex == 0) && (((bp3.fLeft.fValue.fKind == 0) && ((bp3.fLeft.fValue.fInt == 0) && ((decide (bp3.fLeft.fValue.fText = ByteArray.empty)) && true))) && true)))) = .bool false, AV.bool (bp3.fCmp != 0) = .bool false]) (by kernel_rfl) ⟨congrArg AV.bool c2_, congrArg AV.bool c1_, congrArg AV.bool c0_, trivial⟩
      ·
        exact run_at (S := sp37_5) (G := []) (sc := [(2, .eq (.bool false)), (4, .eq (.bool false)), (5, .eq (.bool false)), (3, .eq (.int .i64 (bp3.fArgs.length : Int)))]) (obs := [AV.int .i64 ((rows28 bp3.fArgs).length : Int) = .int .i64 (bp3.fArgs.length : Int), AV.bool (!((bp3.fRight.fKind == 0) && ((bp3.fRight.fIndex == 0) && (((bp3.fRight.fValue.fKind == 0) && ((bp3.fRight.fValue.fInt == 0) && ((decide (bp3.fRight.fValue.fText = ByteArray.empty)) && true))) && true)))) = .bool false, AV.bool (!((bp3.fLeft.fKind == 0) && ((bp3.fLeft.fIndex == 0) && (((bp3.fLeft.fValue.fKind == 0) && ((bp3.fLeft.fValue.fInt == 0) && ((decide (bp3.fLeft.fValue.fText = ByteArray.empty)) && true))) && true)))) = .bool false, AV.bool (bp3.fCmp != 0) = .bool false]) (by kernel_rfl) ⟨R27.lenOb bp3.fArgs, congrArg AV.bool c2_, congrArg AV.bool c1_, congrArg AV.bool c0_, trivial⟩ (l37_3 s_37 hs_37 (B37_4 s_37 n) (b37_4 s_37 hs_37 n) n _ _ _ _ _ h15_)

def sp37_6 : Stops := [([1, 0, 1, 1, 1, 0, 1, 0, 1], [(2, .same), (3, .same), (50, .same)], [(2, [.nrm, .nrm]), (3, [.same, .same, .same, .same, .same, .same, .same, .same, .same, .same, .same, .same, .nrm])]), ([1, 1], [(2, .same), (3, .same)], [(2, [.nrm, .nrm]), (3, [.same, .same, .same, .same, .same, .same, .same, .same, .same, .same, .same, .same, .nrm])])]
def B37_6 (s_37 : Tkinds → TPredicate → Option Bool) (n : Nat) (k0 : Tkinds) (p1 : TPredicate) : Option Bool :=
  if p1.fOp == 3 then
    (F59 n k0 p1.fLeft).bind fun x11_ =>
    (F59 n k0 p1.fRight).bind fun x15_ =>
    if (p1.fArgs.length : Int) == 0 then
      if decide (p1.fCmp ≥ 1) then
        if decide (p1.fCmp ≤ 6) then
          if x11_ != 0 then
            some (x11_ == x15_)
          else
            some false
        else
          some false
      else
        some false
    else
      some false
  else
    if p1.fOp == 1 then
      B37_2 s_37 n ((p1.fArgs.length : Int) != 0) k0 p1
    else
      if p1.fOp == 2 then
        B37_2 s_37 n ((p1.fArgs.length : Int) != 0) k0 p1
      else
        if p1.fOp == 6 then
          if (p1.fArgs.length : Int) != 1 then
            some false
          else
            B37_5 s_37 n k0 p1
        else
          if p1.fOp == 4 then
            B37_5 s_37 n k0 p1
          else
            if p1.fOp == 5 then
              B37_5 s_37 n k0 p1
            else
              some false

theorem b37_6 (s_37 : Tkinds → TPredicate → Option Bool) (hs_37 : ∀ (a0_ : Tkinds) (a1_ : TPredicate) (r : Bool), s_37 a0_ a1_ = some r → CallOK Try.prog ann 37 [.agg (enc64 a0_), .agg (enc28 a1_)] (res37 r) (outs37 r)) (n : Nat) (k0 : Tkinds) (p1 : TPredicate) (r : Bool) (h : B37_6 s_37 n k0 p1 = some r) : At e37 [] (st37_6 k0 p1) (res37 r) (outs37 r) := by
  unfold B37_6 at h
  refine ite_elim h (fun c0_ h16_ => ?_) (fun c0_ h16_ => ?_)
  ·
    refine bind_elim h16_ (fun x11_ hx11_ h17_ => ?_)
    refine bind_elim h17_ (fun x15_ hx15_ h18_ => ?_)
    refine ite_elim h18_ (fun c1_ h19_ => ?_) (fun c1_ h19_ => ?_)
    ·
      refine ite_elim h19_ (fun c2_ h20_ => ?_) (fun c2_ h20_ => ?_)
      ·
        refine ite_elim h20_ (fun c3_ h21_ => ?_) (fun c3_ h21_ => ?_)
        ·
          refine ite_elim h21_ (fun c4_ h22_ => ?_) (fun c4_ h22_ => ?_)
          ·
            have e_ := Option.some.inj h22_
            subst e_
            exact run_ret (S := sp37_6) (G := []) (sc := [(5, .eq (.bool true)), (4, .call 59 (res59 x11_) (outs59 x11_)), (3, .call 59 (res59 x15_) (outs59 x15_)), (4, .eq (.int .i64 (p1.fArgs.length : Int))), (0, .eq (.bool true)), (3, .eq (.bool true)), (4, .eq (.bool true)), (3, .eq (.bool true))]) (obs := [AV.bool (x11_ != 0) = .bool true, AV.bool (decide (p1.fCmp ≤ 6)) = .bool true, AV.bool (decide (p1.fCmp ≥ 1)) = .bool true, AV.bool ((p1.fArgs.length : Int) == 0) = .bool true, AV.int .i64 ((rows28 p1.fArgs).length : Int) = .int .i64 (p1.fArgs.length : Int), CallOK Try.prog ann 59 [.agg (enc64 k0), .agg (enc25 p1.fRight)] (res59 x15_) (outs59 x15_), CallOK Try.prog ann 59 [.agg (enc64 k0), .agg (enc25 p1.fLeft)] (res59 x11_) (outs59 x11_), AV.bool (p1.fOp == 3) = .bool true]) (by kernel_rfl) ⟨congrArg AV.bool c4_, congrArg AV.bool c3_, congrArg AV.bool c2_, congrArg AV.bool c1_, R27.lenOb p1.fArgs, ev59 n _ _ _ hx15_, ev59 n _ _ _ hx11_, congrArg AV.bool c0_, trivial⟩
          ·
            have e_ := Option.some.inj h22_
            subst e_
            exact run_ret (S := sp37_6) (G := []) (sc := [(5, .eq (.bool true)), (4, .call 59 (res59 x11_) (outs59 x11_)), (3, .call 59 (res59 x15_) (outs59 x15_)), (4, .eq (.int .i64 (p1.fArgs.length : Int))), (0, .eq (.bool true)), (3, .eq (.bool true)), (4, .eq (.bool true)), (3, .eq (.bool false))]) (obs := [AV.bool (x11_ != 0) = .bool false, AV.bool (decide (p1.fCmp ≤ 6)) = .bool true, AV.bool (decide (p1.fCmp ≥ 1)) = .bool true, AV.bool ((p1.fArgs.length : Int) == 0) = .bool true, AV.int .i64 ((rows28 p1.fArgs).length : Int) = .int .i64 (p1.fArgs.length : Int), CallOK Try.prog ann 59 [.agg (enc64 k0), .agg (enc25 p1.fRight)] (res59 x15_) (outs59 x15_), CallOK Try.prog ann 59 [.agg (enc64 k0), .agg (enc25 p1.fLeft)] (res59 x11_) (outs59 x11_), AV.bool (p1.fOp == 3) = .bool true]) (by kernel_rfl) ⟨congrArg AV.bool c4_, congrArg AV.bool c3_, congrArg AV.bool c2_, congrArg AV.bool c1_, R27.lenOb p1.fArgs, ev59 n _ _ _ hx15_, ev59 n _ _ _ hx11_, congrArg AV.bool c0_, trivial⟩
        ·
          have e_ := Option.some.inj h21_
          subst e_
          exact run_ret (S := sp37_6) (G := []) (sc := [(5, .eq (.bool true)), (4, .call 59 (res59 x11_) (outs59 x11_)), (3, .call 59 (res59 x15_) (outs59 x15_)), (4, .eq (.int .i64 (p1.fArgs.length : Int))), (0, .eq (.bool true)), (3, .eq (.bool true)), (4, .eq (.bool false))]) (obs := [AV.bool (decide (p1.fCmp ≤ 6)) = .bool false, AV.bool (decide (p1.fCmp ≥ 1)) = .bool true, AV.bool ((p1.fArgs.length : Int) == 0) = .bool true, AV.int .i64 ((rows28 p1.fArgs).length : Int) = .int .i64 (p1.fArgs.length : Int), CallOK Try.prog ann 59 [.agg (enc64 k0), .agg (enc25 p1.fRight)] (res59 x15_) (outs59 x15_), CallOK Try.prog ann 59 [.agg (enc64 k0), .agg (enc25 p1.fLeft)] (res59 x11_) (outs59 x11_), AV.bool (p1.fOp == 3) = .bool true]) (by kernel_rfl) ⟨congrArg AV.bool c3_, congrArg AV.bool c2_, congrArg AV.bool c1_, R27.lenOb p1.fArgs, ev59 n _ _ _ hx15_, ev59 n _ _ _ hx11_, congrArg AV.bool c0_, trivial⟩
      ·
        have e_ := Option.some.inj h20_
        subst e_
        exact run_ret (S := sp37_6) (G := []) (sc := [(5, .eq (.bool true)), (4, .call 59 (res59 x11_) (outs59 x11_)), (3, .call 59 (res59 x15_) (outs59 x15_)), (4, .eq (.int .i64 (p1.fArgs.length : Int))), (0, .eq (.bool true)), (3, .eq (.bool false))]) (obs := [AV.bool (decide (p1.fCmp ≥ 1)) = .bool false, AV.bool ((p1.fArgs.length : Int) == 0) = .bool true, AV.int .i64 ((rows28 p1.fArgs).length : Int) = .int .i64 (p1.fArgs.length : Int), CallOK Try.prog ann 59 [.agg (enc64 k0), .agg (enc25 p1.fRight)] (res59 x15_) (outs59 x15_), CallOK Try.prog ann 59 [.agg (enc64 k0), .agg (enc25 p1.fLeft)] (res59 x11_) (outs59 x11_), AV.bool (p1.fOp == 3) = .bool true]) (by kernel_rfl) ⟨congrArg AV.bool c2_, congrArg AV.bool c1_, R27.lenOb p1.fArgs, ev59 n _ _ _ hx15_, ev59 n _ _ _ hx11_, congrArg AV.bool c0_, trivial⟩
    ·
      have e_ := Option.some.inj h19_
      subst e_
      exact run_ret (S := sp37_6) (G := []) (sc := [(5, .eq (.bool true)), (4, .call 59 (res59 x11_) (outs59 x11_)), (3, .call 59 (res59 x15_) (outs59 x15_)), (4, .eq (.int .i64 (p1.fArgs.length : Int))), (0, .eq (.bool false))]) (obs := [AV.bool ((p1.fArgs.length : Int) == 0) = .bool false, AV.int .i64 ((rows28 p1.fArgs).length : Int) = .int .i64 (p1.fArgs.length : Int), CallOK Try.prog ann 59 [.agg (enc64 k0), .agg (enc25 p1.fRight)] (res59 x15_) (outs59 x15_), CallOK Try.prog ann 59 [.agg (enc64 k0), .agg (enc25 p1.fLeft)] (res59 x11_) (outs59 x11_), AV.bool (p1.fOp == 3) = .bool true]) (by kernel_rfl) ⟨congrArg AV.bool c1_, R27.lenOb p1.fArgs, ev59 n _ _ _ hx15_, ev59 n _ _ _ hx11_, congrArg AV.bool c0_, trivial⟩
  ·
    refine ite_elim h16_ (fun c1_ h23_ => ?_) (fun c1_ h23_ => ?_)
    ·
      exact run_at (S := sp37_6) (G := []) (sc := [(5, .eq (.bool false)), (1, .eq (.bool true)), (3, .eq (.int .i64 (p1.fArgs.length : Int)))]) (obs := [AV.int .i64 ((rows28 p1.fArgs).length : Int) = .int .i64 (p1.fArgs.length : Int), AV.bool (p1.fOp == 1) = .bool true, AV.bool (p1.fOp == 3) = .bool false]) (by kernel_rfl) ⟨R27.lenOb p1.fArgs, congrArg AV.bool c1_, congrArg AV.bool c0_, trivial⟩ (b37_2 s_37 hs_37 n _ _ _ _ h23_)
    ·
      refine ite_elim h23_ (fun c2_ h24_ => ?_) (fun c2_ h24_ => ?_)
      ·
        exact run_at (S := sp37_6) (G := []) (sc := [(5, .eq (.bool false)), (1, .eq (.bool false)), (1, .eq (.bool true)), (3, .eq (.int .i64 (p1.fArgs.length : Int)))]) (obs := [AV.int .i64 ((rows28 p1.fArgs).length : Int) = .int .i64 (p1.fArgs.length : Int), AV.bool (p1.fOp == 2) = .bool true, AV.bool (p1.fOp == 1) = .bool false, AV.bool (p1.fOp == 3) = .bool false]) (by kernel_rfl) ⟨R27.lenOb p1.fArgs, congrArg AV.bool c2_, congrArg AV.bool c1_, congrArg AV.bool c0_, trivial⟩ (b37_2 s_37 hs_37 n _ _ _ _ h24_)
      ·
        refine ite_elim h24_ (fun c3_ h25_ => ?_) (fun c3_ h25_ => ?_)
        ·
          refine ite_elim h25_ (fun c4_ h26_ => ?_) (fun c4_ h26_ => ?_)
          ·
            have e_ := Option.some.inj h26_
            subst e_
            exact run_ret (S := sp37_6) (G := []) (sc := [(5, .eq (.bool false)), (1, .eq (.bool false)), (1, .eq (.bool false)), (1, .eq (.bool true)), (3, .eq (.int .i64 (p1.fArgs.length : Int))), (0, .eq (.bool true))]) (obs := [AV.bool ((p1.fArgs.length : Int) != 1) = .bool true, AV.int .i64 ((rows28 p1.fArgs).length : Int) = .int .i64 (p1.fArgs.length : Int), AV.bool (p1.fOp == 6) = .bool true, AV.bool (p1.fOp == 2) = .bool false, AV.bool (p1.fOp == 1) = .bool false, AV.bool (p1.fOp == 3) = .bool false]) (by kernel_rfl) ⟨congrArg AV.bool c4_, R27.lenOb p1.fArgs, congrArg AV.bool c3_, congrArg AV.bool c2_, congrArg AV.bool c1_, congrArg AV.bool c0_, trivial⟩
          ·
            exact run_at (S := sp37_6) (G := []) (sc := [(5, .eq (.bool false)), (1, .eq (.bool false)), (1, .eq (.bool false)), (1, .eq (.bool true)), (3, .eq (.int .i64 (p1.fArgs.length : Int))), (0, .eq (.bool false))]) (obs := [AV.bool ((p1.fArgs.length : Int) != 1) = .bool false, AV.int .i64 ((rows28 p1.fArgs).length : Int) = .int .i64 (p1.fArgs.length : Int), AV.bool (p1.fOp == 6) = .bool true, AV.bool (p1.fOp == 2) = .bool false, AV.bool (p1.fOp == 1) = .bool false, AV.bool (p1.fOp == 3) = .bool false]) (by kernel_rfl) ⟨congrArg AV.bool c4_, R27.lenOb p1.fArgs, congrArg AV.bool c3_, congrArg AV.bool c2_, congrArg AV.bool c1_, congrArg AV.bool c0_, trivial⟩ (b37_5 s_37 hs_37 n _ _ _ h26_)
        ·
          refine ite_elim h25_ (fun c4_ h27_ => ?_) (fun c4_ h27_ => ?_)
          ·
            exact run_at (S := sp37_6) (G := []) (sc := [(5, .eq (.bool false)), (1, .eq (.bool false)), (1, .eq (.bool false)), (1, .eq (.bool false)), (1, .eq (.bool true))]) (obs := [AV.bool (p1.fOp == 4) = .bool true, AV.bool (p1.fOp == 6) = .bool false, AV.bool (p1.fOp == 2) = .bool false, AV.bool (p1.fOp == 1) = .bool false, AV.bool (p1.fOp == 3) = .bool false]) (by kernel_rfl) ⟨congrArg AV.bool c4_, congrArg AV.bool c3_, congrArg AV.bool c2_, congrArg AV.bool c1_, congrArg AV.bool c0_, trivial⟩ (b37_5 s_37 hs_37 n _ _ _ h27_)
          ·
            refine ite_elim h27_ (fun c5_ h28_ => ?_) (fun c5_ h28_ => ?_)
            ·
              exact run_at (S := sp37_6) (G := []) (sc := [(5, .eq (.bool false)), (1, .eq (.bool false)), (1, .eq (.bool false)), (1, .eq (.bool false)), (1, .eq (.bool false)), (1, .eq (.bool true))]) (obs := [AV.bool (p1.fOp == 5) = .bool true, AV.bool (p1.fOp == 4) = .bool false, AV.bool (p1.fOp == 6) = .bool false, AV.bool (p1.fOp == 2) = .bool false, AV.bool (p1.fOp == 1) = .bool false, AV.bool (p1.fOp == 3) = .bool false]) (by kernel_rfl) ⟨congrArg AV.bool c5_, congrArg AV.bool c4_, congrArg AV.bool c3_, congrArg AV.bool c2_, congrArg AV.bool c1_, congrArg AV.bool c0_, trivial⟩ (b37_5 s_37 hs_37 n _ _ _ h28_)
            ·
              have e_ := Option.some.inj h28_
              subst e_
              exact run_ret (S := sp37_6) (G := []) (sc := [(5, .eq (.bool false)), (1, .eq (.bool false)), (1, .eq (.bool false)), (1, .eq (.bool false)), (1, .eq (.bool false)), (1, .eq (.bool false))]) (obs := [AV.bool (p1.fOp == 5) = .bool false, AV.bool (p1.fOp == 4) = .bool false, AV.bool (p1.fOp == 6) = .bool false, AV.bool (p1.fOp == 2) = .bool false, AV.bool (p1.fOp == 1) = .bool false, AV.bool (p1.fOp == 3) = .bool false]) (by kernel_rfl) ⟨congrArg AV.bool c5_, congrArg AV.bool c4_, congrArg AV.bool c3_, congrArg AV.bool c2_, congrArg AV.bool c1_, congrArg AV.bool c0_, trivial⟩

def F37 : Nat → Tkinds → TPredicate → Option Bool
  | 0, _, _ => none
  | n + 1, k0, p1 => B37_6 (F37 n) n k0 p1
theorem ev37 : ∀ (n : Nat) (k0 : Tkinds) (p1 : TPredicate) (r : Bool), F37 n k0 p1 = some r → CallOK Try.prog ann 37 [.agg (enc64 k0), .agg (enc28 p1)] (res37 r) (outs37 r)
  | 0, _, _, _, h => by simp [F37] at h
  | n + 1, k0, p1, r, h => call_of_at (E := e37) (s := st37_6 k0 p1) body37 Try.func37 (by kernel_rfl) (by kernel_rfl) (by kernel_rfl) (by kernel_rfl) (by kernel_rfl) (emptyOK_of (by kernel_rfl)) (by kernel_rfl) (b37_6 (F37 n) (ev37 n) n k0 p1 r h)

/-- partsync/predicate.Check -/
noncomputable def e15 : Env := { P := Try.prog, ann := ann, f := 15, fn := Try.f15, ptrs := [], rets := [(6, .same)] }
def st15_0 (columns0 : (List Int)) (params1 : (List Int)) (p2 : TPredicate) : LS := ⟨[(0, .slice .sh (rows3 columns0)), (1, .slice .sh (rows3 params1)), (2, .agg (enc28 p2))], []⟩
def sp15_0 : Stops := []
def B15_0 (n : Nat) (columns0 : (List Int)) (params1 : (List Int)) (p2 : TPredicate) : Option Int :=
  (F35 n columns0).bind fun x4_ =>
  if !x4_ then
    some 1
  else
    (F35 n params1).bind fun x8_ =>
    if !x8_ then
      some 1
    else
      (F36 n p2 1 24).bind fun x14_ =>
      if !x14_.1 then
        some 2
      else
        (F37 n (Tkinds.mk columns0 params1) p2).bind fun x20_ =>
        if !x20_ then
          some 50
        else
          some 0

theorem b15_0 (n : Nat) (columns0 : (List Int)) (params1 : (List Int)) (p2 : TPredicate) (r : Int) (h : B15_0 n columns0 params1 p2 = some r) : At e15 [] (st15_0 columns0 params1 p2) (res15 r) (outs15 r) := by
  unfold B15_0 at h
  refine bind_elim h (fun x4_ hx4_ h1_ => ?_)
  refine ite_elim h1_ (fun c0_ h2_ => ?_) (fun c0_ h2_ => ?_)
  ·
    have e_ := Option.some.inj h2_
    subst e_
    exact run_ret (S := sp15_0) (G := []) (sc := [(3, .call 35 (res35 x4_) (outs35 x4_)), (0, .eq (.bool true))]) (obs := [AV.bool (!x4_) = .bool true, CallOK Try.prog ann 35 [.slice .sh (rows3 columns0)] (res35 x4_) (outs35 x4_)]) (by kernel_rfl) ⟨congrArg AV.bool c0_, ev35 n _ _ hx4_, trivial⟩
  ·
    refine bind_elim h2_ (fun x8_ hx8_ h3_ => ?_)
    refine ite_elim h3_ (fun c1_ h4_ => ?_) (fun c1_ h4_ => ?_)
    ·
      have e_ := Option.some.inj h4_
      subst e_
      exact run_ret (S := sp15_0) (G := []) (sc := [(3, .call 35 (res35 x4_) (outs35 x4_)), (0, .eq (.bool false)), (2, .call 35 (res35 x8_) (outs35 x8_)), (0, .eq (.bool true))]) (obs := [AV.bool (!x8_) = .bool true, CallOK Try.prog ann 35 [.slice .sh (rows3 params1)] (res35 x8_) (outs35 x8_), AV.bool (!x4_) = .bool false, CallOK Try.prog ann 35 [.slice .sh (rows3 columns0)] (res35 x4_) (outs35 x4_)]) (by kernel_rfl) ⟨congrArg AV.bool c1_, ev35 n _ _ hx8_, congrArg AV.bool c0_, ev35 n _ _ hx4_, trivial⟩
    ·
      refine bind_elim h4_ (fun x14_ hx14_ h5_ => ?_)
      refine ite_elim h5_ (fun c2_ h6_ => ?_) (fun c2_ h6_ => ?_)
      ·
        have e_ := Option.some.inj h6_
        subst e_
        exact run_ret (S := sp15_0) (G := []) (sc := [(3, .call 35 (res35 x4_) (outs35 x4_)), (0, .eq (.bool false)), (2, .call 35 (res35 x8_) (outs35 x8_)), (0, .eq (.bool false)), (4, .call 36 (res36 x14_) (outs36 x14_)), (0, .eq (.bool true))]) (obs := [AV.bool (!x14_.1) = .bool true, CallOK Try.prog ann 36 [.agg (enc28 p2), .int .i64 1, .ptr [.int .i64 24]] (res36 x14_) (outs36 x14_), AV.bool (!x8_) = .bool false, CallOK Try.prog ann 35 [.slice .sh (rows3 params1)] (res35 x8_) (outs35 x8_), AV.bool (!x4_) = .bool false, CallOK Try.prog ann 35 [.slice .sh (rows3 columns0)] (res35 x4_) (outs35 x4_)]) (by kernel_rfl) ⟨congrArg AV.bool c2_, ev36 n _ _ _ _ hx14_, congrArg AV.bool c1_, ev35 n _ _ hx8_, congrArg AV.bool c0_, ev35 n _ _ hx4_, trivial⟩
      ·
        refine bind_elim h6_ (fun x20_ hx20_ h7_ => ?_)
        refine ite_elim h7_ (fun c3_ h8_ => ?_) (fun c3_ h8_ => ?_)
        ·
          have e_ := Option.some.inj h8_
          subst e_
          exact run_ret (S := sp15_0) (G := []) (sc := [(3, .call 35 (res35 x4_) (outs35 x4_)), (0, .eq (.bool false)), (2, .call 35 (res35 x8_) (outs35 x8_)), (0, .eq (.bool false)), (4, .call 36 (res36 x14_) (outs36 x14_)), (0, .eq (.bool false)), (4, .call 37 (res37 x20_) (outs37 x20_)), (0, .eq (.bool true))]) (obs := [AV.bool (!x20_) = .bool true, CallOK Try.prog ann 37 [.agg [.slice .sh (rows3 columns0), .slice .sh (rows3 params1)], .agg (enc28 p2)] (res37 x20_) (outs37 x20_), AV.bool (!x14_.1) = .bool false, CallOK Try.prog ann 36 [.agg (enc28 p2), .int .i64 1, .ptr [.int .i64 24]] (res36 x14_) (outs36 x14_), AV.bool (!x8_) = .bool false, CallOK Try.prog ann 35 [.slice .sh (rows3 params1)] (res35 x8_) (outs35 x8_), AV.bool (!x4_) = .bool false, CallOK Try.prog ann 35 [.slice .sh (rows3 columns0)] (res35 x4_) (outs35 x4_)]) (by kernel_rfl) ⟨congrArg AV.bool c3_, ev37 n _ _ _ hx20_, congrArg AV.bool c2_, ev36 n _ _ _ _ hx14_, congrArg AV.bool c1_, ev35 n _ _ hx8_, congrArg AV.bool c0_, ev35 n _ _ hx4_, trivial⟩
        ·
          have e_ := Option.some.inj h8_
          subst e_
          exact run_ret (S := sp15_0) (G := []) (sc := [(3, .call 35 (res35 x4_) (outs35 x4_)), (0, .eq (.bool false)), (2, .call 35 (res35 x8_) (outs35 x8_)), (0, .eq (.bool false)), (4, .call 36 (res36 x14_) (outs36 x14_)), (0, .eq (.bool false)), (4, .call 37 (res37 x20_) (outs37 x20_)), (0, .eq (.bool false))]) (obs := [AV.bool (!x20_) = .bool false, CallOK Try.prog ann 37 [.agg [.slice .sh (rows3 columns0), .slice .sh (rows3 params1)], .agg (enc28 p2)] (res37 x20_) (outs37 x20_), AV.bool (!x14_.1) = .bool false, CallOK Try.prog ann 36 [.agg (enc28 p2), .int .i64 1, .ptr [.int .i64 24]] (res36 x14_) (outs36 x14_), AV.bool (!x8_) = .bool false, CallOK Try.prog ann 35 [.slice .sh (rows3 params1)] (res35 x8_) (outs35 x8_), AV.bool (!x4_) = .bool false, CallOK Try.prog ann 35 [.slice .sh (rows3 columns0)] (res35 x4_) (outs35 x4_)]) (by kernel_rfl) ⟨congrArg AV.bool c3_, ev37 n _ _ _ hx20_, congrArg AV.bool c2_, ev36 n _ _ _ _ hx14_, congrArg AV.bool c1_, ev35 n _ _ hx8_, congrArg AV.bool c0_, ev35 n _ _ hx4_, trivial⟩

def F15 (n : Nat) (columns0 : (List Int)) (params1 : (List Int)) (p2 : TPredicate) : Option Int := B15_0 n columns0 params1 p2
theorem ev15 (n : Nat) (columns0 : (List Int)) (params1 : (List Int)) (p2 : TPredicate) (r : Int) (h : F15 n columns0 params1 p2 = some r) : CallOK Try.prog ann 15 [.slice .sh (rows3 columns0), .slice .sh (rows3 params1), .agg (enc28 p2)] (res15 r) (outs15 r) :=
  call_of_at (E := e15) (s := st15_0 columns0 params1 p2) body15 Try.func15 (by kernel_rfl) (by kernel_rfl) (by kernel_rfl) (by kernel_rfl) (by kernel_rfl) (emptyOK_of (by kernel_rfl)) (by kernel_rfl) (b15_0 n columns0 params1 p2 r h)

/-- partsync/predicate.denoted -/
noncomputable def e42 : Env := { P := Try.prog, ann := ann, f := 42, fn := Try.f42, ptrs := [], rets := [(6, .same)] }
def st42_0 (list7 : (List TValue)) (bo3 : TOperand) : LS := ⟨[(3, .loc 3 0), (6, .loc 6 0), (7, .slice .sh (rows23 list7))], [(3, (enc25 bo3)), (6, [.int .i64 0, .int .i64 0, .str ByteArray.empty])]⟩
def st42_1 (o0 : TOperand) (row1 : (List TValue)) (params2 : (List TValue)) : LS := ⟨[(0, .agg (enc25 o0)), (1, .slice .sh (rows23 row1)), (2, .slice .sh (rows23 params2))], []⟩
def sp42_0 : Stops := []
def B42_0 (n : Nat) (list7 : (List TValue)) (bo3 : TOperand) : Option TValue :=
  if decide (bo3.fIndex < 0) then
    some (TValue.mk 0 0 ByteArray.empty)
  else
    if decide (bo3.fIndex ≥ (list7.length : Int)) then
      some (TValue.mk 0 0 ByteArray.empty)
    else
      (idx list7 bo3.fIndex).bind fun x14_ =>
      some x14_

theorem b42_0 (n : Nat) (list7 : (List TValue)) (bo3 : TOperand) (r : TValue) (h : B42_0 n list7 bo3 = some r) : At e42 [1, 1, 1] (st42_0 list7 bo3) (res42 r) (outs42 r) := by
  unfold B42_0 at h
  refine ite_elim h (fun c0_ h1_ => ?_) (fun c0_ h1_ => ?_)
  ·
    have e_ := Option.some.inj h1_
    subst e_
    exact run_ret (S := sp42_0) (G := []) (sc := [(2, .eq (.bool true))]) (obs := [AV.bool (decide (bo3.fIndex < 0)) = .bool true]) (by kernel_rfl) ⟨congrArg AV.bool c0_, trivial⟩
  ·
    refine ite_elim h1_ (fun c1_ h2_ => ?_) (fun c1_ h2_ => ?_)
    ·
      have e_ := Option.some.inj h2_
      subst e_
      exact run_ret (S := sp42_0) (G := []) (sc := [(2, .eq (.bool false)), (4, .eq (.int .i64 (list7.length : Int))), (0, .eq (.bool true))]) (obs := [AV.bool (decide (bo3.fIndex ≥ (list7.length : Int))) = .bool true, AV.int .i64 ((rows23 list7).length : Int) = .int .i64 (list7.length : Int), AV.bool (decide (bo3.fIndex < 0)) = .bool false]) (by kernel_rfl) ⟨congrArg AV.bool c1_, R40.lenOb list7, congrArg AV.bool c0_, trivial⟩
    ·
      refine bind_elim h2_ (fun x14_ hx14_ h3_ => ?_)
      have e_ := Option.some.inj h3_
      subst e_
      exact run_ret (S := sp42_0) (G := []) (sc := [(2, .eq (.bool false)), (4, .eq (.int .i64 (list7.length : Int))), (0, .eq (.bool false)), (4, .core ⟨[(35, .imm (enc23 x14_))], []⟩)]) (obs := [indexAddrA Try.prog an42 (some 35) 40 (.slice .sh (rows23 list7)) (.int .i64 bo3.fIndex) = some ⟨[(35, .imm (enc23 x14_))], []⟩, AV.bool (decide (bo3.fIndex ≥ (list7.length : Int))) = .bool false, AV.int .i64 ((rows23 list7).length : Int) = .int .i64 (list7.length : Int), AV.bool (decide (bo3.fIndex < 0)) = .bool false]) (by kernel_rfl) ⟨R40.idxOb (A := an42) hx14_, congrArg AV.bool c1_, R40.lenOb list7, congrArg AV.bool c0_, trivial⟩

def sp42_1 : Stops := [([1, 1, 1], [(3, .same), (6, .same), (7, .nrm)], [(3, [.same, .same, .same, .same, .same]), (6, [])])]
def B42_1 (n : Nat) (o0 : TOperand) (row1 : (List TValue)) (params2 : (List TValue)) : Option TValue :=
  if o0.fKind == 3 then
    some o0.fValue
  else
    if o0.fKind == 2 then
      B42_0 n params2 o0
    else
      if o0.fKind == 1 then
        B42_0 n row1 o0
      else
        some (TValue.mk 0 0 ByteArray.empty)

theorem b42_1 (n : Nat) (o0 : TOperand) (row1 : (List TValue)) (params2 : (List TValue)) (r : TValue) (h : B42_1 n o0 row1 params2 = some r) : At e42 [] (st42_1 o0 row1 params2) (res42 r) (outs42 r) := by
  unfold B42_1 at h
  refine ite_elim h (fun c0_ h4_ => ?_) (fun c0_ h4_ => ?_)
  ·
    have e_ := Option.some.inj h4_
    subst e_
    exact run_ret (S := sp42_1) (G := []) (sc := [(6, .eq (.bool true))]) (obs := [AV.bool (o0.fKind == 3) = .bool true]) (by kernel_rfl) ⟨congrArg AV.bool c0_, trivial⟩
  ·
    refine ite_elim h4_ (fun c1_ h5_ => ?_) (fun c1_ h5_ => ?_)
    ·
      exact run_at (S := sp42_1) (G := []) (sc := [(6, .eq (.bool false)), (1, .eq (.bool true))]) (obs := [AV.bool (o0.fKind == 2) = .bool true, AV.bool (o0.fKind == 3) = .bool false]) (by kernel_rfl) ⟨congrArg AV.bool c1_, congrArg AV.bool c0_, trivial⟩ (b42_0 n _ _ _ h5_)
    ·
      refine ite_elim h5_ (fun c2_ h6_ => ?_) (fun c2_ h6_ => ?_)
      ·
        exact run_at (S := sp42_1) (G := []) (sc := [(6, .eq (.bool false)), (1, .eq (.bool false)), (1, .eq (.bool true))]) (obs := [AV.bool (o0.fKind == 1) = .bool true, AV.bool (o0.fKind == 2) = .bool false, AV.bool (o0.fKind == 3) = .bool false]) (by kernel_rfl) ⟨congrArg AV.bool c2_, congrArg AV.bool c1_, congrArg AV.bool c0_, trivial⟩ (b42_0 n _ _ _ h6_)
      ·
        have e_ := Option.some.inj h6_
        subst e_
        exact run_ret (S := sp42_1) (G := []) (sc := [(6, .eq (.bool false)), (1, .eq (.bool false)), (1, .eq (.bool false))]) (obs := [AV.bool (o0.fKind == 1) = .bool false, AV.bool (o0.fKind == 2) = .bool false, AV.bool (o0.fKind == 3) = .bool false]) (by kernel_rfl) ⟨congrArg AV.bool c2_, congrArg AV.bool c1_, congrArg AV.bool c0_, trivial⟩

def F42 (n : Nat) (o0 : TOperand) (row1 : (List TValue)) (params2 : (List TValue)) : Option TValue := B42_1 n o0 row1 params2
theorem ev42 (n : Nat) (o0 : TOperand) (row1 : (List TValue)) (params2 : (List TValue)) (r : TValue) (h : F42 n o0 row1 params2 = some r) : CallOK Try.prog ann 42 [.agg (enc25 o0), .slice .sh (rows23 row1), .slice .sh (rows23 params2)] (res42 r) (outs42 r) :=
  call_of_at (E := e42) (s := st42_1 o0 row1 params2) body42 Try.func42 (by kernel_rfl) (by kernel_rfl) (by kernel_rfl) (by kernel_rfl) (by kernel_rfl) (emptyOK_of (by kernel_rfl)) (by kernel_rfl) (b42_1 n o0 row1 params2 r h)

/-- partsync/predicate.comparison -/
noncomputable def e44 : Env := { P := Try.prog, ann := ann, f := 44, fn := Try.f44, ptrs := [], rets := [(2, .same)] }
def st44_0 (number0 : Int) : LS := ⟨[(0, .int .i64 number0)], []⟩
def sp44_0 : Stops := []
def B44_0 (n : Nat) (number0 : Int) : Option Nat :=
  if decide (number0 < 0) then
    some 0
  else
    if decide (number0 ≥ 7) then
      some 0
    else
      if number0 == 0 then
        some 0
      else
        if number0 == 1 then
          some 64
        else
          if number0 == 2 then
            some 65
          else
            if number0 == 3 then
              some 66
            else
              if number0 == 4 then
                some 67
              else
                if number0 == 5 then
                  some 68
                else
                  if number0 == 6 then
                    some 69
                  else
                    none

theorem b44_0 (n : Nat) (number0 : Int) (r : Nat) (h : B44_0 n number0 = some r) : At e44 [] (st44_0 number0) (res44 r) (outs44 r) := by
  unfold B44_0 at h
  refine ite_elim h (fun c0_ h1_ => ?_) (fun c0_ h1_ => ?_)
  ·
    have e_ := Option.some.inj h1_
    subst e_
    exact run_ret (S := sp44_0) (G := []) (sc := [(5, .eq (.bool true))]) (obs := [AV.bool (decide (number0 < 0)) = .bool true]) (by kernel_rfl) ⟨congrArg AV.bool c0_, trivial⟩
  ·
    refine ite_elim h1_ (fun c1_ h2_ => ?_) (fun c1_ h2_ => ?_)
    ·
      have e_ := Option.some.inj h2_
      subst e_
      exact run_ret (S := sp44_0) (G := []) (sc := [(5, .eq (.bool false)), (2, .eq (.bool true))]) (obs := [AV.bool (decide (number0 ≥ 7)) = .bool true, AV.bool (decide (number0 < 0)) = .bool false]) (by kernel_rfl) ⟨congrArg AV.bool c1_, congrArg AV.bool c0_, trivial⟩
    ·
      refine ite_elim h2_ (fun c2_ h3_ => ?_) (fun c2_ h3_ => ?_)
      ·
        have c2_ := eq_of_beq c2_
        subst c2_
        have e_ := Option.some.inj h3_
        subst e_
        exact run_ret (S := sp44_0) (G := []) (sc := []) (obs := []) (by kernel_rfl) trivial
      ·
        refine ite_elim h3_ (fun c3_ h4_ => ?_) (fun c3_ h4_ => ?_)
        ·
          have c3_ := eq_of_beq c3_
          subst c3_
          have e_ := Option.some.inj h4_
          subst e_
          exact run_ret (S := sp44_0) (G := []) (sc := []) (obs := []) (by kernel_rfl) trivial
        ·
          refine ite_elim h4_ (fun c4_ h5_ => ?_) (fun c4_ h5_ => ?_)
          ·
            have c4_ := eq_of_beq c4_
            subst c4_
            have e_ := Option.some.inj h5_
            subst e_
            exact run_ret (S := sp44_0) (G := []) (sc := []) (obs := []) (by kernel_rfl) trivial
          ·
            refine ite_elim h5_ (fun c5_ h6_ => ?_) (fun c5_ h6_ => ?_)
            ·
              have c5_ := eq_of_beq c5_
              subst c5_
              have e_ := Option.some.inj h6_
              subst e_
              exact run_ret (S := sp44_0) (G := []) (sc := []) (obs := []) (by kernel_rfl) trivial
            ·
              refine ite_elim h6_ (fun c6_ h7_ => ?_) (fun c6_ h7_ => ?_)
              ·
                have c6_ := eq_of_beq c6_
                subst c6_
                have e_ := Option.some.inj h7_
                subst e_
                exact run_ret (S := sp44_0) (G := []) (sc := []) (obs := []) (by kernel_rfl) trivial
              ·
                refine ite_elim h7_ (fun c7_ h8_ => ?_) (fun c7_ h8_ => ?_)
                ·
                  have c7_ := eq_of_beq c7_
                  subst c7_
                  have e_ := Option.some.inj h8_
                  subst e_
                  exact run_ret (S := sp44_0) (G := []) (sc := []) (obs := []) (by kernel_rfl) trivial
                ·
                  refine ite_elim h8_ (fun c8_ h9_ => ?_) (fun c8_ h9_ => ?_)
                  ·
                    have c8_ := eq_of_beq c8_
                    subst c8_
                    have e_ := Option.some.inj h9_
                    subst e_
                    exact run_ret (S := sp44_0) (G := []) (sc := []) (obs := []) (by kernel_rfl) trivial
                  ·
                    cases h9_

def F44 (n : Nat) (number0 : Int) : Option Nat := B44_0 n number0
theorem ev44 (n : Nat) (number0 : Int) (r : Nat) (h : F44 n number0 = some r) : CallOK Try.prog ann 44 [.int .i64 number0] (res44 r) (outs44 r) :=
  call_of_at (E := e44) (s := st44_0 number0) body44 Try.func44 (by kernel_rfl) (by kernel_rfl) (by kernel_rfl) (by kernel_rfl) (by kernel_rfl) (emptyOK_of (by kernel_rfl)) (by kernel_rfl) (b44_0 n number0 r h)

/-- cmp.isNaN[int] -/
noncomputable def e77 : Env := { P := Try.prog, ann := ann, f := 77, fn := Try.f77, ptrs := [], rets := [(2, .same)] }
def st77_0 (x0 : Int) : LS := ⟨[(0, .int .i64 x0)], []⟩
def sp77_0 : Stops := []
def B77_0 (n : Nat) (x0 : Int) : Option Bool :=
  some (x0 != x0)

theorem b77_0 (n : Nat) (x0 : Int) (r : Bool) (h : B77_0 n x0 = some r) : At e77 [] (st77_0 x0) (res77 r) (outs77 r) := by
  unfold B77_0 at h
  have e_ := Option.some.inj h
  subst e_
  exact run_ret (S := sp77_0) (G := []) (sc := []) (obs := []) (by kernel_rfl) trivial

def F77 (n : Nat) (x0 : Int) : Option Bool := B77_0 n x0
theorem ev77 (n : Nat) (x0 : Int) (r : Bool) (h : F77 n x0 = some r) : CallOK Try.prog ann 77 [.int .i64 x0] (res77 r) (outs77 r) :=
  call_of_at (E := e77) (s := st77_0 x0) body77 Try.func77 (by kernel_rfl) (by kernel_rfl) (by kernel_rfl) (by kernel_rfl) (by kernel_rfl) (emptyOK_of (by kernel_rfl)) (by kernel_rfl) (b77_0 n x0 r h)

/-- cmp.Compare[int] -/
noncomputable def e70 : Env := { P := Try.prog, ann := ann, f := 70, fn := Try.f70, ptrs := [], rets := [(4, .same)] }
def st70_0 (x0 : Int) (y1 : Int) : LS := ⟨[(0, .int .i64 x0), (1, .int .i64 y1)], []⟩
def sp70_0 : Stops := []
def B70_0 (n : Nat) (x0 : Int) (y1 : Int) : Option Int :=
  (F77 n x0).bind fun x3_ =>
  (F77 n y1).bind fun x6_ =>
  if x3_ then
    if x6_ then
      some 0
    else
      some (-1)
  else
    if x6_ then
      some 1
    else
      if decide (x0 < y1) then
        some (-1)
      else
        if decide (x0 > y1) then
          some 1
        else
          some 0

theorem b70_0 (n : Nat) (x0 : Int) (y1 : Int) (r : Int) (h : B70_0 n x0 y1 = some r) : At e70 [] (st70_0 x0 y1) (res70 r) (outs70 r) := by
  unfold B70_0 at h
  refine bind_elim h (fun x3_ hx3_ h1_ => ?_)
  refine bind_elim h1_ (fun x6_ hx6_ h2_ => ?_)
  refine ite_elim h2_ (fun c0_ h3_ => ?_) (fun c0_ h3_ => ?_)
  ·
    subst c0_
    refine ite_elim h3_ (fun c1_ h4_ => ?_) (fun c1_ h4_ => ?_)
    ·
      subst c1_
      have e_ := Option.some.inj h4_
      subst e_
      exact run_ret (S := sp70_0) (G := []) (sc := [(2, .call 77 (res77 true) (outs77 true)), (2, .call 77 (res77 true) (outs77 true))]) (obs := [CallOK Try.prog ann 77 [.int .i64 y1] (res77 true) (outs77 true), CallOK Try.prog ann 77 [.int .i64 x0] (res77 true) (outs77 true)]) (by kernel_rfl) ⟨ev77 n _ _ hx6_, ev77 n _ _ hx3_, trivial⟩
    ·
      subst c1_
      have e_ := Option.some.inj h4_
      subst e_
      exact run_ret (S := sp70_0) (G := []) (sc := [(2, .call 77 (res77 true) (outs77 true)), (2, .call 77 (res77 false) (outs77 false))]) (obs := [CallOK Try.prog ann 77 [.int .i64 y1] (res77 false) (outs77 false), CallOK Try.prog ann 77 [.int .i64 x0] (res77 true) (outs77 true)]) (by kernel_rfl) ⟨ev77 n _ _ hx6_, ev77 n _ _ hx3_, trivial⟩
  ·
    subst c0_
    refine ite_elim h3_ (fun c1_ h5_ => ?_) (fun c1_ h5_ => ?_)
    ·
      subst c1_
      have e_ := Option.some.inj h5_
      subst e_
      exact run_ret (S := sp70_0) (G := []) (sc := [(2, .call 77 (res77 false) (outs77 false)), (2, .call 77 (res77 true) (outs77 true))]) (obs := [CallOK Try.prog ann 77 [.int .i64 y1] (res77 true) (outs77 true), CallOK Try.prog ann 77 [.int .i64 x0] (res77 false) (outs77 false)]) (by kernel_rfl) ⟨ev77 n _ _ hx6_, ev77 n _ _ hx3_, trivial⟩
    ·
      subst c1_
      refine ite_elim h5_ (fun c2_ h6_ => ?_) (fun c2_ h6_ => ?_)
      ·
        have e_ := Option.some.inj h6_
        subst e_
        exact run_ret (S := sp70_0) (G := []) (sc := [(2, .call 77 (res77 false) (outs77 false)), (2, .call 77 (res77 false) (outs77 false)), (5, .eq (.bool true))]) (obs := [AV.bool (decide (x0 < y1)) = .bool true, CallOK Try.prog ann 77 [.int .i64 y1] (res77 false) (outs77 false), CallOK Try.prog ann 77 [.int .i64 x0] (res77 false) (outs77 false)]) (by kernel_rfl) ⟨congrArg AV.bool c2_, ev77 n _ _ hx6_, ev77 n _ _ hx3_, trivial⟩
      ·
        refine ite_elim h6_ (fun c3_ h7_ => ?_) (fun c3_ h7_ => ?_)
        ·
          have e_ := Option.some.inj h7_
          subst e_
          exact run_ret (S := sp70_0) (G := []) (sc := [(2, .call 77 (res77 false) (outs77 false)), (2, .call 77 (res77 false) (outs77 false)), (5, .eq (.bool false)), (2, .eq (.bool true))]) (obs := [AV.bool (decide (x0 > y1)) = .bool true, AV.bool (decide (x0 < y1)) = .bool false, CallOK Try.prog ann 77 [.int .i64 y1] (res77 false) (outs77 false), CallOK Try.prog ann 77 [.int .i64 x0] (res77 false) (outs77 false)]) (by kernel_rfl) ⟨congrArg AV.bool c3_, congrArg AV.bool c2_, ev77 n _ _ hx6_, ev77 n _ _ hx3_, trivial⟩
        ·
          have e_ := Option.some.inj h7_
          subst e_
          exact run_ret (S := sp70_0) (G := []) (sc := [(2, .call 77 (res77 false) (outs77 false)), (2, .call 77 (res77 false) (outs77 false)), (5, .eq (.bool false)), (2, .eq (.bool false))]) (obs := [AV.bool (decide (x0 > y1)) = .bool false, AV.bool (decide (x0 < y1)) = .bool false, CallOK Try.prog ann 77 [.int .i64 y1] (res77 false) (outs77 false), CallOK Try.prog ann 77 [.int .i64 x0] (res77 false) (outs77 false)]) (by kernel_rfl) ⟨congrArg AV.bool c3_, congrArg AV.bool c2_, ev77 n _ _ hx6_, ev77 n _ _ hx3_, trivial⟩

def F70 (n : Nat) (x0 : Int) (y1 : Int) : Option Int := B70_0 n x0 y1
theorem ev70 (n : Nat) (x0 : Int) (y1 : Int) (r : Int) (h : F70 n x0 y1 = some r) : CallOK Try.prog ann 70 [.int .i64 x0, .int .i64 y1] (res70 r) (outs70 r) :=
  call_of_at (E := e70) (s := st70_0 x0 y1) body70 Try.func70 (by kernel_rfl) (by kernel_rfl) (by kernel_rfl) (by kernel_rfl) (by kernel_rfl) (emptyOK_of (by kernel_rfl)) (by kernel_rfl) (b70_0 n x0 y1 r h)

end Go.Proofs.Ytalbakjfbgkjjaa
