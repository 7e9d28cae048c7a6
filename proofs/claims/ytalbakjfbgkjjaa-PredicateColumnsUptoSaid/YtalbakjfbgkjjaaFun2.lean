/- Functions of the program as plain functions, and that the program answers as they do; written by a program (comp.py). -/
import Derived.Test.YtalbakjfbgkjjaaFun1
set_option maxRecDepth 100000
set_option linter.all false
namespace Go.Proofs.Ytalbakjfbgkjjaa
open Go.Abs

/-- (*partsync/partsynccase.Case).Predicate -/
noncomputable def e12 : Env := { P := Try.prog, ann := ann, f := 12, fn := Try.f12, ptrs := [0], rets := [(8, .same)] }
def st12_0 (c0 : TCase) (columns1 : (List Int)) (params2 : (List Int)) (deep3 : Int) : LS := ⟨[(0, .loc 0 0), (1, .slice .sh (rows3 columns1)), (2, .slice .sh (rows3 params2)), (3, .int .i64 deep3)], [(0, (enc57 c0))]⟩
def sp12_0 : Stops := []
def B12_0 (n : Nat) (c0 : TCase) (columns1 : (List Int)) (params2 : (List Int)) (deep3 : Int) : Option (TPredicate × TCase) :=
  (F32 n c0 columns1 params2 deep3).bind fun x6_ =>
  (F16 n columns1 params2 x6_.1).bind fun x12_ =>
  if x12_ == 2 then
    (F32 n x6_.2 columns1 params2 1).bind fun x17_ =>
    some (x17_.1, x17_.2)
  else
    some (x6_.1, x6_.2)

theorem b12_0 (n : Nat) (c0 : TCase) (columns1 : (List Int)) (params2 : (List Int)) (deep3 : Int) (r : (TPredicate × TCase)) (h : B12_0 n c0 columns1 params2 deep3 = some r) : At e12 [] (st12_0 c0 columns1 params2 deep3) (res12 r) (outs12 r) := by
  unfold B12_0 at h
  refine bind_elim h (fun x6_ hx6_ h1_ => ?_)
  refine bind_elim h1_ (fun x12_ hx12_ h2_ => ?_)
  refine ite_elim h2_ (fun c0_ h3_ => ?_) (fun c0_ h3_ => ?_)
  ·
    refine bind_elim h3_ (fun x17_ hx17_ h4_ => ?_)
    have e_ := Option.some.inj h4_
    subst e_
    exact run_ret (S := sp12_0) (G := []) (sc := [(5, .call 32 (res32 x6_) (outs32 x6_)), (5, .call 16 (res16 x12_) (outs16 x12_)), (0, .eq (.bool true)), (3, .call 32 (res32 x17_) (outs32 x17_))]) (obs := [CallOK Try.prog ann 32 [.ptr (enc57 x6_.2), .slice .sh (rows3 columns1), .slice .sh (rows3 params2), .int .i64 1] (res32 x17_) (outs32 x17_), AV.bool (x12_ == 2) = .bool true, CallOK Try.prog ann 16 [.slice .sh (rows3 columns1), .slice .sh (rows3 params2), .agg (enc28 x6_.1)] (res16 x12_) (outs16 x12_), CallOK Try.prog ann 32 [.ptr (enc57 c0), .slice .sh (rows3 columns1), .slice .sh (rows3 params2), .int .i64 deep3] (res32 x6_) (outs32 x6_)]) (by kernel_rfl) ⟨ev32 n _ _ _ _ _ hx17_, congrArg AV.bool c0_, ev16 n _ _ _ _ hx12_, ev32 n _ _ _ _ _ hx6_, trivial⟩
  ·
    have e_ := Option.some.inj h3_
    subst e_
    exact run_ret (S := sp12_0) (G := []) (sc := [(5, .call 32 (res32 x6_) (outs32 x6_)), (5, .call 16 (res16 x12_) (outs16 x12_)), (0, .eq (.bool false))]) (obs := [AV.bool (x12_ == 2) = .bool false, CallOK Try.prog ann 16 [.slice .sh (rows3 columns1), .slice .sh (rows3 params2), .agg (enc28 x6_.1)] (res16 x12_) (outs16 x12_), CallOK Try.prog ann 32 [.ptr (enc57 c0), .slice .sh (rows3 columns1), .slice .sh (rows3 params2), .int .i64 deep3] (res32 x6_) (outs32 x6_)]) (by kernel_rfl) ⟨congrArg AV.bool c0_, ev16 n _ _ _ _ hx12_, ev32 n _ _ _ _ _ hx6_, trivial⟩

def F12 (n : Nat) (c0 : TCase) (columns1 : (List Int)) (params2 : (List Int)) (deep3 : Int) : Option (TPredicate × TCase) := B12_0 n c0 columns1 params2 deep3
theorem ev12 (n : Nat) (c0 : TCase) (columns1 : (List Int)) (params2 : (List Int)) (deep3 : Int) (r : (TPredicate × TCase)) (h : F12 n c0 columns1 params2 deep3 = some r) : CallOK Try.prog ann 12 [.ptr (enc57 c0), .slice .sh (rows3 columns1), .slice .sh (rows3 params2), .int .i64 deep3] (res12 r) (outs12 r) :=
  call_of_at (E := e12) (s := st12_0 c0 columns1 params2 deep3) body12 Try.func12 (by kernel_rfl) (by kernel_rfl) (by kernel_rfl) (by kernel_rfl) (by kernel_rfl) (emptyOK_of (by kernel_rfl)) (by kernel_rfl) (b12_0 n c0 columns1 params2 deep3 r h)

/-- (*partsync/partsynccase.Case).Any -/
noncomputable def e23 : Env := { P := Try.prog, ann := ann, f := 23, fn := Try.f23, ptrs := [0], rets := [(2, .same)] }
def st23_0 (c0 : TCase) : LS := ⟨[(0, .loc 0 0)], [(0, (enc57 c0))]⟩
def sp23_0 : Stops := []
def B23_0 (n : Nat) (c0 : TCase) : Option (TValue × TCase) :=
  (F21 n c0 5).bind fun x3_ =>
  if decide ((w64 (1 + x3_.1)) < 3) then
    some ((TValue.mk (w64 (1 + x3_.1)) 0 ByteArray.empty), x3_.2)
  else
    (F22 n x3_.2 (w64 (1 + x3_.1))).bind fun x10_ =>
    some (x10_.1, x10_.2)

theorem b23_0 (n : Nat) (c0 : TCase) (r : (TValue × TCase)) (h : B23_0 n c0 = some r) : At e23 [] (st23_0 c0) (res23 r) (outs23 r) := by
  unfold B23_0 at h
  refine bind_elim h (fun x3_ hx3_ h1_ => ?_)
  refine ite_elim h1_ (fun c0_ h2_ => ?_) (fun c0_ h2_ => ?_)
  ·
    have e_ := Option.some.inj h2_
    subst e_
    exact run_ret (S := sp23_0) (G := []) (sc := [(2, .call 21 (res21 x3_) (outs21 x3_)), (3, .eq (.bool true))]) (obs := [AV.bool (decide ((w64 (1 + x3_.1)) < 3)) = .bool true, CallOK Try.prog ann 21 [.ptr (enc57 c0), .int .i64 5] (res21 x3_) (outs21 x3_)]) (by kernel_rfl) ⟨congrArg AV.bool c0_, ev21 n _ _ _ hx3_, trivial⟩
  ·
    refine bind_elim h2_ (fun x10_ hx10_ h3_ => ?_)
    have e_ := Option.some.inj h3_
    subst e_
    exact run_ret (S := sp23_0) (G := []) (sc := [(2, .call 21 (res21 x3_) (outs21 x3_)), (3, .eq (.bool false)), (2, .call 22 (res22 x10_) (outs22 x10_))]) (obs := [CallOK Try.prog ann 22 [.ptr (enc57 x3_.2), .int .i64 (w64 (1 + x3_.1))] (res22 x10_) (outs22 x10_), AV.bool (decide ((w64 (1 + x3_.1)) < 3)) = .bool false, CallOK Try.prog ann 21 [.ptr (enc57 c0), .int .i64 5] (res21 x3_) (outs21 x3_)]) (by kernel_rfl) ⟨ev22 n _ _ _ hx10_, congrArg AV.bool c0_, ev21 n _ _ _ hx3_, trivial⟩

def F23 (n : Nat) (c0 : TCase) : Option (TValue × TCase) := B23_0 n c0
theorem ev23 (n : Nat) (c0 : TCase) (r : (TValue × TCase)) (h : F23 n c0 = some r) : CallOK Try.prog ann 23 [.ptr (enc57 c0)] (res23 r) (outs23 r) :=
  call_of_at (E := e23) (s := st23_0 c0) body23 Try.func23 (by kernel_rfl) (by kernel_rfl) (by kernel_rfl) (by kernel_rfl) (by kernel_rfl) (emptyOK_of (by kernel_rfl)) (by kernel_rfl) (b23_0 n c0 r h)

/-- (*partsync/partsynccase.Case).number -/
noncomputable def e34 : Env := { P := Try.prog, ann := ann, f := 34, fn := Try.f34, ptrs := [0], rets := [(2, .same)] }
def st34_0 (c0 : TCase) : LS := ⟨[(0, .loc 0 0)], [(0, (enc57 c0))]⟩
def sp34_0 : Stops := []
def B34_0 (n : Nat) (c0 : TCase) : Option (Int × TCase) :=
  (F21 n c0 6).bind fun x3_ =>
  if x3_.1 == 0 then
    some ((-1), x3_.2)
  else
    if x3_.1 == 1 then
      some (9223372036854775807, x3_.2)
    else
      if x3_.1 == 2 then
        some ((-9223372036854775808), x3_.2)
      else
        if x3_.1 == 3 then
          (F21 n x3_.2 3).bind fun x13_ =>
          some (w64 (100 + x13_.1), x13_.2)
        else
          (F21 n x3_.2 6).bind fun x13_ =>
          some (x13_.1, x13_.2)

theorem b34_0 (n : Nat) (c0 : TCase) (r : (Int × TCase)) (h : B34_0 n c0 = some r) : At e34 [] (st34_0 c0) (res34 r) (outs34 r) := by
  unfold B34_0 at h
  refine bind_elim h (fun x3_ hx3_ h1_ => ?_)
  refine ite_elim h1_ (fun c0_ h2_ => ?_) (fun c0_ h2_ => ?_)
  ·
    have e_ := Option.some.inj h2_
    subst e_
    exact run_ret (S := sp34_0) (G := []) (sc := [(2, .call 21 (res21 x3_) (outs21 x3_)), (0, .eq (.bool true))]) (obs := [AV.bool (x3_.1 == 0) = .bool true, CallOK Try.prog ann 21 [.ptr (enc57 c0), .int .i64 6] (res21 x3_) (outs21 x3_)]) (by kernel_rfl) ⟨congrArg AV.bool c0_, ev21 n _ _ _ hx3_, trivial⟩
  ·
    refine ite_elim h2_ (fun c1_ h3_ => ?_) (fun c1_ h3_ => ?_)
    ·
      have e_ := Option.some.inj h3_
      subst e_
      exact run_ret (S := sp34_0) (G := []) (sc := [(2, .call 21 (res21 x3_) (outs21 x3_)), (0, .eq (.bool false)), (1, .eq (.bool true))]) (obs := [AV.bool (x3_.1 == 1) = .bool true, AV.bool (x3_.1 == 0) = .bool false, CallOK Try.prog ann 21 [.ptr (enc57 c0), .int .i64 6] (res21 x3_) (outs21 x3_)]) (by kernel_rfl) ⟨congrArg AV.bool c1_, congrArg AV.bool c0_, ev21 n _ _ _ hx3_, trivial⟩
    ·
      refine ite_elim h3_ (fun c2_ h4_ => ?_) (fun c2_ h4_ => ?_)
      ·
        have e_ := Option.some.inj h4_
        subst e_
        exact run_ret (S := sp34_0) (G := []) (sc := [(2, .call 21 (res21 x3_) (outs21 x3_)), (0, .eq (.bool false)), (1, .eq (.bool false)), (1, .eq (.bool true))]) (obs := [AV.bool (x3_.1 == 2) = .bool true, AV.bool (x3_.1 == 1) = .bool false, AV.bool (x3_.1 == 0) = .bool false, CallOK Try.prog ann 21 [.ptr (enc57 c0), .int .i64 6] (res21 x3_) (outs21 x3_)]) (by kernel_rfl) ⟨congrArg AV.bool c2_, congrArg AV.bool c1_, congrArg AV.bool c0_, ev21 n _ _ _ hx3_, trivial⟩
      ·
        refine ite_elim h4_ (fun c3_ h5_ => ?_) (fun c3_ h5_ => ?_)
        ·
          refine bind_elim h5_ (fun x13_ hx13_ h6_ => ?_)
          have e_ := Option.some.inj h6_
          subst e_
          exact run_ret (S := sp34_0) (G := []) (sc := [(2, .call 21 (res21 x3_) (outs21 x3_)), (0, .eq (.bool false)), (1, .eq (.bool false)), (1, .eq (.bool false)), (1, .eq (.bool true)), (2, .call 21 (res21 x13_) (outs21 x13_))]) (obs := [CallOK Try.prog ann 21 [.ptr (enc57 x3_.2), .int .i64 3] (res21 x13_) (outs21 x13_), AV.bool (x3_.1 == 3) = .bool true, AV.bool (x3_.1 == 2) = .bool false, AV.bool (x3_.1 == 1) = .bool false, AV.bool (x3_.1 == 0) = .bool false, CallOK Try.prog ann 21 [.ptr (enc57 c0), .int .i64 6] (res21 x3_) (outs21 x3_)]) (by kernel_rfl) ⟨ev21 n _ _ _ hx13_, congrArg AV.bool c3_, congrArg AV.bool c2_, congrArg AV.bool c1_, congrArg AV.bool c0_, ev21 n _ _ _ hx3_, trivial⟩
        ·
          refine bind_elim h5_ (fun x13_ hx13_ h7_ => ?_)
          have e_ := Option.some.inj h7_
          subst e_
          exact run_ret (S := sp34_0) (G := []) (sc := [(2, .call 21 (res21 x3_) (outs21 x3_)), (0, .eq (.bool false)), (1, .eq (.bool false)), (1, .eq (.bool false)), (1, .eq (.bool false)), (2, .call 21 (res21 x13_) (outs21 x13_))]) (obs := [CallOK Try.prog ann 21 [.ptr (enc57 x3_.2), .int .i64 6] (res21 x13_) (outs21 x13_), AV.bool (x3_.1 == 3) = .bool false, AV.bool (x3_.1 == 2) = .bool false, AV.bool (x3_.1 == 1) = .bool false, AV.bool (x3_.1 == 0) = .bool false, CallOK Try.prog ann 21 [.ptr (enc57 c0), .int .i64 6] (res21 x3_) (outs21 x3_)]) (by kernel_rfl) ⟨ev21 n _ _ _ hx13_, congrArg AV.bool c3_, congrArg AV.bool c2_, congrArg AV.bool c1_, congrArg AV.bool c0_, ev21 n _ _ _ hx3_, trivial⟩

def F34 (n : Nat) (c0 : TCase) : Option (Int × TCase) := B34_0 n c0
theorem ev34 (n : Nat) (c0 : TCase) (r : (Int × TCase)) (h : F34 n c0 = some r) : CallOK Try.prog ann 34 [.ptr (enc57 c0)] (res34 r) (outs34 r) :=
  call_of_at (E := e34) (s := st34_0 c0) body34 Try.func34 (by kernel_rfl) (by kernel_rfl) (by kernel_rfl) (by kernel_rfl) (by kernel_rfl) (emptyOK_of (by kernel_rfl)) (by kernel_rfl) (b34_0 n c0 r h)

/-- (*partsync/partsynccase.Case).SpoilPredicate -/
noncomputable def e13 : Env := { P := Try.prog, ann := ann, f := 13, fn := Try.f13, ptrs := [0], rets := [(4, .same)] }
def st13_0 (i7 : Int) (bc0 : TCase) (bp3 : TPredicate) : LS := ⟨[(3, .loc 3 0), (4, .loc 4 0), (7, .int .i64 i7)], [(0, (enc57 bc0)), (3, (enc28 bp3)), (4, [.int .i64 0, .int .i64 0, .int .i64 0, .int .i64 0, .int .i64 0, .int .i64 0, .str ByteArray.empty, .int .i64 0, .int .i64 0, .int .i64 0, .int .i64 0, .str ByteArray.empty, .slice .nil []])]⟩
def st13_1 (i8 : Int) (bc0 : TCase) (bp3 : TPredicate) : LS := ⟨[(3, .loc 3 0), (4, .loc 4 0), (8, .int .i64 i8)], [(0, (enc57 bc0)), (3, (enc28 bp3)), (4, [.int .i64 0, .int .i64 0, .int .i64 0, .int .i64 0, .int .i64 0, .int .i64 0, .str ByteArray.empty, .int .i64 0, .int .i64 0, .int .i64 0, .int .i64 0, .str ByteArray.empty, .slice .nil []])]⟩
def st13_2 (bc0 : TCase) (bp3 : TPredicate) : LS := ⟨[(3, .loc 3 0), (4, .loc 4 0)], [(0, (enc57 bc0)), (3, (enc28 bp3)), (4, [.int .i64 0, .int .i64 0, .int .i64 0, .int .i64 0, .int .i64 0, .int .i64 0, .str ByteArray.empty, .int .i64 0, .int .i64 0, .int .i64 0, .int .i64 0, .str ByteArray.empty, .slice .nil []])]⟩
def st13_3 (bc0 : TCase) (bp3 : TPredicate) : LS := ⟨[(0, .loc 0 0), (3, .loc 3 0), (4, .loc 4 0)], [(0, (enc57 bc0)), (3, (enc28 bp3)), (4, [.int .i64 0, .int .i64 0, .int .i64 0, .int .i64 0, .int .i64 0, .int .i64 0, .str ByteArray.empty, .int .i64 0, .int .i64 0, .int .i64 0, .int .i64 0, .str ByteArray.empty, .slice .nil []])]⟩
def st13_4 (c0 : TCase) (p1 : TPredicate) : LS := ⟨[(0, .loc 0 0), (1, .agg (enc28 p1))], [(0, (enc57 c0))]⟩
def sp13_0 : Stops := [([0, 1, 0, 1, 1, 1, 1, 1, 1, 1, 1, 1, 1, 1, 1, 1, 1, 1, 0, 1, 0, 1, 1], [(3, .same), (4, .same), (7, .same)], [(0, [.nrm, .same]), (3, [.same, .same, .same, .same, .same, .same, .same, .same, .same, .same, .same, .same, .nrm]), (4, [])]), ([1, 1, 1], [(3, .same), (4, .same)], [(0, [.nrm, .same]), (3, [.same, .same, .same, .same, .same, .same, .same, .same, .same, .same, .same, .same, .nrm]), (4, [])])]
def B13_0 (s_13 : TCase → TPredicate → Option (TPredicate × TCase)) (k_2 : TCase → TPredicate → Option (TPredicate × TCase)) (back : Int → TCase → TPredicate → Option (TPredicate × TCase)) (n : Nat) (i7 : Int) (bc0 : TCase) (bp3 : TPredicate) : Option (TPredicate × TCase) :=
  if decide (i7 < 8) then
    back (w64 (i7 + 1)) bc0 (TPredicate.mk 6 0 (TOperand.mk 0 0 (TValue.mk 0 0 ByteArray.empty)) (TOperand.mk 0 0 (TValue.mk 0 0 ByteArray.empty)) [bp3])
  else
    k_2 bc0 bp3

theorem b13_0 (s_13 : TCase → TPredicate → Option (TPredicate × TCase)) (hs_13 : ∀ (a0_ : TCase) (a1_ : TPredicate) (r : (TPredicate × TCase)), s_13 a0_ a1_ = some r → CallOK Try.prog ann 13 [.ptr (enc57 a0_), .agg (enc28 a1_)] (res13 r) (outs13 r)) (k_2 : TCase → TPredicate → Option (TPredicate × TCase)) (hk_2 : ∀ (bc0 : TCase) (bp3 : TPredicate) (r : (TPredicate × TCase)), k_2 bc0 bp3 = some r → At e13 [1, 1, 1] (st13_2 bc0 bp3) (res13 r) (outs13 r)) (back : Int → TCase → TPredicate → Option (TPredicate × TCase)) (hback : ∀ (i7 : Int) (bc0 : TCase) (bp3 : TPredicate) (r : (TPredicate × TCase)), back i7 bc0 bp3 = some r → At e13 [0, 1, 0, 1, 1, 1, 1, 1, 1, 1, 1, 1, 1, 1, 1, 1, 1, 1, 0, 1, 0, 1, 1] (st13_0 i7 bc0 bp3) (res13 r) (outs13 r)) (n : Nat) (i7 : Int) (bc0 : TCase) (bp3 : TPredicate) (r : (TPredicate × TCase)) (h : B13_0 s_13 k_2 back n i7 bc0 bp3 = some r) : At e13 [0, 1, 0, 1, 1, 1, 1, 1, 1, 1, 1, 1, 1, 1, 1, 1, 1, 1, 0, 1, 0, 1, 1] (st13_0 i7 bc0 bp3) (res13 r) (outs13 r) := by
  unfold B13_0 at h
  refine ite_elim h (fun c0_ h1_ => ?_) (fun c0_ h1_ => ?_)
  ·
    exact run_at (S := sp13_0) (G := []) (sc := [(1, .eq (.bool true)), (1, .eq (.slice (.own 29) (rows28 [bp3])))]) (obs := [AV.slice (.own 29) ([bp3].map enc28) = .slice (.own 29) (rows28 [bp3]), AV.bool (decide (i7 < 8)) = .bool true]) (by kernel_rfl) ⟨R27.build1 [bp3], congrArg AV.bool c0_, trivial⟩ (hback _ _ _ _ h1_)
  ·
    exact run_at (S := sp13_0) (G := []) (sc := [(1, .eq (.bool false))]) (obs := [AV.bool (decide (i7 < 8)) = .bool false]) (by kernel_rfl) ⟨congrArg AV.bool c0_, trivial⟩ (hk_2 _ _ _ h1_)

def L13_0 (s_13 : TCase → TPredicate → Option (TPredicate × TCase)) (k_2 : TCase → TPredicate → Option (TPredicate × TCase)) : Nat → Int → TCase → TPredicate → Option (TPredicate × TCase)
  | 0, _, _, _ => none
  | n + 1, i7, bc0, bp3 => B13_0 s_13 k_2 (L13_0 s_13 k_2 n) n i7 bc0 bp3
theorem l13_0 (s_13 : TCase → TPredicate → Option (TPredicate × TCase)) (hs_13 : ∀ (a0_ : TCase) (a1_ : TPredicate) (r : (TPredicate × TCase)), s_13 a0_ a1_ = some r → CallOK Try.prog ann 13 [.ptr (enc57 a0_), .agg (enc28 a1_)] (res13 r) (outs13 r)) (k_2 : TCase → TPredicate → Option (TPredicate × TCase)) (hk_2 : ∀ (bc0 : TCase) (bp3 : TPredicate) (r : (TPredicate × TCase)), k_2 bc0 bp3 = some r → At e13 [1, 1, 1] (st13_2 bc0 bp3) (res13 r) (outs13 r)) : ∀ (n : Nat) (i7 : Int) (bc0 : TCase) (bp3 : TPredicate) (r : (TPredicate × TCase)), L13_0 s_13 k_2 n i7 bc0 bp3 = some r → At e13 [0, 1, 0, 1, 1, 1, 1, 1, 1, 1, 1, 1, 1, 1, 1, 1, 1, 1, 0, 1, 0, 1, 1] (st13_0 i7 bc0 bp3) (res13 r) (outs13 r)
  | 0, _, _, _, _, h => by simp [L13_0] at h
  | n + 1, i7, bc0, bp3, r, h => b13_0 s_13 hs_13 k_2 hk_2 (L13_0 s_13 k_2 n) (l13_0 s_13 hs_13 k_2 hk_2 n) n i7 bc0 bp3 r h
def sp13_1 : Stops := [([0, 1, 1, 1, 1, 1, 1, 1, 1, 1, 1, 1, 1, 1, 1, 1, 1, 1, 0, 1, 0, 1, 1], [(3, .same), (4, .same), (8, .same)], [(0, [.nrm, .same]), (3, [.same, .same, .same, .same, .same, .same, .same, .same, .same, .same, .same, .same, .nrm]), (4, [])]), ([1, 1, 1], [(3, .same), (4, .same)], [(0, [.nrm, .same]), (3, [.same, .same, .same, .same, .same, .same, .same, .same, .same, .same, .same, .same, .nrm]), (4, [])])]
def B13_1 (s_13 : TCase → TPredicate → Option (TPredicate × TCase)) (k_2 : TCase → TPredicate → Option (TPredicate × TCase)) (back : Int → TCase → TPredicate → Option (TPredicate × TCase)) (n : Nat) (i8 : Int) (bc0 : TCase) (bp3 : TPredicate) : Option (TPredicate × TCase) :=
  if decide (i8 < 24) then
    (cut3 bp3.fArgs (bp3.fArgs.length : Int) (bp3.fArgs.length : Int)).bind fun x11_ =>
    (app x11_ [(TPredicate.mk 2 0 (TOperand.mk 0 0 (TValue.mk 0 0 ByteArray.empty)) (TOperand.mk 0 0 (TValue.mk 0 0 ByteArray.empty)) [])]).bind fun x14_ =>
    back (w64 (i8 + 1)) bc0 (TPredicate.mk bp3.fOp bp3.fCmp bp3.fLeft bp3.fRight x14_)
  else
    k_2 bc0 bp3

theorem b13_1 (s_13 : TCase → TPredicate → Option (TPredicate × TCase)) (hs_13 : ∀ (a0_ : TCase) (a1_ : TPredicate) (r : (TPredicate × TCase)), s_13 a0_ a1_ = some r → CallOK Try.prog ann 13 [.ptr (enc57 a0_), .agg (enc28 a1_)] (res13 r) (outs13 r)) (k_2 : TCase → TPredicate → Option (TPredicate × TCase)) (hk_2 : ∀ (bc0 : TCase) (bp3 : TPredicate) (r : (TPredicate × TCase)), k_2 bc0 bp3 = some r → At e13 [1, 1, 1] (st13_2 bc0 bp3) (res13 r) (outs13 r)) (back : Int → TCase → TPredicate → Option (TPredicate × TCase)) (hback : ∀ (i8 : Int) (bc0 : TCase) (bp3 : TPredicate) (r : (TPredicate × TCase)), back i8 bc0 bp3 = some r → At e13 [0, 1, 1, 1, 1, 1, 1, 1, 1, 1, 1, 1, 1, 1, 1, 1, 1, 1, 0, 1, 0, 1, 1] (st13_1 i8 bc0 bp3) (res13 r) (outs13 r)) (n : Nat) (i8 : Int) (bc0 : TCase) (bp3 : TPredicate) (r : (TPredicate × TCase)) (h : B13_1 s_13 k_2 back n i8 bc0 bp3 = some r) : At e13 [0, 1, 1, 1, 1, 1, 1, 1, 1, 1, 1, 1, 1, 1, 1, 1, 1, 1, 0, 1, 0, 1, 1] (st13_1 i8 bc0 bp3) (res13 r) (outs13 r) := by
  unfold B13_1 at h
  refine ite_elim h (fun c0_ h2_ => ?_) (fun c0_ h2_ => ?_)
  ·
    refine bind_elim h2_ (fun x11_ hx11_ h3_ => ?_)
    refine bind_elim h3_ (fun x14_ hx14_ h4_ => ?_)
    exact run_at (S := sp13_1) (G := []) (sc := [(1, .eq (.bool true)), (4, .eq (.int .i64 (bp3.fArgs.length : Int))), (2, .eq (.int .i64 (bp3.fArgs.length : Int))), (0, .core ⟨[(53, .fs (rows28 x11_))], []⟩), (1, .eq (.slice (.own 29) (rows28 [(TPredicate.mk 2 0 (TOperand.mk 0 0 (TValue.mk 0 0 ByteArray.empty)) (TOperand.mk 0 0 (TValue.mk 0 0 ByteArray.empty)) [])]))), (0, .core ⟨[(56, .slice (.own 29) (rows28 x14_))], []⟩)]) (obs := [appendA Try.prog an13 56 27 (.tmp 53) (.fs (rows28 x11_)) (.slice (.own 29) (rows28 [(TPredicate.mk 2 0 (TOperand.mk 0 0 (TValue.mk 0 0 ByteArray.empty)) (TOperand.mk 0 0 (TValue.mk 0 0 ByteArray.empty)) [])])) (fun _ => none) = some ⟨[(56, .slice (.own 29) (rows28 x14_))], []⟩, AV.slice (.own 29) ([(TPredicate.mk 2 0 (TOperand.mk 0 0 (TValue.mk 0 0 ByteArray.empty)) (TOperand.mk 0 0 (TValue.mk 0 0 ByteArray.empty)) [])].map enc28) = .slice (.own 29) (rows28 [(TPredicate.mk 2 0 (TOperand.mk 0 0 (TValue.mk 0 0 ByteArray.empty)) (TOperand.mk 0 0 (TValue.mk 0 0 ByteArray.empty)) [])]), slice3V Try.prog (some 53) 27 (.slice .sh (rows28 bp3.fArgs)) (.int .i64 (bp3.fArgs.length : Int)) (.int .i64 (bp3.fArgs.length : Int)) = some ⟨[(53, .fs (rows28 x11_))], []⟩, AV.int .i64 ((rows28 bp3.fArgs).length : Int) = .int .i64 (bp3.fArgs.length : Int), AV.int .i64 ((rows28 bp3.fArgs).length : Int) = .int .i64 (bp3.fArgs.length : Int), AV.bool (decide (i8 < 24)) = .bool true]) (by kernel_rfl) ⟨(R27.appFsU (A := an13) hx14_).trans (freshU_own (by kernel_rfl) (by kernel_rfl)), R27.build1 [(TPredicate.mk 2 0 (TOperand.mk 0 0 (TValue.mk 0 0 ByteArray.empty)) (TOperand.mk 0 0 (TValue.mk 0 0 ByteArray.empty)) [])], R27.cut3Ob hx11_, R27.lenOb bp3.fArgs, R27.lenOb bp3.fArgs, congrArg AV.bool c0_, trivial⟩ (hback _ _ _ _ h4_)
  ·
    exact run_at (S := sp13_1) (G := []) (sc := [(1, .eq (.bool false))]) (obs := [AV.bool (decide (i8 < 24)) = .bool false]) (by kernel_rfl) ⟨congrArg AV.bool c0_, trivial⟩ (hk_2 _ _ _ h2_)

def L13_1 (s_13 : TCase → TPredicate → Option (TPredicate × TCase)) (k_2 : TCase → TPredicate → Option (TPredicate × TCase)) : Nat → Int → TCase → TPredicate → Option (TPredicate × TCase)
  | 0, _, _, _ => none
  | n + 1, i8, bc0, bp3 => B13_1 s_13 k_2 (L13_1 s_13 k_2 n) n i8 bc0 bp3
theorem l13_1 (s_13 : TCase → TPredicate → Option (TPredicate × TCase)) (hs_13 : ∀ (a0_ : TCase) (a1_ : TPredicate) (r : (TPredicate × TCase)), s_13 a0_ a1_ = some r → CallOK Try.prog ann 13 [.ptr (enc57 a0_), .agg (enc28 a1_)] (res13 r) (outs13 r)) (k_2 : TCase → TPredicate → Option (TPredicate × TCase)) (hk_2 : ∀ (bc0 : TCase) (bp3 : TPredicate) (r : (TPredicate × TCase)), k_2 bc0 bp3 = some r → At e13 [1, 1, 1] (st13_2 bc0 bp3) (res13 r) (outs13 r)) : ∀ (n : Nat) (i8 : Int) (bc0 : TCase) (bp3 : TPredicate) (r : (TPredicate × TCase)), L13_1 s_13 k_2 n i8 bc0 bp3 = some r → At e13 [0, 1, 1, 1, 1, 1, 1, 1, 1, 1, 1, 1, 1, 1, 1, 1, 1, 1, 0, 1, 0, 1, 1] (st13_1 i8 bc0 bp3) (res13 r) (outs13 r)
  | 0, _, _, _, _, h => by simp [L13_1] at h
  | n + 1, i8, bc0, bp3, r, h => b13_1 s_13 hs_13 k_2 hk_2 (L13_1 s_13 k_2 n) (l13_1 s_13 hs_13 k_2 hk_2 n) n i8 bc0 bp3 r h
def sp13_2 : Stops := []
def B13_2 (s_13 : TCase → TPredicate → Option (TPredicate × TCase)) (n : Nat) (bc0 : TCase) (bp3 : TPredicate) : Option (TPredicate × TCase) :=
  some (bp3, bc0)

theorem b13_2 (s_13 : TCase → TPredicate → Option (TPredicate × TCase)) (hs_13 : ∀ (a0_ : TCase) (a1_ : TPredicate) (r : (TPredicate × TCase)), s_13 a0_ a1_ = some r → CallOK Try.prog ann 13 [.ptr (enc57 a0_), .agg (enc28 a1_)] (res13 r) (outs13 r)) (n : Nat) (bc0 : TCase) (bp3 : TPredicate) (r : (TPredicate × TCase)) (h : B13_2 s_13 n bc0 bp3 = some r) : At e13 [1, 1, 1] (st13_2 bc0 bp3) (res13 r) (outs13 r) := by
  unfold B13_2 at h
  have e_ := Option.some.inj h
  subst e_
  exact run_ret (S := sp13_2) (G := []) (sc := []) (obs := []) (by kernel_rfl) trivial

def sp13_3 : Stops := [([0, 1, 0, 1, 1, 1, 1, 1, 1, 1, 1, 1, 1, 1, 1, 1, 1, 1, 0, 1, 0, 1, 1], [(3, .same), (4, .same), (7, .same)], [(0, [.nrm, .same]), (3, [.same, .same, .same, .same, .same, .same, .same, .same, .same, .same, .same, .same, .nrm]), (4, [])]), ([0, 1, 1, 1, 1, 1, 1, 1, 1, 1, 1, 1, 1, 1, 1, 1, 1, 1, 0, 1, 0, 1, 1], [(3, .same), (4, .same), (8, .same)], [(0, [.nrm, .same]), (3, [.same, .same, .same, .same, .same, .same, .same, .same, .same, .same, .same, .same, .nrm]), (4, [])]), ([1, 1, 1], [(3, .same), (4, .same)], [(0, [.nrm, .same]), (3, [.same, .same, .same, .same, .same, .same, .same, .same, .same, .same, .same, .same, .nrm]), (4, [])])]
def B13_3 (s_13 : TCase → TPredicate → Option (TPredicate × TCase)) (n : Nat) (bc0 : TCase) (bp3 : TPredicate) : Option (TPredicate × TCase) :=
  (F21 n bc0 9).bind fun x2_ =>
  if x2_.1 == 0 then
    (F34 n x2_.2).bind fun x6_ =>
    B13_2 s_13 n x6_.2 (TPredicate.mk x6_.1 bp3.fCmp bp3.fLeft bp3.fRight bp3.fArgs)
  else
    if x2_.1 == 1 then
      (F34 n x2_.2).bind fun x8_ =>
      B13_2 s_13 n x8_.2 (TPredicate.mk bp3.fOp x8_.1 bp3.fLeft bp3.fRight bp3.fArgs)
    else
      if x2_.1 == 2 then
        (F34 n x2_.2).bind fun x10_ =>
        B13_2 s_13 n x10_.2 (TPredicate.mk bp3.fOp bp3.fCmp (TOperand.mk x10_.1 bp3.fLeft.fIndex bp3.fLeft.fValue) bp3.fRight bp3.fArgs)
      else
        if x2_.1 == 3 then
          (F34 n x2_.2).bind fun x12_ =>
          B13_2 s_13 n x12_.2 (TPredicate.mk bp3.fOp bp3.fCmp (TOperand.mk bp3.fLeft.fKind x12_.1 bp3.fLeft.fValue) bp3.fRight bp3.fArgs)
        else
          if x2_.1 == 4 then
            (F23 n x2_.2).bind fun x14_ =>
            B13_2 s_13 n x14_.2 (TPredicate.mk bp3.fOp bp3.fCmp bp3.fLeft (TOperand.mk bp3.fRight.fKind bp3.fRight.fIndex x14_.1) bp3.fArgs)
          else
            if x2_.1 == 5 then
              (F34 n x2_.2).bind fun x16_ =>
              B13_2 s_13 n x16_.2 (TPredicate.mk bp3.fOp bp3.fCmp bp3.fLeft (TOperand.mk bp3.fRight.fKind x16_.1 bp3.fRight.fValue) bp3.fArgs)
            else
              if x2_.1 == 6 then
                (app [] bp3.fArgs).bind fun x19_ =>
                (app x19_ [(TPredicate.mk 1 0 (TOperand.mk 0 0 (TValue.mk 0 0 ByteArray.empty)) (TOperand.mk 0 0 (TValue.mk 0 0 ByteArray.empty)) [])]).bind fun x22_ =>
                B13_2 s_13 n x2_.2 (TPredicate.mk bp3.fOp bp3.fCmp bp3.fLeft bp3.fRight x22_)
              else
                if x2_.1 == 7 then
                  L13_0 s_13 (B13_2 s_13 n) n 0 x2_.2 bp3
                else
                  L13_1 s_13 (B13_2 s_13 n) n 0 x2_.2 bp3

theorem b13_3 (s_13 : TCase → TPredicate → Option (TPredicate × TCase)) (hs_13 : ∀ (a0_ : TCase) (a1_ : TPredicate) (r : (TPredicate × TCase)), s_13 a0_ a1_ = some r → CallOK Try.prog ann 13 [.ptr (enc57 a0_), .agg (enc28 a1_)] (res13 r) (outs13 r)) (n : Nat) (bc0 : TCase) (bp3 : TPredicate) (r : (TPredicate × TCase)) (h : B13_3 s_13 n bc0 bp3 = some r) : At e13 [1, 1] (st13_3 bc0 bp3) (res13 r) (outs13 r) := by
  unfold B13_3 at h
  refine bind_elim h (fun x2_ hx2_ h5_ => ?_)
  refine ite_elim h5_ (fun c0_ h6_ => ?_) (fun c0_ h6_ => ?_)
  ·
    refine bind_elim h6_ (fun x6_ hx6_ h7_ => ?_)
    exact run_at (S := sp13_3) (G := []) (sc := [(1, .call 21 (res21 x2_) (outs21 x2_)), (0, .eq (.bool true)), (2, .call 34 (res34 x6_) (outs34 x6_))]) (obs := [CallOK Try.prog ann 34 [.ptr (enc57 x2_.2)] (res34 x6_) (outs34 x6_), AV.bool (x2_.1 == 0) = .bool true, CallOK Try.prog ann 21 [.ptr (enc57 bc0), .int .i64 9] (res21 x2_) (outs21 x2_)]) (by kernel_rfl) ⟨ev34 n _ _ hx6_, congrArg AV.bool c0_, ev21 n _ _ _ hx2_, trivial⟩ (b13_2 s_13 hs_13 n _ _ _ h7_)
  ·
    refine ite_elim h6_ (fun c1_ h8_ => ?_) (fun c1_ h8_ => ?_)
    ·
      refine bind_elim h8_ (fun x8_ hx8_ h9_ => ?_)
      exact run_at (S := sp13_3) (G := []) (sc := [(1, .call 21 (res21 x2_) (outs21 x2_)), (0, .eq (.bool false)), (1, .eq (.bool true)), (2, .call 34 (res34 x8_) (outs34 x8_))]) (obs := [CallOK Try.prog ann 34 [.ptr (enc57 x2_.2)] (res34 x8_) (outs34 x8_), AV.bool (x2_.1 == 1) = .bool true, AV.bool (x2_.1 == 0) = .bool false, CallOK Try.prog ann 21 [.ptr (enc57 bc0), .int .i64 9] (res21 x2_) (outs21 x2_)]) (by kernel_rfl) ⟨ev34 n _ _ hx8_, congrArg AV.bool c1_, congrArg AV.bool c0_, ev21 n _ _ _ hx2_, trivial⟩ (b13_2 s_13 hs_13 n _ _ _ h9_)
    ·
      refine ite_elim h8_ (fun c2_ h10_ => ?_) (fun c2_ h10_ => ?_)
      ·
        refine bind_elim h10_ (fun x10_ hx10_ h11_ => ?_)
        exact run_at (S := sp13_3) (G := []) (sc := [(1, .call 21 (res21 x2_) (outs21 x2_)), (0, .eq (.bool false)), (1, .eq (.bool false)), (1, .eq (.bool true)), (2, .call 34 (res34 x10_) (outs34 x10_))]) (obs := [CallOK Try.prog ann 34 [.ptr (enc57 x2_.2)] (res34 x10_) (outs34 x10_), AV.bool (x2_.1 == 2) = .bool true, AV.bool (x2_.1 == 1) = .bool false, AV.bool (x2_.1 == 0) = .bool false, CallOK Try.prog ann 21 [.ptr (enc57 bc0), .int .i64 9] (res21 x2_) (outs21 x2_)]) (by kernel_rfl) ⟨ev34 n _ _ hx10_, congrArg AV.bool c2_, congrArg AV.bool c1_, congrArg AV.bool c0_, ev21 n _ _ _ hx2_, trivial⟩ (b13_2 s_13 hs_13 n _ _ _ h11_)
      ·
        refine ite_elim h10_ (fun c3_ h12_ => ?_) (fun c3_ h12_ => ?_)
        ·
          refine bind_elim h12_ (fun x12_ hx12_ h13_ => ?_)
          exact run_at (S := sp13_3) (G := []) (sc := [(1, .call 21 (res21 x2_) (outs21 x2_)), (0, .eq (.bool false)), (1, .eq (.bool false)), (1, .eq (.bool false)), (1, .eq (.bool true)), (2, .call 34 (res34 x12_) (outs34 x12_))]) (obs := [CallOK Try.prog ann 34 [.ptr (enc57 x2_.2)] (res34 x12_) (outs34 x12_), AV.bool (x2_.1 == 3) = .bool true, AV.bool (x2_.1 == 2) = .bool false, AV.bool (x2_.1 == 1) = .bool false, AV.bool (x2_.1 == 0) = .bool false, CallOK Try.prog ann 21 [.ptr (enc57 bc0), .int .i64 9] (res21 x2_) (outs21 x2_)]) (by kernel_rfl) ⟨ev34 n _ _ hx12_, congrArg AV.bool c3_, congrArg AV.bool c2_, congrArg AV.bool c1_, congrArg AV.bool c0_, ev21 n _ _ _ hx2_, trivial⟩ (b13_2 s_13 hs_13 n _ _ _ h13_)
        ·
          refine ite_elim h12_ (fun c4_ h14_ => ?_) (fun c4_ h14_ => ?_)
          ·
            refine bind_elim h14_ (fun x14_ hx14_ h15_ => ?_)
            exact run_at (S := sp13_3) (G := []) (sc := [(1, .call 21 (res21 x2_) (outs21 x2_)), (0, .eq (.bool false)), (1, .eq (.bool false)), (1, .eq (.bool false)), (1, .eq (.bool false)), (1, .eq (.bool true)), (2, .call 23 (res23 x14_) (outs23 x14_))]) (obs := [CallOK Try.prog ann 23 [.ptr (enc57 x2_.2)] (res23 x14_) (outs23 x14_), AV.bool (x2_.1 == 4) = .bool true, AV.bool (x2_.1 == 3) = .bool false, AV.bool (x2_.1 == 2) = .bool false, AV.bool (x2_.1 == 1) = .bool false, AV.bool (x2_.1 == 0) = .bool false, CallOK Try.prog ann 21 [.ptr (enc57 bc0), .int .i64 9] (res21 x2_) (outs21 x2_)]) (by kernel_rfl) ⟨ev23 n _ _ hx14_, congrArg AV.bool c4_, congrArg AV.bool c3_, congrArg AV.bool c2_, congrArg AV.bool c1_, congrArg AV.bool c0_, ev21 n _ _ _ hx2_, trivial⟩ (b13_2 s_13 hs_13 n _ _ _ h15_)
          ·
            refine ite_elim h14_ (fun c5_ h16_ => ?_) (fun c5_ h16_ => ?_)
            ·
              refine bind_elim h16_ (fun x16_ hx16_ h17_ => ?_)
              exact run_at (S := sp13_3) (G := []) (sc := [(1, .call 21 (res21 x2_) (outs21 x2_)), (0, .eq (.bool false)), (1, .eq (.bool false)), (1, .eq (.bool false)), (1, .eq (.bool false)), (1, .eq (.bool false)), (1, .eq (.bool true)), (2, .call 34 (res34 x16_) (outs34 x16_))]) (obs := [CallOK Try.prog ann 34 [.ptr (enc57 x2_.2)] (res34 x16_) (outs34 x16_), AV.bool (x2_.1 == 5) = .bool true, AV.bool (x2_.1 == 4) = .bool false, AV.bool (x2_.1 == 3) = .bool false, AV.bool (x2_.1 == 2) = .bool false, AV.bool (x2_.1 == 1) = .bool false, AV.bool (x2_.1 == 0) = .bool false, CallOK Try.prog ann 21 [.ptr (enc57 bc0), .int .i64 9] (res21 x2_) (outs21 x2_)]) (by kernel_rfl) ⟨ev34 n _ _ hx16_, congrArg AV.bool c5_, congrArg AV.bool c4_, congrArg AV.bool c3_, congrArg AV.bool c2_, congrArg AV.bool c1_, congrArg AV.bool c0_, ev21 n _ _ _ hx2_, trivial⟩ (b13_2 s_13 hs_13 n _ _ _ h17_)
            ·
              refine ite_elim h16_ (fun c6_ h18_ => ?_) (fun c6_ h18_ => ?_)
              ·
                refine bind_elim h18_ (fun x19_ hx19_ h19_ => ?_)
                refine bind_elim h19_ (fun x22_ hx22_ h20_ => ?_)
                exact run_at (S := sp13_3) (G := []) (sc := [(1, .call 21 (res21 x2_) (outs21 x2_)), (0, .eq (.bool false)), (1, .eq (.bool false)), (1, .eq (.bool false)), (1, .eq (.bool false)), (1, .eq (.bool false)), (1, .eq (.bool false)), (1, .eq (.bool true)), (3, .core ⟨[(96, .slice (.own 29) (rows28 x19_))], []⟩), (1, .eq (.slice (.own 29) (rows28 [(TPredicate.mk 1 0 (TOperand.mk 0 0 (TValue.mk 0 0 ByteArray.empty)) (TOperand.mk 0 0 (TValue.mk 0 0 ByteArray.empty)) [])]))), (0, .core ⟨[(99, .slice (.own 29) (rows28 x22_)), (96, .slice .sh (rows28 x19_))], []⟩)]) (obs := [appendA Try.prog an13 99 27 (.tmp 96) (.slice (.own 29) (rows28 x19_)) (.slice (.own 29) (rows28 [(TPredicate.mk 1 0 (TOperand.mk 0 0 (TValue.mk 0 0 ByteArray.empty)) (TOperand.mk 0 0 (TValue.mk 0 0 ByteArray.empty)) [])])) (fun _ => none) = some ⟨[(99, .slice (.own 29) (rows28 x22_)), (96, .slice .sh (rows28 x19_))], []⟩, AV.slice (.own 29) ([(TPredicate.mk 1 0 (TOperand.mk 0 0 (TValue.mk 0 0 ByteArray.empty)) (TOperand.mk 0 0 (TValue.mk 0 0 ByteArray.empty)) [])].map enc28) = .slice (.own 29) (rows28 [(TPredicate.mk 1 0 (TOperand.mk 0 0 (TValue.mk 0 0 ByteArray.empty)) (TOperand.mk 0 0 (TValue.mk 0 0 ByteArray.empty)) [])]), appendA Try.prog an13 96 27 (.const (.slice none 0 0)) (.slice .nil []) (.slice .sh (rows28 bp3.fArgs)) (fun _ => none) = some ⟨[(96, .slice (.own 29) (rows28 x19_))], []⟩, AV.bool (x2_.1 == 6) = .bool true, AV.bool (x2_.1 == 5) = .bool false, AV.bool (x2_.1 == 4) = .bool false, AV.bool (x2_.1 == 3) = .bool false, AV.bool (x2_.1 == 2) = .bool false, AV.bool (x2_.1 == 1) = .bool false, AV.bool (x2_.1 == 0) = .bool false, CallOK Try.prog ann 21 [.ptr (enc57 bc0), .int .i64 9] (res21 x2_) (outs21 x2_)]) (by kernel_rfl) ⟨R27.appOb (A := an13) (by decide) hx22_, R27.build1 [(TPredicate.mk 1 0 (TOperand.mk 0 0 (TValue.mk 0 0 ByteArray.empty)) (TOperand.mk 0 0 (TValue.mk 0 0 ByteArray.empty)) [])], (R27.appNilU (A := an13) hx19_).trans (freshU_own (by kernel_rfl) (by kernel_rfl)), congrArg AV.bool c6_, congrArg AV.bool c5_, congrArg AV.bool c4_, congrArg AV.bool c3_, congrArg AV.bool c2_, congrArg AV.bool c1_, congrArg AV.bool c0_, ev21 n _ _ _ hx2_, trivial⟩ (b13_2 s_13 hs_13 n _ _ _ h20_)
              ·
                refine ite_elim h18_ (fun c7_ h21_ => ?_) (fun c7_ h21_ => ?_)
                ·
                  exact run_at (S := sp13_3) (G := []) (sc := [(1, .call 21 (res21 x2_) (outs21 x2_)), (0, .eq (.bool false)), (1, .eq (.bool false)), (1, .eq (.bool false)), (1, .eq (.bool false)), (1, .eq (.bool false)), (1, .eq (.bool false)), (1, .eq (.bool false)), (1, .eq (.bool true))]) (obs := [AV.bool (x2_.1 == 7) = .bool true, AV.bool (x2_.1 == 6) = .bool false, AV.bool (x2_.1 == 5) = .bool false, AV.bool (x2_.1 == 4) = .bool false, AV.bool (x2_.1 == 3) = .bool false, AV.bool (x2_.1 == 2) = .bool false, AV.bool (x2_.1 == 1) = .bool false, AV.bool (x2_.1 == 0) = .bool false, CallOK Try.prog ann 21 [.ptr (enc57 bc0), .int .i64 9] (res21 x2_) (outs21 x2_)]) (by kernel_rfl) ⟨congrArg AV.bool c7_, congrArg AV.bool c6_, congrArg AV.bool c5_, congrArg AV.bool c4_, congrArg AV.bool c3_, congrArg AV.bool c2_, congrArg AV.bool c1_, congrArg AV.bool c0_, ev21 n _ _ _ hx2_, trivial⟩ (l13_0 s_13 hs_13 (B13_2 s_13 n) (b13_2 s_13 hs_13 n) n _ _ _ _ h21_)
                ·
                  exact run_at (S := sp13_3) (G := []) (sc := [(1, .call 21 (res21 x2_) (outs21 x2_)), (0, .eq (.bool false)), (1, .eq (.bool false)), (1, .eq (.bool false)), (1, .eq (.bool false)), (1, .eq (.bool false)), (1, .eq (.bool false)), (1, .eq (.bool false)), (1, .eq (.bool false))]) (obs := [AV.bool (x2_.1 == 7) = .bool false, AV.bool (x2_.1 == 6) = .bool false, AV.bool (x2_.1 == 5) = .bool false, AV.bool (x2_.1 == 4) = .bool false, AV.bool (x2_.1 == 3) = .bool false, AV.bool (x2_.1 == 2) = .bool false, AV.bool (x2_.1 == 1) = .bool false, AV.bool (x2_.1 == 0) = .bool false, CallOK Try.prog ann 21 [.ptr (enc57 bc0), .int .i64 9] (res21 x2_) (outs21 x2_)]) (by kernel_rfl) ⟨congrArg AV.bool c7_, congrArg AV.bool c6_, congrArg AV.bool c5_, congrArg AV.bool c4_, congrArg AV.bool c3_, congrArg AV.bool c2_, congrArg AV.bool c1_, congrArg AV.bool c0_, ev21 n _ _ _ hx2_, trivial⟩ (l13_1 s_13 hs_13 (B13_2 s_13 n) (b13_2 s_13 hs_13 n) n _ _ _ _ h21_)

def sp13_4 : Stops := [([1, 1], [(0, .same), (3, .same), (4, .same)], [(0, [.nrm, .same]), (3, [.same, .same, .same, .same, .same, .same, .same, .same, .same, .same, .same, .same, .nrm]), (4, [])])]
def B13_4 (s_13 : TCase → TPredicate → Option (TPredicate × TCase)) (n : Nat) (c0 : TCase) (p1 : TPredicate) : Option (TPredicate × TCase) :=
  if decide ((p1.fArgs.length : Int) > 0) then
    (F33 n c0 2).bind fun x9_ =>
    if x9_.1 then
      (app [] p1.fArgs).bind fun x16_ =>
      (F21 n x9_.2 (x16_.length : Int)).bind fun x23_ =>
      (bnd x16_.length x23_.1).bind fun x32_ =>
      (x16_[x32_]?).bind fun x33_ =>
      (s_13 x23_.2 x33_).bind fun x34_ =>
      (bnd x16_.length x23_.1).bind fun x35_ =>
      (x16_[x35_]?).bind fun x36_ =>
      (setAt x16_ x35_ x34_.1).bind fun z36_ =>
      some ((TPredicate.mk p1.fOp p1.fCmp p1.fLeft p1.fRight z36_), x34_.2)
    else
      B13_3 s_13 n x9_.2 p1
  else
    B13_3 s_13 n c0 p1

theorem b13_4 (s_13 : TCase → TPredicate → Option (TPredicate × TCase)) (hs_13 : ∀ (a0_ : TCase) (a1_ : TPredicate) (r : (TPredicate × TCase)), s_13 a0_ a1_ = some r → CallOK Try.prog ann 13 [.ptr (enc57 a0_), .agg (enc28 a1_)] (res13 r) (outs13 r)) (n : Nat) (c0 : TCase) (p1 : TPredicate) (r : (TPredicate × TCase)) (h : B13_4 s_13 n c0 p1 = some r) : At e13 [] (st13_4 c0 p1) (res13 r) (outs13 r) := by
  unfold B13_4 at h
  refine ite_elim h (fun c0_ h22_ => ?_) (fun c0_ h22_ => ?_)
  ·
    refine bind_elim h22_ (fun x9_ hx9_ h23_ => ?_)
    refine ite_elim h23_ (fun c1_ h24_ => ?_) (fun c1_ h24_ => ?_)
    ·
      refine bind_elim h24_ (fun x16_ hx16_ h25_ => ?_)
      refine bind_elim h25_ (fun x23_ hx23_ h26_ => ?_)
      refine bind_elim h26_ (fun x32_ hx32_ h27_ => ?_)
      refine bind_elim h27_ (fun x33_ hx33_ h28_ => ?_)
      refine bind_elim h28_ (fun x34_ hx34_ h29_ => ?_)
      refine bind_elim h29_ (fun x35_ hx35_ h30_ => ?_)
      refine bind_elim h30_ (fun x36_ hx36_ h31_ => ?_)
      refine bind_elim h31_ (fun z36_ hz36_ h32_ => ?_)
      have e_ := Option.some.inj h32_
      subst e_
      exact run_ret (S := sp13_4) (G := [([0, 1, 1, 1, 1, 0, 1, 0, 1], [.frz { K := 111, e := 29, rows := (rows28 z36_), ts := [], cs := [(5, 12, (rows28 z36_))] }])]) (sc := [(4, .eq (.int .i64 (p1.fArgs.length : Int))), (0, .eq (.bool true)), (2, .call 33 (.bool true) (outs33 x9_)), (6, .core ⟨[(20, .ms 111 29 0 x16_.length), (20, .undef), (24, .undef), (28, .undef), (32, .undef), (34, .undef), (37, .undef)], [(111, (flatS (rows28 x16_))), (5, cleanK 111 (enc28 p1))]⟩), (6, .call 21 (res21 x23_) (outs21 x23_)), (8, .core ⟨[(34, .loc 111 (x32_ * 13))], []⟩), (0, .core ⟨[(35, .agg (enc28 x33_))], []⟩), (0, .call 13 (res13 x34_) (outs13 x34_)), (0, .core ⟨[(37, .loc 111 (x35_ * 13))], []⟩), (0, .core ⟨[], [(111, (flatS (rows28 z36_)))]⟩)]) (obs := [some (flatS (rows28 z36_)) = some (flatS (rows28 z36_)), ∀ r ∈ (rows28 z36_), r.length = Program.cellsOf Try.prog 29, okView (rows28 z36_) (.ms 111 29 0 x16_.length) (rows28 z36_), storeBox Try.prog an13 29 111 (x35_ * 13 + 0) (flatS (rows28 x16_)) (.tmp 36) (.agg (enc28 x34_.1)) = some ⟨[], [(111, (flatS (rows28 z36_)))]⟩, indexAddrA Try.prog an13 (some 37) 27 (.ms 111 29 0 x16_.length) (.int .i64 x23_.1) = some ⟨[(37, .loc 111 (x35_ * 13))], []⟩, CallOK Try.prog ann 13 [.ptr (enc57 x23_.2), .agg (enc28 x33_)] (res13 x34_) (outs13 x34_), loadBox Try.prog an13 (some 35) 29 111 (x32_ * 13 + 0) (flatS (rows28 x16_)) = some ⟨[(35, .agg (enc28 x33_))], []⟩, indexAddrA Try.prog an13 (some 34) 27 (.ms 111 29 0 x16_.length) (.int .i64 x23_.1) = some ⟨[(34, .loc 111 (x32_ * 13))], []⟩, CallOK Try.prog ann 21 [.ptr (enc57 x9_.2), .int .i64 (x16_.length : Int)] (res21 x23_) (outs21 x23_), appendA Try.prog an13 20 27 (.const (.slice none 0 0)) (.slice .nil []) (.slice .sh (rows28 p1.fArgs)) (fun _ => some (enc28 p1)) = some ⟨[(20, .ms 111 29 0 x16_.length), (20, .undef), (24, .undef), (28, .undef), (32, .undef), (34, .undef), (37, .undef)], [(111, (flatS (rows28 x16_))), (5, cleanK 111 (enc28 p1))]⟩, CallOK Try.prog ann 33 [.ptr (enc57 c0), .int .i64 2] (.bool true) (outs33 x9_), AV.bool (decide ((p1.fArgs.length : Int) > 0)) = .bool true, AV.int .i64 ((rows28 p1.fArgs).length : Int) = .int .i64 (p1.fArgs.length : Int)]) (by kernel_rfl) ⟨rfl, R27.rows_len _, R27.view ((setAt_len hz36_).symm), R27.storeEl (A := an13) (f := 0) (m := 13) (s := 13) (vs := (enc28 x34_.1)) (by kernel_rfl) (by kernel_rfl) (by kernel_rfl) (by kernel_rfl) (by kernel_rfl) (by decide) (by kernel_rfl) (by kernel_rfl) (by kernel_rfl) hx36_ hz36_, R27.idxMs (A := an13) (by kernel_rfl) (by kernel_rfl) hx35_, hs_13 _ _ _ hx34_, R27.loadEl (A := an13) (f := 0) (m := 13) (s := 13) (by kernel_rfl) (by kernel_rfl) (by kernel_rfl) (by decide) (by kernel_rfl) (by kernel_rfl) hx33_, R27.idxMs (A := an13) (by kernel_rfl) (by kernel_rfl) hx32_, ev21 n _ _ _ hx23_, (R27.appNilU (A := an13) hx16_).trans (freshU_ms (by kernel_rfl) (R27.unpack1 (A := an13) (d := 20) (K := 111) (k := 5) (cs := (enc28 p1)) (by kernel_rfl) (by decide) (by kernel_rfl) rfl (by kernel_rfl))), callOK_bool (ev33 n _ _ _ hx9_) c1_, congrArg AV.bool c0_, R27.lenOb p1.fArgs, trivial⟩
    ·
      exact run_at (S := sp13_4) (G := []) (sc := [(4, .eq (.int .i64 (p1.fArgs.length : Int))), (0, .eq (.bool true)), (2, .call 33 (.bool false) (outs33 x9_))]) (obs := [CallOK Try.prog ann 33 [.ptr (enc57 c0), .int .i64 2] (.bool false) (outs33 x9_), AV.bool (decide ((p1.fArgs.length : Int) > 0)) = .bool true, AV.int .i64 ((rows28 p1.fArgs).length : Int) = .int .i64 (p1.fArgs.length : Int)]) (by kernel_rfl) ⟨callOK_bool (ev33 n _ _ _ hx9_) c1_, congrArg AV.bool c0_, R27.lenOb p1.fArgs, trivial⟩ (b13_3 s_13 hs_13 n _ _ _ h24_)
  ·
    exact run_at (S := sp13_4) (G := []) (sc := [(4, .eq (.int .i64 (p1.fArgs.length : Int))), (0, .eq (.bool false))]) (obs := [AV.bool (decide ((p1.fArgs.length : Int) > 0)) = .bool false, AV.int .i64 ((rows28 p1.fArgs).length : Int) = .int .i64 (p1.fArgs.length : Int)]) (by kernel_rfl) ⟨congrArg AV.bool c0_, R27.lenOb p1.fArgs, trivial⟩ (b13_3 s_13 hs_13 n _ _ _ h22_)

def F13 : Nat → TCase → TPredicate → Option (TPredicate × TCase)
  | 0, _, _ => none
  | n + 1, c0, p1 => B13_4 (F13 n) n c0 p1
theorem ev13 : ∀ (n : Nat) (c0 : TCase) (p1 : TPredicate) (r : (TPredicate × TCase)), F13 n c0 p1 = some r → CallOK Try.prog ann 13 [.ptr (enc57 c0), .agg (enc28 p1)] (res13 r) (outs13 r)
  | 0, _, _, _, h => by simp [F13] at h
  | n + 1, c0, p1, r, h => call_of_at (E := e13) (s := st13_4 c0 p1) body13 Try.func13 (by kernel_rfl) (by kernel_rfl) (by kernel_rfl) (by kernel_rfl) (by kernel_rfl) (emptyOK_of (by kernel_rfl)) (by kernel_rfl) (b13_4 (F13 n) (ev13 n) n c0 p1 r h)

/-- partsync/predicate.columnKinds -/
noncomputable def e35 : Env := { P := Try.prog, ann := ann, f := 35, fn := Try.f35, ptrs := [], rets := [(2, .same)] }
def st35_0 (t5 : (List Int)) (t6 : Int) (t7 : Int) : LS := ⟨[(5, .slice .sh (rows3 t5)), (6, .int .i64 t6), (7, .int .i64 t7)], []⟩
def st35_1  : LS := ⟨[], []⟩
def st35_2 (list0 : (List Int)) : LS := ⟨[(0, .slice .sh (rows3 list0))], []⟩
def sp35_0 : Stops := [([0, 1, 0, 1], [(5, .nrm), (6, .same), (7, .same)], []), ([1, 1], [], [])]
def B35_0 (k_1 : Option Bool) (back : (List Int) → Int → Int → Option Bool) (n : Nat) (t5 : (List Int)) (t6 : Int) (t7 : Int) : Option Bool :=
  if decide (t7 < t6) then
    (idx t5 t7).bind fun x2_ =>
    if x2_ != 3 then
      if x2_ != 4 then
        if x2_ != 5 then
          some false
        else
          back t5 t6 (w64 (t7 + 1))
      else
        back t5 t6 (w64 (t7 + 1))
    else
      back t5 t6 (w64 (t7 + 1))
  else
    k_1

theorem b35_0 (k_1 : Option Bool) (hk_1 : ∀  (r : Bool), k_1 = some r → At e35 [1, 1] (st35_1) (res35 r) (outs35 r)) (back : (List Int) → Int → Int → Option Bool) (hback : ∀ (t5 : (List Int)) (t6 : Int) (t7 : Int) (r : Bool), back t5 t6 t7 = some r → At e35 [0, 1, 0, 1] (st35_0 t5 t6 t7) (res35 r) (outs35 r)) (n : Nat) (t5 : (List Int)) (t6 : Int) (t7 : Int) (r : Bool) (h : B35_0 k_1 back n t5 t6 t7 = some r) : At e35 [0, 1, 0, 1] (st35_0 t5 t6 t7) (res35 r) (outs35 r) := by
  unfold B35_0 at h
  refine ite_elim h (fun c0_ h1_ => ?_) (fun c0_ h1_ => ?_)
  ·
    refine bind_elim h1_ (fun x2_ hx2_ h2_ => ?_)
    refine ite_elim h2_ (fun c1_ h3_ => ?_) (fun c1_ h3_ => ?_)
    ·
      refine ite_elim h3_ (fun c2_ h4_ => ?_) (fun c2_ h4_ => ?_)
      ·
        refine ite_elim h4_ (fun c3_ h5_ => ?_) (fun c3_ h5_ => ?_)
        ·
          have e_ := Option.some.inj h5_
          subst e_
          exact run_ret (S := sp35_0) (G := []) (sc := [(0, .eq (.bool true)), (0, .core ⟨[(9, .imm (enc3 x2_))], []⟩), (3, .eq (.bool true)), (2, .eq (.bool true)), (3, .eq (.bool true))]) (obs := [AV.bool (x2_ != 5) = .bool true, AV.bool (x2_ != 4) = .bool true, AV.bool (x2_ != 3) = .bool true, indexAddrA Try.prog an35 (some 9) 30 (.slice .sh (rows3 t5)) (.int .i64 t7) = some ⟨[(9, .imm (enc3 x2_))], []⟩, AV.bool (decide (t7 < t6)) = .bool true]) (by kernel_rfl) ⟨congrArg AV.bool c3_, congrArg AV.bool c2_, congrArg AV.bool c1_, R30.idxOb (A := an35) hx2_, congrArg AV.bool c0_, trivial⟩
        ·
          exact run_at (S := sp35_0) (G := []) (sc := [(0, .eq (.bool true)), (0, .core ⟨[(9, .imm (enc3 x2_))], []⟩), (3, .eq (.bool true)), (2, .eq (.bool true)), (3, .eq (.bool false))]) (obs := [AV.bool (x2_ != 5) = .bool false, AV.bool (x2_ != 4) = .bool true, AV.bool (x2_ != 3) = .bool true, indexAddrA Try.prog an35 (some 9) 30 (.slice .sh (rows3 t5)) (.int .i64 t7) = some ⟨[(9, .imm (enc3 x2_))], []⟩, AV.bool (decide (t7 < t6)) = .bool true]) (by kernel_rfl) ⟨congrArg AV.bool c3_, congrArg AV.bool c2_, congrArg AV.bool c1_, R30.idxOb (A := an35) hx2_, congrArg AV.bool c0_, trivial⟩ (hback _ _ _ _ h5_)
      ·
        exact run_at (S := sp35_0) (G := []) (sc := [(0, .eq (.bool true)), (0, .core ⟨[(9, .imm (enc3 x2_))], []⟩), (3, .eq (.bool true)), (2, .eq (.bool false))]) (obs := [AV.bool (x2_ != 4) = .bool false, AV.bool (x2_ != 3) = .bool true, indexAddrA Try.prog an35 (some 9) 30 (.slice .sh (rows3 t5)) (.int .i64 t7) = some ⟨[(9, .imm (enc3 x2_))], []⟩, AV.bool (decide (t7 < t6)) = .bool true]) (by kernel_rfl) ⟨congrArg AV.bool c2_, congrArg AV.bool c1_, R30.idxOb (A := an35) hx2_, congrArg AV.bool c0_, trivial⟩ (hback _ _ _ _ h4_)
    ·
      exact run_at (S := sp35_0) (G := []) (sc := [(0, .eq (.bool true)), (0, .core ⟨[(9, .imm (enc3 x2_))], []⟩), (3, .eq (.bool false))]) (obs := [AV.bool (x2_ != 3) = .bool false, indexAddrA Try.prog an35 (some 9) 30 (.slice .sh (rows3 t5)) (.int .i64 t7) = some ⟨[(9, .imm (enc3 x2_))], []⟩, AV.bool (decide (t7 < t6)) = .bool true]) (by kernel_rfl) ⟨congrArg AV.bool c1_, R30.idxOb (A := an35) hx2_, congrArg AV.bool c0_, trivial⟩ (hback _ _ _ _ h3_)
  ·
    exact run_at (S := sp35_0) (G := []) (sc := [(0, .eq (.bool false))]) (obs := [AV.bool (decide (t7 < t6)) = .bool false]) (by kernel_rfl) ⟨congrArg AV.bool c0_, trivial⟩ (hk_1 _ h1_)

def L35_0 (k_1 : Option Bool) : Nat → (List Int) → Int → Int → Option Bool
  | 0, _, _, _ => none
  | n + 1, t5, t6, t7 => B35_0 k_1 (L35_0 k_1 n) n t5 t6 t7
theorem l35_0 (k_1 : Option Bool) (hk_1 : ∀  (r : Bool), k_1 = some r → At e35 [1, 1] (st35_1) (res35 r) (outs35 r)) : ∀ (n : Nat) (t5 : (List Int)) (t6 : Int) (t7 : Int) (r : Bool), L35_0 k_1 n t5 t6 t7 = some r → At e35 [0, 1, 0, 1] (st35_0 t5 t6 t7) (res35 r) (outs35 r)
  | 0, _, _, _, _, h => by simp [L35_0] at h
  | n + 1, t5, t6, t7, r, h => b35_0 k_1 hk_1 (L35_0 k_1 n) (l35_0 k_1 hk_1 n) n t5 t6 t7 r h
def sp35_1 : Stops := []
def B35_1 (n : Nat)  : Option Bool :=
  some true

theorem b35_1 (n : Nat)  (r : Bool) (h : B35_1 n = some r) : At e35 [1, 1] (st35_1) (res35 r) (outs35 r) := by
  unfold B35_1 at h
  have e_ := Option.some.inj h
  subst e_
  exact run_ret (S := sp35_1) (G := []) (sc := []) (obs := []) (by kernel_rfl) trivial

def sp35_2 : Stops := [([0, 1, 0, 1], [(5, .nrm), (6, .same), (7, .same)], [])]
def B35_2 (n : Nat) (list0 : (List Int)) : Option Bool :=
  L35_0 (B35_1 n) n list0 (list0.length : Int) 0

theorem b35_2 (n : Nat) (list0 : (List Int)) (r : Bool) (h : B35_2 n list0 = some r) : At e35 [] (st35_2 list0) (res35 r) (outs35 r) := by
  unfold B35_2 at h
  exact run_at (S := sp35_2) (G := []) (sc := [(2, .eq (.int .i64 (list0.length : Int)))]) (obs := [AV.int .i64 ((rows3 list0).length : Int) = .int .i64 (list0.length : Int)]) (by kernel_rfl) ⟨R30.lenOb list0, trivial⟩ (l35_0 (B35_1 n) (b35_1 n) n _ _ _ _ h)

def F35 (n : Nat) (list0 : (List Int)) : Option Bool := B35_2 n list0
theorem ev35 (n : Nat) (list0 : (List Int)) (r : Bool) (h : F35 n list0 = some r) : CallOK Try.prog ann 35 [.slice .sh (rows3 list0)] (res35 r) (outs35 r) :=
  call_of_at (E := e35) (s := st35_2 list0) body35 Try.func35 (by kernel_rfl) (by kernel_rfl) (by kernel_rfl) (by kernel_rfl) (by kernel_rfl) (emptyOK_of (by kernel_rfl)) (by kernel_rfl) (b35_2 n list0 r h)

/-- partsync/predicate.small -/
noncomputable def e36 : Env := { P := Try.prog, ann := ann, f := 36, fn := Try.f36, ptrs := [2], rets := [(6, .same)] }
def st36_0 (level1 : Int) (t23 : (List TPredicate)) (t24 : Int) (t25 : Int) (bbudget2 : Int) : LS := ⟨[(1, .int .i64 level1), (2, .loc 2 0), (23, .slice .sh (rows28 t23)), (24, .int .i64 t24), (25, .int .i64 t25)], [(2, [.int .i64 bbudget2])]⟩
def st36_1 (bbudget2 : Int) : LS := ⟨[], [(2, [.int .i64 bbudget2])]⟩
def st36_2 (p0 : TPredicate) (level1 : Int) (budget2 : Int) : LS := ⟨[(0, .agg (enc28 p0)), (1, .int .i64 level1), (2, .loc 2 0)], [(2, [.int .i64 budget2])]⟩
def sp36_0 : Stops := [([0, 1, 0, 1, 1, 1], [(1, .same), (2, .same), (23, .nrm), (24, .same), (25, .same)], [(2, [.same])]), ([1, 1, 1, 1], [], [(2, [.same])])]
def B36_0 (s_36 : TPredicate → Int → Int → Option (Bool × Int)) (k_1 : Int → Option (Bool × Int)) (back : Int → (List TPredicate) → Int → Int → Int → Option (Bool × Int)) (n : Nat) (level1 : Int) (t23 : (List TPredicate)) (t24 : Int) (t25 : Int) (bbudget2 : Int) : Option (Bool × Int) :=
  if decide (t25 < t24) then
    (idx t23 t25).bind fun x2_ =>
    (s_36 x2_ (w64 (level1 + 1)) bbudget2).bind fun x10_ =>
    if !x10_.1 then
      some (false, x10_.2)
    else
      back level1 t23 t24 (w64 (t25 + 1)) x10_.2
  else
    k_1 bbudget2

theorem b36_0 (s_36 : TPredicate → Int → Int → Option (Bool × Int)) (hs_36 : ∀ (a0_ : TPredicate) (a1_ : Int) (a2_ : Int) (r : (Bool × Int)), s_36 a0_ a1_ a2_ = some r → CallOK Try.prog ann 36 [.agg (enc28 a0_), .int .i64 a1_, .ptr (enc3 a2_)] (res36 r) (outs36 r)) (k_1 : Int → Option (Bool × Int)) (hk_1 : ∀ (bbudget2 : Int) (r : (Bool × Int)), k_1 bbudget2 = some r → At e36 [1, 1, 1, 1] (st36_1 bbudget2) (res36 r) (outs36 r)) (back : Int → (List TPredicate) → Int → Int → Int → Option (Bool × Int)) (hback : ∀ (level1 : Int) (t23 : (List TPredicate)) (t24 : Int) (t25 : Int) (bbudget2 : Int) (r : (Bool × Int)), back level1 t23 t24 t25 bbudget2 = some r → At e36 [0, 1, 0, 1, 1, 1] (st36_0 level1 t23 t24 t25 bbudget2) (res36 r) (outs36 r)) (n : Nat) (level1 : Int) (t23 : (List TPredicate)) (t24 : Int) (t25 : Int) (bbudget2 : Int) (r : (Bool × Int)) (h : B36_0 s_36 k_1 back n level1 t23 t24 t25 bbudget2 = some r) : At e36 [0, 1, 0, 1, 1, 1] (st36_0 level1 t23 t24 t25 bbudget2) (res36 r) (outs36 r) := by
  unfold B36_0 at h
  refine ite_elim h (fun c0_ h1_ => ?_) (fun c0_ h1_ => ?_)
  ·
    refine bind_elim h1_ (fun x2_ hx2_ h2_ => ?_)
    refine bind_elim h2_ (fun x10_ hx10_ h3_ => ?_)
    refine ite_elim h3_ (fun c1_ h4_ => ?_) (fun c1_ h4_ => ?_)
    ·
      have e_ := Option.some.inj h4_
      subst e_
      exact run_ret (S := sp36_0) (G := []) (sc := [(0, .eq (.bool true)), (0, .core ⟨[(27, .imm (enc28 x2_))], []⟩), (7, .call 36 (res36 x10_) (outs36 x10_)), (0, .eq (.bool true))]) (obs := [AV.bool (!x10_.1) = .bool true, CallOK Try.prog ann 36 [.agg (enc28 x2_), .int .i64 (w64 (level1 + 1)), .ptr [.int .i64 bbudget2]] (res36 x10_) (outs36 x10_), indexAddrA Try.prog an36 (some 27) 27 (.slice .sh (rows28 t23)) (.int .i64 t25) = some ⟨[(27, .imm (enc28 x2_))], []⟩, AV.bool (decide (t25 < t24)) = .bool true]) (by kernel_rfl) ⟨congrArg AV.bool c1_, hs_36 _ _ _ _ hx10_, R27.idxOb (A := an36) hx2_, congrArg AV.bool c0_, trivial⟩
    ·
      exact run_at (S := sp36_0) (G := []) (sc := [(0, .eq (.bool true)), (0, .core ⟨[(27, .imm (enc28 x2_))], []⟩), (7, .call 36 (res36 x10_) (outs36 x10_)), (0, .eq (.bool false))]) (obs := [AV.bool (!x10_.1) = .bool false, CallOK Try.prog ann 36 [.agg (enc28 x2_), .int .i64 (w64 (level1 + 1)), .ptr [.int .i64 bbudget2]] (res36 x10_) (outs36 x10_), indexAddrA Try.prog an36 (some 27) 27 (.slice .sh (rows28 t23)) (.int .i64 t25) = some ⟨[(27, .imm (enc28 x2_))], []⟩, AV.bool (decide (t25 < t24)) = .bool true]) (by kernel_rfl) ⟨congrArg AV.bool c1_, hs_36 _ _ _ _ hx10_, R27.idxOb (A := an36) hx2_, congrArg AV.bool c0_, trivial⟩ (hback _ _ _ _ _ _ h4_)
  ·
    exact run_at (S := sp36_0) (G := []) (sc := [(0, .eq (.bool false))]) (obs := [AV.bool (decide (t25 < t24)) = .bool false]) (by kernel_rfl) ⟨congrArg AV.bool c0_, trivial⟩ (hk_1 _ _ h1_)

def L36_0 (s_36 : TPredicate → Int → Int → Option (Bool × Int)) (k_1 : Int → Option (Bool × Int)) : Nat → Int → (List TPredicate) → Int → Int → Int → Option (Bool × Int)
  | 0, _, _, _, _, _ => none
  | n + 1, level1, t23, t24, t25, bbudget2 => B36_0 s_36 k_1 (L36_0 s_36 k_1 n) n level1 t23 t24 t25 bbudget2
theorem l36_0 (s_36 : TPredicate → Int → Int → Option (Bool × Int)) (hs_36 : ∀ (a0_ : TPredicate) (a1_ : Int) (a2_ : Int) (r : (Bool × Int)), s_36 a0_ a1_ a2_ = some r → CallOK Try.prog ann 36 [.agg (enc28 a0_), .int .i64 a1_, .ptr (enc3 a2_)] (res36 r) (outs36 r)) (k_1 : Int → Option (Bool × Int)) (hk_1 : ∀ (bbudget2 : Int) (r : (Bool × Int)), k_1 bbudget2 = some r → At e36 [1, 1, 1, 1] (st36_1 bbudget2) (res36 r) (outs36 r)) : ∀ (n : Nat) (level1 : Int) (t23 : (List TPredicate)) (t24 : Int) (t25 : Int) (bbudget2 : Int) (r : (Bool × Int)), L36_0 s_36 k_1 n level1 t23 t24 t25 bbudget2 = some r → At e36 [0, 1, 0, 1, 1, 1] (st36_0 level1 t23 t24 t25 bbudget2) (res36 r) (outs36 r)
  | 0, _, _, _, _, _, _, h => by simp [L36_0] at h
  | n + 1, level1, t23, t24, t25, bbudget2, r, h => b36_0 s_36 hs_36 k_1 hk_1 (L36_0 s_36 k_1 n) (l36_0 s_36 hs_36 k_1 hk_1 n) n level1 t23 t24 t25 bbudget2 r h
def sp36_1 : Stops := []
def B36_1 (s_36 : TPredicate → Int → Int → Option (Bool × Int)) (n : Nat) (bbudget2 : Int) : Option (Bool × Int) :=
  some (true, bbudget2)

theorem b36_1 (s_36 : TPredicate → Int → Int → Option (Bool × Int)) (hs_36 : ∀ (a0_ : TPredicate) (a1_ : Int) (a2_ : Int) (r : (Bool × Int)), s_36 a0_ a1_ a2_ = some r → CallOK Try.prog ann 36 [.agg (enc28 a0_), .int .i64 a1_, .ptr (enc3 a2_)] (res36 r) (outs36 r)) (n : Nat) (bbudget2 : Int) (r : (Bool × Int)) (h : B36_1 s_36 n bbudget2 = some r) : At e36 [1, 1, 1, 1] (st36_1 bbudget2) (res36 r) (outs36 r) := by
  unfold B36_1 at h
  have e_ := Option.some.inj h
  subst e_
  exact run_ret (S := sp36_1) (G := []) (sc := []) (obs := []) (by kernel_rfl) trivial

def sp36_2 : Stops := [([0, 1, 0, 1, 1, 1], [(1, .same), (2, .same), (23, .nrm), (24, .same), (25, .same)], [(2, [.same])])]
def B36_2 (s_36 : TPredicate → Int → Int → Option (Bool × Int)) (n : Nat) (p0 : TPredicate) (level1 : Int) (budget2 : Int) : Option (Bool × Int) :=
  if decide ((w64 (budget2 - 1)) < 0) then
    some (false, w64 (budget2 - 1))
  else
    if decide (level1 > 8) then
      some (false, w64 (budget2 - 1))
    else
      L36_0 s_36 (B36_1 s_36 n) n level1 p0.fArgs (p0.fArgs.length : Int) 0 (w64 (budget2 - 1))

theorem b36_2 (s_36 : TPredicate → Int → Int → Option (Bool × Int)) (hs_36 : ∀ (a0_ : TPredicate) (a1_ : Int) (a2_ : Int) (r : (Bool × Int)), s_36 a0_ a1_ a2_ = some r → CallOK Try.prog ann 36 [.agg (enc28 a0_), .int .i64 a1_, .ptr (enc3 a2_)] (res36 r) (outs36 r)) (n : Nat) (p0 : TPredicate) (level1 : Int) (budget2 : Int) (r : (Bool × Int)) (h : B36_2 s_36 n p0 level1 budget2 = some r) : At e36 [] (st36_2 p0 level1 budget2) (res36 r) (outs36 r) := by
  unfold B36_2 at h
  refine ite_elim h (fun c0_ h5_ => ?_) (fun c0_ h5_ => ?_)
  ·
    have e_ := Option.some.inj h5_
    subst e_
    exact run_ret (S := sp36_2) (G := []) (sc := [(11, .eq (.bool true))]) (obs := [AV.bool (decide ((w64 (budget2 - 1)) < 0)) = .bool true]) (by kernel_rfl) ⟨congrArg AV.bool c0_, trivial⟩
  ·
    refine ite_elim h5_ (fun c1_ h6_ => ?_) (fun c1_ h6_ => ?_)
    ·
      have e_ := Option.some.inj h6_
      subst e_
      exact run_ret (S := sp36_2) (G := []) (sc := [(11, .eq (.bool false)), (2, .eq (.bool true))]) (obs := [AV.bool (decide (level1 > 8)) = .bool true, AV.bool (decide ((w64 (budget2 - 1)) < 0)) = .bool false]) (by kernel_rfl) ⟨congrArg AV.bool c1_, congrArg AV.bool c0_, trivial⟩
    ·
      exact run_at (S := sp36_2) (G := []) (sc := [(11, .eq (.bool false)), (2, .eq (.bool false)), (3, .eq (.int .i64 (p0.fArgs.length : Int)))]) (obs := [AV.int .i64 ((rows28 p0.fArgs).length : Int) = .int .i64 (p0.fArgs.length : Int), AV.bool (decide (level1 > 8)) = .bool false, AV.bool (decide ((w64 (budget2 - 1)) < 0)) = .bool false]) (by kernel_rfl) ⟨R27.lenOb p0.fArgs, congrArg AV.bool c1_, congrArg AV.bool c0_, trivial⟩ (l36_0 s_36 hs_36 (B36_1 s_36 n) (b36_1 s_36 hs_36 n) n _ _ _ _ _ _ h6_)

def F36 : Nat → TPredicate → Int → Int → Option (Bool × Int)
  | 0, _, _, _ => none
  | n + 1, p0, level1, budget2 => B36_2 (F36 n) n p0 level1 budget2
theorem ev36 : ∀ (n : Nat) (p0 : TPredicate) (level1 : Int) (budget2 : Int) (r : (Bool × Int)), F36 n p0 level1 budget2 = some r → CallOK Try.prog ann 36 [.agg (enc28 p0), .int .i64 level1, .ptr (enc3 budget2)] (res36 r) (outs36 r)
  | 0, _, _, _, _, h => by simp [F36] at h
  | n + 1, p0, level1, budget2, r, h => call_of_at (E := e36) (s := st36_2 p0 level1 budget2) body36 Try.func36 (by kernel_rfl) (by kernel_rfl) (by kernel_rfl) (by kernel_rfl) (by kernel_rfl) (emptyOK_of (by kernel_rfl)) (by kernel_rfl) (b36_2 (F36 n) (ev36 n) n p0 level1 budget2 r h)

/-- partsync/value.Valid -/
noncomputable def e63 : Env := { P := Try.prog, ann := ann, f := 63, fn := Try.f63, ptrs := [], rets := [(2, .same)] }
def st63_0 (v0 : TValue) : LS := ⟨[(0, .agg (enc23 v0))], []⟩
def sp63_0 : Stops := []
def B63_0 (n : Nat) (v0 : TValue) : Option Bool :=
  if v0.fKind == 1 then
    if v0.fInt == 0 then
      some (decide (v0.fText = ByteArray.empty))
    else
      some false
  else
    if v0.fKind == 2 then
      if v0.fInt == 0 then
        some (decide (v0.fText = ByteArray.empty))
      else
        some false
    else
      if v0.fKind == 3 then
        if v0.fInt == 0 then
          some (decide (v0.fText = ByteArray.empty))
        else
          if v0.fInt == 1 then
            some (decide (v0.fText = ByteArray.empty))
          else
            some false
      else
        if v0.fKind == 4 then
          some (decide (v0.fText = ByteArray.empty))
        else
          if v0.fKind == 5 then
            if v0.fInt == 0 then
              some (decide ((v0.fText.size : Int) ≤ 64))
            else
              some false
          else
            some false

theorem b63_0 (n : Nat) (v0 : TValue) (r : Bool) (h : B63_0 n v0 = some r) : At e63 [] (st63_0 v0) (res63 r) (outs63 r) := by
  unfold B63_0 at h
  refine ite_elim h (fun c0_ h1_ => ?_) (fun c0_ h1_ => ?_)
  ·
    refine ite_elim h1_ (fun c1_ h2_ => ?_) (fun c1_ h2_ => ?_)
    ·
      have e_ := Option.some.inj h2_
      subst e_
      exact run_ret (S := sp63_0) (G := []) (sc := [(4, .eq (.bool true)), (3, .eq (.bool true))]) (obs := [AV.bool (v0.fInt == 0) = .bool true, AV.bool (v0.fKind == 1) = .bool true]) (by kernel_rfl) ⟨congrArg AV.bool c1_, congrArg AV.bool c0_, trivial⟩
    ·
      have e_ := Option.some.inj h2_
      subst e_
      exact run_ret (S := sp63_0) (G := []) (sc := [(4, .eq (.bool true)), (3, .eq (.bool false))]) (obs := [AV.bool (v0.fInt == 0) = .bool false, AV.bool (v0.fKind == 1) = .bool true]) (by kernel_rfl) ⟨congrArg AV.bool c1_, congrArg AV.bool c0_, trivial⟩
  ·
    refine ite_elim h1_ (fun c1_ h3_ => ?_) (fun c1_ h3_ => ?_)
    ·
      refine ite_elim h3_ (fun c2_ h4_ => ?_) (fun c2_ h4_ => ?_)
      ·
        have e_ := Option.some.inj h4_
        subst e_
        exact run_ret (S := sp63_0) (G := []) (sc := [(4, .eq (.bool false)), (1, .eq (.bool true)), (3, .eq (.bool true))]) (obs := [AV.bool (v0.fInt == 0) = .bool true, AV.bool (v0.fKind == 2) = .bool true, AV.bool (v0.fKind == 1) = .bool false]) (by kernel_rfl) ⟨congrArg AV.bool c2_, congrArg AV.bool c1_, congrArg AV.bool c0_, trivial⟩
      ·
        have e_ := Option.some.inj h4_
        subst e_
        exact run_ret (S := sp63_0) (G := []) (sc := [(4, .eq (.bool false)), (1, .eq (.bool true)), (3, .eq (.bool false))]) (obs := [AV.bool (v0.fInt == 0) = .bool false, AV.bool (v0.fKind == 2) = .bool true, AV.bool (v0.fKind == 1) = .bool false]) (by kernel_rfl) ⟨congrArg AV.bool c2_, congrArg AV.bool c1_, congrArg AV.bool c0_, trivial⟩
    ·
      refine ite_elim h3_ (fun c2_ h5_ => ?_) (fun c2_ h5_ => ?_)
      ·
        refine ite_elim h5_ (fun c3_ h6_ => ?_) (fun c3_ h6_ => ?_)
        ·
          have e_ := Option.some.inj h6_
          subst e_
          exact run_ret (S := sp63_0) (G := []) (sc := [(4, .eq (.bool false)), (1, .eq (.bool false)), (1, .eq (.bool true)), (3, .eq (.bool true))]) (obs := [AV.bool (v0.fInt == 0) = .bool true, AV.bool (v0.fKind == 3) = .bool true, AV.bool (v0.fKind == 2) = .bool false, AV.bool (v0.fKind == 1) = .bool false]) (by kernel_rfl) ⟨congrArg AV.bool c3_, congrArg AV.bool c2_, congrArg AV.bool c1_, congrArg AV.bool c0_, trivial⟩
        ·
          refine ite_elim h6_ (fun c4_ h7_ => ?_) (fun c4_ h7_ => ?_)
          ·
            have e_ := Option.some.inj h7_
            subst e_
            exact run_ret (S := sp63_0) (G := []) (sc := [(4, .eq (.bool false)), (1, .eq (.bool false)), (1, .eq (.bool true)), (3, .eq (.bool false)), (3, .eq (.bool true))]) (obs := [AV.bool (v0.fInt == 1) = .bool true, AV.bool (v0.fInt == 0) = .bool false, AV.bool (v0.fKind == 3) = .bool true, AV.bool (v0.fKind == 2) = .bool false, AV.bool (v0.fKind == 1) = .bool false]) (by kernel_rfl) ⟨congrArg AV.bool c4_, congrArg AV.bool c3_, congrArg AV.bool c2_, congrArg AV.bool c1_, congrArg AV.bool c0_, trivial⟩
          ·
            have e_ := Option.some.inj h7_
            subst e_
            exact run_ret (S := sp63_0) (G := []) (sc := [(4, .eq (.bool false)), (1, .eq (.bool false)), (1, .eq (.bool true)), (3, .eq (.bool false)), (3, .eq (.bool false))]) (obs := [AV.bool (v0.fInt == 1) = .bool false, AV.bool (v0.fInt == 0) = .bool false, AV.bool (v0.fKind == 3) = .bool true, AV.bool (v0.fKind == 2) = .bool false, AV.bool (v0.fKind == 1) = .bool false]) (by kernel_rfl) ⟨congrArg AV.bool c4_, congrArg AV.bool c3_, congrArg AV.bool c2_, congrArg AV.bool c1_, congrArg AV.bool c0_, trivial⟩
      ·
        refine ite_elim h5_ (fun c3_ h8_ => ?_) (fun c3_ h8_ => ?_)
        ·
          have e_ := Option.some.inj h8_
          subst e_
          exact run_ret (S := sp63_0) (G := []) (sc := [(4, .eq (.bool false)), (1, .eq (.bool false)), (1, .eq (.bool false)), (1, .eq (.bool true))]) (obs := [AV.bool (v0.fKind == 4) = .bool true, AV.bool (v0.fKind == 3) = .bool false, AV.bool (v0.fKind == 2) = .bool false, AV.bool (v0.fKind == 1) = .bool false]) (by kernel_rfl) ⟨congrArg AV.bool c3_, congrArg AV.bool c2_, congrArg AV.bool c1_, congrArg AV.bool c0_, trivial⟩
        ·
          refine ite_elim h8_ (fun c4_ h9_ => ?_) (fun c4_ h9_ => ?_)
          ·
            refine ite_elim h9_ (fun c5_ h10_ => ?_) (fun c5_ h10_ => ?_)
            ·
              have e_ := Option.some.inj h10_
              subst e_
              exact run_ret (S := sp63_0) (G := []) (sc := [(4, .eq (.bool false)), (1, .eq (.bool false)), (1, .eq (.bool false)), (1, .eq (.bool false)), (1, .eq (.bool true)), (3, .eq (.bool true))]) (obs := [AV.bool (v0.fInt == 0) = .bool true, AV.bool (v0.fKind == 5) = .bool true, AV.bool (v0.fKind == 4) = .bool false, AV.bool (v0.fKind == 3) = .bool false, AV.bool (v0.fKind == 2) = .bool false, AV.bool (v0.fKind == 1) = .bool false]) (by kernel_rfl) ⟨congrArg AV.bool c5_, congrArg AV.bool c4_, congrArg AV.bool c3_, congrArg AV.bool c2_, congrArg AV.bool c1_, congrArg AV.bool c0_, trivial⟩
            ·
              have e_ := Option.some.inj h10_
              subst e_
              exact run_ret (S := sp63_0) (G := []) (sc := [(4, .eq (.bool false)), (1, .eq (.bool false)), (1, .eq (.bool false)), (1, .eq (.bool false)), (1, .eq (.bool true)), (3, .eq (.bool false))]) (obs := [AV.bool (v0.fInt == 0) = .bool false, AV.bool (v0.fKind == 5) = .bool true, AV.bool (v0.fKind == 4) = .bool false, AV.bool (v0.fKind == 3) = .bool false, AV.bool (v0.fKind == 2) = .bool false, AV.bool (v0.fKind == 1) = .bool false]) (by kernel_rfl) ⟨congrArg AV.bool c5_, congrArg AV.bool c4_, congrArg AV.bool c3_, congrArg AV.bool c2_, congrArg AV.bool c1_, congrArg AV.bool c0_, trivial⟩
          ·
            have e_ := Option.some.inj h9_
            subst e_
            exact run_ret (S := sp63_0) (G := []) (sc := [(4, .eq (.bool false)), (1, .eq (.bool false)), (1, .eq (.bool false)), (1, .eq (.bool false)), (1, .eq (.bool false))]) (obs := [AV.bool (v0.fKind == 5) = .bool false, AV.bool (v0.fKind == 4) = .bool false, AV.bool (v0.fKind == 3) = .bool false, AV.bool (v0.fKind == 2) = .bool false, AV.bool (v0.fKind == 1) = .bool false]) (by kernel_rfl) ⟨congrArg AV.bool c4_, congrArg AV.bool c3_, congrArg AV.bool c2_, congrArg AV.bool c1_, congrArg AV.bool c0_, trivial⟩

def F63 (n : Nat) (v0 : TValue) : Option Bool := B63_0 n v0
theorem ev63 (n : Nat) (v0 : TValue) (r : Bool) (h : F63 n v0 = some r) : CallOK Try.prog ann 63 [.agg (enc23 v0)] (res63 r) (outs63 r) :=
  call_of_at (E := e63) (s := st63_0 v0) body63 Try.func63 (by kernel_rfl) (by kernel_rfl) (by kernel_rfl) (by kernel_rfl) (by kernel_rfl) (emptyOK_of (by kernel_rfl)) (by kernel_rfl) (b63_0 n v0 r h)

end Go.Proofs.Ytalbakjfbgkjjaa
