/- Functions of the program as plain functions, and that the program answers as they do; written by a program (comp.py). -/
import Derived.Test.YtalbakjfbgkjjaaFun0
set_option maxRecDepth 100000
set_option linter.all false
namespace Go.Proofs.Ytalbakjfbgkjjaa
open Go.Abs

/-- partsync/partsyncref05.Check -/
noncomputable def e16 : Env := { P := Try.prog, ann := ann, f := 16, fn := Try.f16, ptrs := [], rets := [(6, .same)] }
def st16_0 (columns0 : (List Int)) (params1 : (List Int)) (p2 : TPredicate) : LS := ⟨[(0, .slice .sh (rows3 columns0)), (1, .slice .sh (rows3 params1)), (2, .agg (enc28 p2))], []⟩
def sp16_0 : Stops := []
def B16_0 (n : Nat) (columns0 : (List Int)) (params1 : (List Int)) (p2 : TPredicate) : Option Int :=
  (F38 n columns0).bind fun x4_ =>
  if !x4_ then
    some 1
  else
    (F38 n params1).bind fun x8_ =>
    if !x8_ then
      some 1
    else
      (F39 n p2 0).bind fun x12_ =>
      if decide (x12_ > 24) then
        some 2
      else
        (F40 n p2 8).bind fun x16_ =>
        if x16_ then
          some 2
        else
          (F41 n columns0 params1 p2).bind fun x21_ =>
          if !x21_ then
            some 50
          else
            some 0

theorem b16_0 (n : Nat) (columns0 : (List Int)) (params1 : (List Int)) (p2 : TPredicate) (r : Int) (h : B16_0 n columns0 params1 p2 = some r) : At e16 [] (st16_0 columns0 params1 p2) (res16 r) (outs16 r) := by
  unfold B16_0 at h
  refine bind_elim h (fun x4_ hx4_ h1_ => ?_)
  refine ite_elim h1_ (fun c0_ h2_ => ?_) (fun c0_ h2_ => ?_)
  ·
    have e_ := Option.some.inj h2_
    subst e_
    exact run_ret (S := sp16_0) (G := []) (sc := [(3, .call 38 (res38 x4_) (outs38 x4_)), (0, .eq (.bool true))]) (obs := [AV.bool (!x4_) = .bool true, CallOK Try.prog ann 38 [.slice .sh (rows3 columns0)] (res38 x4_) (outs38 x4_)]) (by kernel_rfl) ⟨congrArg AV.bool c0_, ev38 n _ _ hx4_, trivial⟩
  ·
    refine bind_elim h2_ (fun x8_ hx8_ h3_ => ?_)
    refine ite_elim h3_ (fun c1_ h4_ => ?_) (fun c1_ h4_ => ?_)
    ·
      have e_ := Option.some.inj h4_
      subst e_
      exact run_ret (S := sp16_0) (G := []) (sc := [(3, .call 38 (res38 x4_) (outs38 x4_)), (0, .eq (.bool false)), (2, .call 38 (res38 x8_) (outs38 x8_)), (0, .eq (.bool true))]) (obs := [AV.bool (!x8_) = .bool true, CallOK Try.prog ann 38 [.slice .sh (rows3 params1)] (res38 x8_) (outs38 x8_), AV.bool (!x4_) = .bool false, CallOK Try.prog ann 38 [.slice .sh (rows3 columns0)] (res38 x4_) (outs38 x4_)]) (by kernel_rfl) ⟨congrArg AV.bool c1_, ev38 n _ _ hx8_, congrArg AV.bool c0_, ev38 n _ _ hx4_, trivial⟩
    ·
      refine bind_elim h4_ (fun x12_ hx12_ h5_ => ?_)
      refine ite_elim h5_ (fun c2_ h6_ => ?_) (fun c2_ h6_ => ?_)
      ·
        have e_ := Option.some.inj h6_
        subst e_
        exact run_ret (S := sp16_0) (G := []) (sc := [(3, .call 38 (res38 x4_) (outs38 x4_)), (0, .eq (.bool false)), (2, .call 38 (res38 x8_) (outs38 x8_)), (0, .eq (.bool false)), (2, .call 39 (res39 x12_) (outs39 x12_)), (0, .eq (.bool true))]) (obs := [AV.bool (decide (x12_ > 24)) = .bool true, CallOK Try.prog ann 39 [.agg (enc28 p2), .int .i64 0] (res39 x12_) (outs39 x12_), AV.bool (!x8_) = .bool false, CallOK Try.prog ann 38 [.slice .sh (rows3 params1)] (res38 x8_) (outs38 x8_), AV.bool (!x4_) = .bool false, CallOK Try.prog ann 38 [.slice .sh (rows3 columns0)] (res38 x4_) (outs38 x4_)]) (by kernel_rfl) ⟨congrArg AV.bool c2_, ev39 n _ _ _ hx12_, congrArg AV.bool c1_, ev38 n _ _ hx8_, congrArg AV.bool c0_, ev38 n _ _ hx4_, trivial⟩
      ·
        refine bind_elim h6_ (fun x16_ hx16_ h7_ => ?_)
        refine ite_elim h7_ (fun c3_ h8_ => ?_) (fun c3_ h8_ => ?_)
        ·
          subst c3_
          have e_ := Option.some.inj h8_
          subst e_
          exact run_ret (S := sp16_0) (G := []) (sc := [(3, .call 38 (res38 x4_) (outs38 x4_)), (0, .eq (.bool false)), (2, .call 38 (res38 x8_) (outs38 x8_)), (0, .eq (.bool false)), (2, .call 39 (res39 x12_) (outs39 x12_)), (0, .eq (.bool false)), (2, .call 40 (res40 true) (outs40 true))]) (obs := [CallOK Try.prog ann 40 [.agg (enc28 p2), .int .i64 8] (res40 true) (outs40 true), AV.bool (decide (x12_ > 24)) = .bool false, CallOK Try.prog ann 39 [.agg (enc28 p2), .int .i64 0] (res39 x12_) (outs39 x12_), AV.bool (!x8_) = .bool false, CallOK Try.prog ann 38 [.slice .sh (rows3 params1)] (res38 x8_) (outs38 x8_), AV.bool (!x4_) = .bool false, CallOK Try.prog ann 38 [.slice .sh (rows3 columns0)] (res38 x4_) (outs38 x4_)]) (by kernel_rfl) ⟨ev40 n _ _ _ hx16_, congrArg AV.bool c2_, ev39 n _ _ _ hx12_, congrArg AV.bool c1_, ev38 n _ _ hx8_, congrArg AV.bool c0_, ev38 n _ _ hx4_, trivial⟩
        ·
          subst c3_
          refine bind_elim h8_ (fun x21_ hx21_ h9_ => ?_)
          refine ite_elim h9_ (fun c4_ h10_ => ?_) (fun c4_ h10_ => ?_)
          ·
            have e_ := Option.some.inj h10_
            subst e_
            exact run_ret (S := sp16_0) (G := []) (sc := [(3, .call 38 (res38 x4_) (outs38 x4_)), (0, .eq (.bool false)), (2, .call 38 (res38 x8_) (outs38 x8_)), (0, .eq (.bool false)), (2, .call 39 (res39 x12_) (outs39 x12_)), (0, .eq (.bool false)), (2, .call 40 (res40 false) (outs40 false)), (4, .call 41 (res41 x21_) (outs41 x21_)), (0, .eq (.bool true))]) (obs := [AV.bool (!x21_) = .bool true, CallOK Try.prog ann 41 [.slice .sh (rows3 columns0), .slice .sh (rows3 params1), .agg (enc28 p2)] (res41 x21_) (outs41 x21_), CallOK Try.prog ann 40 [.agg (enc28 p2), .int .i64 8] (res40 false) (outs40 false), AV.bool (decide (x12_ > 24)) = .bool false, CallOK Try.prog ann 39 [.agg (enc28 p2), .int .i64 0] (res39 x12_) (outs39 x12_), AV.bool (!x8_) = .bool false, CallOK Try.prog ann 38 [.slice .sh (rows3 params1)] (res38 x8_) (outs38 x8_), AV.bool (!x4_) = .bool false, CallOK Try.prog ann 38 [.slice .sh (rows3 columns0)] (res38 x4_) (outs38 x4_)]) (by kernel_rfl) ⟨congrArg AV.bool c4_, ev41 n _ _ _ _ hx21_, ev40 n _ _ _ hx16_, congrArg AV.bool c2_, ev39 n _ _ _ hx12_, congrArg AV.bool c1_, ev38 n _ _ hx8_, congrArg AV.bool c0_, ev38 n _ _ hx4_, trivial⟩
          ·
            have e_ := Option.some.inj h10_
            subst e_
            exact run_ret (S := sp16_0) (G := []) (sc := [(3, .call 38 (res38 x4_) (outs38 x4_)), (0, .eq (.bool false)), (2, .call 38 (res38 x8_) (outs38 x8_)), (0, .eq (.bool false)), (2, .call 39 (res39 x12_) (outs39 x12_)), (0, .eq (.bool false)), (2, .call 40 (res40 false) (outs40 false)), (4, .call 41 (res41 x21_) (outs41 x21_)), (0, .eq (.bool false))]) (obs := [AV.bool (!x21_) = .bool false, CallOK Try.prog ann 41 [.slice .sh (rows3 columns0), .slice .sh (rows3 params1), .agg (enc28 p2)] (res41 x21_) (outs41 x21_), CallOK Try.prog ann 40 [.agg (enc28 p2), .int .i64 8] (res40 false) (outs40 false), AV.bool (decide (x12_ > 24)) = .bool false, CallOK Try.prog ann 39 [.agg (enc28 p2), .int .i64 0] (res39 x12_) (outs39 x12_), AV.bool (!x8_) = .bool false, CallOK Try.prog ann 38 [.slice .sh (rows3 params1)] (res38 x8_) (outs38 x8_), AV.bool (!x4_) = .bool false, CallOK Try.prog ann 38 [.slice .sh (rows3 columns0)] (res38 x4_) (outs38 x4_)]) (by kernel_rfl) ⟨congrArg AV.bool c4_, ev41 n _ _ _ _ hx21_, ev40 n _ _ _ hx16_, congrArg AV.bool c2_, ev39 n _ _ _ hx12_, congrArg AV.bool c1_, ev38 n _ _ hx8_, congrArg AV.bool c0_, ev38 n _ _ hx4_, trivial⟩

def F16 (n : Nat) (columns0 : (List Int)) (params1 : (List Int)) (p2 : TPredicate) : Option Int := B16_0 n columns0 params1 p2
theorem ev16 (n : Nat) (columns0 : (List Int)) (params1 : (List Int)) (p2 : TPredicate) (r : Int) (h : F16 n columns0 params1 p2 = some r) : CallOK Try.prog ann 16 [.slice .sh (rows3 columns0), .slice .sh (rows3 params1), .agg (enc28 p2)] (res16 r) (outs16 r) :=
  call_of_at (E := e16) (s := st16_0 columns0 params1 p2) body16 Try.func16 (by kernel_rfl) (by kernel_rfl) (by kernel_rfl) (by kernel_rfl) (by kernel_rfl) (emptyOK_of (by kernel_rfl)) (by kernel_rfl) (b16_0 n columns0 params1 p2 r h)

/-- (*partsync/partsynccase.Case).Number -/
noncomputable def e47 : Env := { P := Try.prog, ann := ann, f := 47, fn := Try.f47, ptrs := [0], rets := [(2, .same)] }
def st47_0 (c0 : TCase) : LS := ⟨[(0, .loc 0 0)], [(0, (enc57 c0))]⟩
def sp47_0 : Stops := []
def B47_0 (n : Nat) (c0 : TCase) : Option (Int × TCase) :=
  (F21 n c0 12).bind fun x3_ =>
  if x3_.1 == 9 then
    some ((-1), x3_.2)
  else
    if x3_.1 == 10 then
      some (9223372036854775807, x3_.2)
    else
      if x3_.1 == 11 then
        some ((-9223372036854775808), x3_.2)
      else
        some (Int.tmod x3_.1 4, x3_.2)

theorem b47_0 (n : Nat) (c0 : TCase) (r : (Int × TCase)) (h : B47_0 n c0 = some r) : At e47 [] (st47_0 c0) (res47 r) (outs47 r) := by
  unfold B47_0 at h
  refine bind_elim h (fun x3_ hx3_ h1_ => ?_)
  refine ite_elim h1_ (fun c0_ h2_ => ?_) (fun c0_ h2_ => ?_)
  ·
    have e_ := Option.some.inj h2_
    subst e_
    exact run_ret (S := sp47_0) (G := []) (sc := [(2, .call 21 (res21 x3_) (outs21 x3_)), (2, .eq (.bool true))]) (obs := [AV.bool (x3_.1 == 9) = .bool true, CallOK Try.prog ann 21 [.ptr (enc57 c0), .int .i64 12] (res21 x3_) (outs21 x3_)]) (by kernel_rfl) ⟨congrArg AV.bool c0_, ev21 n _ _ _ hx3_, trivial⟩
  ·
    refine ite_elim h2_ (fun c1_ h3_ => ?_) (fun c1_ h3_ => ?_)
    ·
      have e_ := Option.some.inj h3_
      subst e_
      exact run_ret (S := sp47_0) (G := []) (sc := [(2, .call 21 (res21 x3_) (outs21 x3_)), (2, .eq (.bool false)), (1, .eq (.bool true))]) (obs := [AV.bool (x3_.1 == 10) = .bool true, AV.bool (x3_.1 == 9) = .bool false, CallOK Try.prog ann 21 [.ptr (enc57 c0), .int .i64 12] (res21 x3_) (outs21 x3_)]) (by kernel_rfl) ⟨congrArg AV.bool c1_, congrArg AV.bool c0_, ev21 n _ _ _ hx3_, trivial⟩
    ·
      refine ite_elim h3_ (fun c2_ h4_ => ?_) (fun c2_ h4_ => ?_)
      ·
        have e_ := Option.some.inj h4_
        subst e_
        exact run_ret (S := sp47_0) (G := []) (sc := [(2, .call 21 (res21 x3_) (outs21 x3_)), (2, .eq (.bool false)), (1, .eq (.bool false)), (1, .eq (.bool true))]) (obs := [AV.bool (x3_.1 == 11) = .bool true, AV.bool (x3_.1 == 10) = .bool false, AV.bool (x3_.1 == 9) = .bool false, CallOK Try.prog ann 21 [.ptr (enc57 c0), .int .i64 12] (res21 x3_) (outs21 x3_)]) (by kernel_rfl) ⟨congrArg AV.bool c2_, congrArg AV.bool c1_, congrArg AV.bool c0_, ev21 n _ _ _ hx3_, trivial⟩
      ·
        have e_ := Option.some.inj h4_
        subst e_
        exact run_ret (S := sp47_0) (G := []) (sc := [(2, .call 21 (res21 x3_) (outs21 x3_)), (2, .eq (.bool false)), (1, .eq (.bool false)), (1, .eq (.bool false))]) (obs := [AV.bool (x3_.1 == 11) = .bool false, AV.bool (x3_.1 == 10) = .bool false, AV.bool (x3_.1 == 9) = .bool false, CallOK Try.prog ann 21 [.ptr (enc57 c0), .int .i64 12] (res21 x3_) (outs21 x3_)]) (by kernel_rfl) ⟨congrArg AV.bool c2_, congrArg AV.bool c1_, congrArg AV.bool c0_, ev21 n _ _ _ hx3_, trivial⟩

def F47 (n : Nat) (c0 : TCase) : Option (Int × TCase) := B47_0 n c0
theorem ev47 (n : Nat) (c0 : TCase) (r : (Int × TCase)) (h : F47 n c0 = some r) : CallOK Try.prog ann 47 [.ptr (enc57 c0)] (res47 r) (outs47 r) :=
  call_of_at (E := e47) (s := st47_0 c0) body47 Try.func47 (by kernel_rfl) (by kernel_rfl) (by kernel_rfl) (by kernel_rfl) (by kernel_rfl) (emptyOK_of (by kernel_rfl)) (by kernel_rfl) (b47_0 n c0 r h)

/-- (*partsync/partsynccase.Case).Text -/
noncomputable def e48 : Env := { P := Try.prog, ann := ann, f := 48, fn := Try.f48, ptrs := [0], rets := [(2, .same)] }
def st48_0 (long3 : ByteArray) (i4 : Int) (bc0 : TCase) : LS := ⟨[(3, .str long3), (4, .int .i64 i4)], [(0, (enc57 bc0))]⟩
def st48_1 (long3 : ByteArray) (bc0 : TCase) : LS := ⟨[(3, .str long3)], [(0, (enc57 bc0))]⟩
def st48_2 (long3 : ByteArray) (i5 : Int) (bc0 : TCase) : LS := ⟨[(3, .str long3), (5, .int .i64 i5)], [(0, (enc57 bc0))]⟩
def st48_3 (long3 : ByteArray) (bc0 : TCase) : LS := ⟨[(3, .str long3)], [(0, (enc57 bc0))]⟩
def st48_4 (c0 : TCase) : LS := ⟨[(0, .loc 0 0)], [(0, (enc57 c0))]⟩
def sp48_0 : Stops := [([0, 1, 0, 0, 1, 1, 1, 1, 1, 1, 1, 1, 1, 1, 1, 0, 1, 0, 1, 1], [(3, .same), (4, .same)], [(0, [.nrm, .same])]), ([1, 0, 1, 1, 1, 1, 1, 1, 1, 1, 1, 1, 1, 0, 1, 0, 1, 1], [(3, .same)], [(0, [.nrm, .same])])]
def B48_0 (k_1 : ByteArray → TCase → Option (ByteArray × TCase)) (back : ByteArray → Int → TCase → Option (ByteArray × TCase)) (n : Nat) (long3 : ByteArray) (i4 : Int) (bc0 : TCase) : Option (ByteArray × TCase) :=
  if decide (i4 < 64) then
    (cat long3 (ByteArray.mk #[255])).bind fun x4_ =>
    back x4_ (w64 (i4 + 1)) bc0
  else
    k_1 long3 bc0

theorem b48_0 (k_1 : ByteArray → TCase → Option (ByteArray × TCase)) (hk_1 : ∀ (long3 : ByteArray) (bc0 : TCase) (r : (ByteArray × TCase)), k_1 long3 bc0 = some r → At e48 [1, 0, 1, 1, 1, 1, 1, 1, 1, 1, 1, 1, 1, 0, 1, 0, 1, 1] (st48_1 long3 bc0) (res48 r) (outs48 r)) (back : ByteArray → Int → TCase → Option (ByteArray × TCase)) (hback : ∀ (long3 : ByteArray) (i4 : Int) (bc0 : TCase) (r : (ByteArray × TCase)), back long3 i4 bc0 = some r → At e48 [0, 1, 0, 0, 1, 1, 1, 1, 1, 1, 1, 1, 1, 1, 1, 0, 1, 0, 1, 1] (st48_0 long3 i4 bc0) (res48 r) (outs48 r)) (n : Nat) (long3 : ByteArray) (i4 : Int) (bc0 : TCase) (r : (ByteArray × TCase)) (h : B48_0 k_1 back n long3 i4 bc0 = some r) : At e48 [0, 1, 0, 0, 1, 1, 1, 1, 1, 1, 1, 1, 1, 1, 1, 0, 1, 0, 1, 1] (st48_0 long3 i4 bc0) (res48 r) (outs48 r) := by
  unfold B48_0 at h
  refine ite_elim h (fun c0_ h1_ => ?_) (fun c0_ h1_ => ?_)
  ·
    refine bind_elim h1_ (fun x4_ hx4_ h2_ => ?_)
    exact run_at (S := sp48_0) (G := []) (sc := [(1, .eq (.bool true)), (1, .core ⟨[(28, .str x4_)], []⟩)]) (obs := [(binA Try.prog .add 9 (.str long3) (.str (ByteArray.mk #[255]))).bind (putA an48 (some 28)) = some ⟨[(28, .str x4_)], []⟩, AV.bool (decide (i4 < 64)) = .bool true]) (by kernel_rfl) ⟨cat_ob (A := an48) hx4_, congrArg AV.bool c0_, trivial⟩ (hback _ _ _ _ h2_)
  ·
    exact run_at (S := sp48_0) (G := []) (sc := [(1, .eq (.bool false))]) (obs := [AV.bool (decide (i4 < 64)) = .bool false]) (by kernel_rfl) ⟨congrArg AV.bool c0_, trivial⟩ (hk_1 _ _ _ h1_)

def L48_0 (k_1 : ByteArray → TCase → Option (ByteArray × TCase)) : Nat → ByteArray → Int → TCase → Option (ByteArray × TCase)
  | 0, _, _, _ => none
  | n + 1, long3, i4, bc0 => B48_0 k_1 (L48_0 k_1 n) n long3 i4 bc0
theorem l48_0 (k_1 : ByteArray → TCase → Option (ByteArray × TCase)) (hk_1 : ∀ (long3 : ByteArray) (bc0 : TCase) (r : (ByteArray × TCase)), k_1 long3 bc0 = some r → At e48 [1, 0, 1, 1, 1, 1, 1, 1, 1, 1, 1, 1, 1, 0, 1, 0, 1, 1] (st48_1 long3 bc0) (res48 r) (outs48 r)) : ∀ (n : Nat) (long3 : ByteArray) (i4 : Int) (bc0 : TCase) (r : (ByteArray × TCase)), L48_0 k_1 n long3 i4 bc0 = some r → At e48 [0, 1, 0, 0, 1, 1, 1, 1, 1, 1, 1, 1, 1, 1, 1, 0, 1, 0, 1, 1] (st48_0 long3 i4 bc0) (res48 r) (outs48 r)
  | 0, _, _, _, _, h => by simp [L48_0] at h
  | n + 1, long3, i4, bc0, r, h => b48_0 k_1 hk_1 (L48_0 k_1 n) (l48_0 k_1 hk_1 n) n long3 i4 bc0 r h
def sp48_1 : Stops := []
def B48_1 (n : Nat) (long3 : ByteArray) (bc0 : TCase) : Option (ByteArray × TCase) :=
  some (long3, bc0)

theorem b48_1 (n : Nat) (long3 : ByteArray) (bc0 : TCase) (r : (ByteArray × TCase)) (h : B48_1 n long3 bc0 = some r) : At e48 [1, 0, 1, 1, 1, 1, 1, 1, 1, 1, 1, 1, 1, 0, 1, 0, 1, 1] (st48_1 long3 bc0) (res48 r) (outs48 r) := by
  unfold B48_1 at h
  have e_ := Option.some.inj h
  subst e_
  exact run_ret (S := sp48_1) (G := []) (sc := []) (obs := []) (by kernel_rfl) trivial

def sp48_2 : Stops := [([0, 1, 0, 1, 1, 1], [(3, .same), (5, .same)], [(0, [.nrm, .same])]), ([1, 1, 1, 1], [(3, .same)], [(0, [.nrm, .same])])]
def B48_2 (k_3 : ByteArray → TCase → Option (ByteArray × TCase)) (back : ByteArray → Int → TCase → Option (ByteArray × TCase)) (n : Nat) (long3 : ByteArray) (i5 : Int) (bc0 : TCase) : Option (ByteArray × TCase) :=
  if decide (i5 < 64) then
    (cat long3 (ByteArray.mk #[98])).bind fun x4_ =>
    back x4_ (w64 (i5 + 1)) bc0
  else
    k_3 long3 bc0

theorem b48_2 (k_3 : ByteArray → TCase → Option (ByteArray × TCase)) (hk_3 : ∀ (long3 : ByteArray) (bc0 : TCase) (r : (ByteArray × TCase)), k_3 long3 bc0 = some r → At e48 [1, 1, 1, 1] (st48_3 long3 bc0) (res48 r) (outs48 r)) (back : ByteArray → Int → TCase → Option (ByteArray × TCase)) (hback : ∀ (long3 : ByteArray) (i5 : Int) (bc0 : TCase) (r : (ByteArray × TCase)), back long3 i5 bc0 = some r → At e48 [0, 1, 0, 1, 1, 1] (st48_2 long3 i5 bc0) (res48 r) (outs48 r)) (n : Nat) (long3 : ByteArray) (i5 : Int) (bc0 : TCase) (r : (ByteArray × TCase)) (h : B48_2 k_3 back n long3 i5 bc0 = some r) : At e48 [0, 1, 0, 1, 1, 1] (st48_2 long3 i5 bc0) (res48 r) (outs48 r) := by
  unfold B48_2 at h
  refine ite_elim h (fun c0_ h3_ => ?_) (fun c0_ h3_ => ?_)
  ·
    refine bind_elim h3_ (fun x4_ hx4_ h4_ => ?_)
    exact run_at (S := sp48_2) (G := []) (sc := [(1, .eq (.bool true)), (1, .core ⟨[(35, .str x4_)], []⟩)]) (obs := [(binA Try.prog .add 9 (.str long3) (.str (ByteArray.mk #[98]))).bind (putA an48 (some 35)) = some ⟨[(35, .str x4_)], []⟩, AV.bool (decide (i5 < 64)) = .bool true]) (by kernel_rfl) ⟨cat_ob (A := an48) hx4_, congrArg AV.bool c0_, trivial⟩ (hback _ _ _ _ h4_)
  ·
    exact run_at (S := sp48_2) (G := []) (sc := [(1, .eq (.bool false))]) (obs := [AV.bool (decide (i5 < 64)) = .bool false]) (by kernel_rfl) ⟨congrArg AV.bool c0_, trivial⟩ (hk_3 _ _ _ h3_)

def L48_2 (k_3 : ByteArray → TCase → Option (ByteArray × TCase)) : Nat → ByteArray → Int → TCase → Option (ByteArray × TCase)
  | 0, _, _, _ => none
  | n + 1, long3, i5, bc0 => B48_2 k_3 (L48_2 k_3 n) n long3 i5 bc0
theorem l48_2 (k_3 : ByteArray → TCase → Option (ByteArray × TCase)) (hk_3 : ∀ (long3 : ByteArray) (bc0 : TCase) (r : (ByteArray × TCase)), k_3 long3 bc0 = some r → At e48 [1, 1, 1, 1] (st48_3 long3 bc0) (res48 r) (outs48 r)) : ∀ (n : Nat) (long3 : ByteArray) (i5 : Int) (bc0 : TCase) (r : (ByteArray × TCase)), L48_2 k_3 n long3 i5 bc0 = some r → At e48 [0, 1, 0, 1, 1, 1] (st48_2 long3 i5 bc0) (res48 r) (outs48 r)
  | 0, _, _, _, _, h => by simp [L48_2] at h
  | n + 1, long3, i5, bc0, r, h => b48_2 k_3 hk_3 (L48_2 k_3 n) (l48_2 k_3 hk_3 n) n long3 i5 bc0 r h
def sp48_3 : Stops := []
def B48_3 (n : Nat) (long3 : ByteArray) (bc0 : TCase) : Option (ByteArray × TCase) :=
  some (long3, bc0)

theorem b48_3 (n : Nat) (long3 : ByteArray) (bc0 : TCase) (r : (ByteArray × TCase)) (h : B48_3 n long3 bc0 = some r) : At e48 [1, 1, 1, 1] (st48_3 long3 bc0) (res48 r) (outs48 r) := by
  unfold B48_3 at h
  have e_ := Option.some.inj h
  subst e_
  exact run_ret (S := sp48_3) (G := []) (sc := []) (obs := []) (by kernel_rfl) trivial

def sp48_4 : Stops := [([0, 1, 0, 0, 1, 1, 1, 1, 1, 1, 1, 1, 1, 1, 1, 0, 1, 0, 1, 1], [(3, .same), (4, .same)], [(0, [.nrm, .same])]), ([0, 1, 0, 1, 1, 1], [(3, .same), (5, .same)], [(0, [.nrm, .same])])]
def B48_4 (n : Nat) (c0 : TCase) : Option (ByteArray × TCase) :=
  (F21 n c0 10).bind fun x4_ =>
  if x4_.1 == 0 then
    some ((ByteArray.mk #[97]), x4_.2)
  else
    if x4_.1 == 1 then
      some ((ByteArray.mk #[97]), x4_.2)
    else
      if x4_.1 == 2 then
        some ((ByteArray.mk #[97]), x4_.2)
      else
        if x4_.1 == 3 then
          some ((ByteArray.mk #[98]), x4_.2)
        else
          if x4_.1 == 4 then
            some ((ByteArray.mk #[98]), x4_.2)
          else
            if x4_.1 == 5 then
              some (ByteArray.empty, x4_.2)
            else
              if x4_.1 == 6 then
                some ((ByteArray.mk #[97, 0]), x4_.2)
              else
                if x4_.1 == 7 then
                  some ((ByteArray.mk #[255]), x4_.2)
                else
                  if x4_.1 == 8 then
                    L48_0 (B48_1 n) n ByteArray.empty 0 x4_.2
                  else
                    L48_2 (B48_3 n) n ByteArray.empty 0 x4_.2

theorem b48_4 (n : Nat) (c0 : TCase) (r : (ByteArray × TCase)) (h : B48_4 n c0 = some r) : At e48 [] (st48_4 c0) (res48 r) (outs48 r) := by
  unfold B48_4 at h
  refine bind_elim h (fun x4_ hx4_ h5_ => ?_)
  refine ite_elim h5_ (fun c0_ h6_ => ?_) (fun c0_ h6_ => ?_)
  ·
    have e_ := Option.some.inj h6_
    subst e_
    exact run_ret (S := sp48_4) (G := []) (sc := [(3, .call 21 (res21 x4_) (outs21 x4_)), (0, .eq (.bool true))]) (obs := [AV.bool (x4_.1 == 0) = .bool true, CallOK Try.prog ann 21 [.ptr (enc57 c0), .int .i64 10] (res21 x4_) (outs21 x4_)]) (by kernel_rfl) ⟨congrArg AV.bool c0_, ev21 n _ _ _ hx4_, trivial⟩
  ·
    refine ite_elim h6_ (fun c1_ h7_ => ?_) (fun c1_ h7_ => ?_)
    ·
      have e_ := Option.some.inj h7_
      subst e_
      exact run_ret (S := sp48_4) (G := []) (sc := [(3, .call 21 (res21 x4_) (outs21 x4_)), (0, .eq (.bool false)), (1, .eq (.bool true))]) (obs := [AV.bool (x4_.1 == 1) = .bool true, AV.bool (x4_.1 == 0) = .bool false, CallOK Try.prog ann 21 [.ptr (enc57 c0), .int .i64 10] (res21 x4_) (outs21 x4_)]) (by kernel_rfl) ⟨congrArg AV.bool c1_, congrArg AV.bool c0_, ev21 n _ _ _ hx4_, trivial⟩
    ·
      refine ite_elim h7_ (fun c2_ h8_ => ?_) (fun c2_ h8_ => ?_)
      ·
        have e_ := Option.some.inj h8_
        subst e_
        exact run_ret (S := sp48_4) (G := []) (sc := [(3, .call 21 (res21 x4_) (outs21 x4_)), (0, .eq (.bool false)), (1, .eq (.bool false)), (1, .eq (.bool true))]) (obs := [AV.bool (x4_.1 == 2) = .bool true, AV.bool (x4_.1 == 1) = .bool false, AV.bool (x4_.1 == 0) = .bool false, CallOK Try.prog ann 21 [.ptr (enc57 c0), .int .i64 10] (res21 x4_) (outs21 x4_)]) (by kernel_rfl) ⟨congrArg AV.bool c2_, congrArg AV.bool c1_, congrArg AV.bool c0_, ev21 n _ _ _ hx4_, trivial⟩
      ·
        refine ite_elim h8_ (fun c3_ h9_ => ?_) (fun c3_ h9_ => ?_)
        ·
          have e_ := Option.some.inj h9_
          subst e_
          exact run_ret (S := sp48_4) (G := []) (sc := [(3, .call 21 (res21 x4_) (outs21 x4_)), (0, .eq (.bool false)), (1, .eq (.bool false)), (1, .eq (.bool false)), (1, .eq (.bool true))]) (obs := [AV.bool (x4_.1 == 3) = .bool true, AV.bool (x4_.1 == 2) = .bool false, AV.bool (x4_.1 == 1) = .bool false, AV.bool (x4_.1 == 0) = .bool false, CallOK Try.prog ann 21 [.ptr (enc57 c0), .int .i64 10] (res21 x4_) (outs21 x4_)]) (by kernel_rfl) ⟨congrArg AV.bool c3_, congrArg AV.bool c2_, congrArg AV.bool c1_, congrArg AV.bool c0_, ev21 n _ _ _ hx4_, trivial⟩
        ·
          refine ite_elim h9_ (fun c4_ h10_ => ?_) (fun c4_ h10_ => ?_)
          ·
            have e_ := Option.some.inj h10_
            subst e_
            exact run_ret (S := sp48_4) (G := []) (sc := [(3, .call 21 (res21 x4_) (outs21 x4_)), (0, .eq (.bool false)), (1, .eq (.bool false)), (1, .eq (.bool false)), (1, .eq (.bool false)), (1, .eq (.bool true))]) (obs := [AV.bool (x4_.1 == 4) = .bool true, AV.bool (x4_.1 == 3) = .bool false, AV.bool (x4_.1 == 2) = .bool false, AV.bool (x4_.1 == 1) = .bool false, AV.bool (x4_.1 == 0) = .bool false, CallOK Try.prog ann 21 [.ptr (enc57 c0), .int .i64 10] (res21 x4_) (outs21 x4_)]) (by kernel_rfl) ⟨congrArg AV.bool c4_, congrArg AV.bool c3_, congrArg AV.bool c2_, congrArg AV.bool c1_, congrArg AV.bool c0_, ev21 n _ _ _ hx4_, trivial⟩
          ·
            refine ite_elim h10_ (fun c5_ h11_ => ?_) (fun c5_ h11_ => ?_)
            ·
              have e_ := Option.some.inj h11_
              subst e_
              exact run_ret (S := sp48_4) (G := []) (sc := [(3, .call 21 (res21 x4_) (outs21 x4_)), (0, .eq (.bool false)), (1, .eq (.bool false)), (1, .eq (.bool false)), (1, .eq (.bool false)), (1, .eq (.bool false)), (1, .eq (.bool true))]) (obs := [AV.bool (x4_.1 == 5) = .bool true, AV.bool (x4_.1 == 4) = .bool false, AV.bool (x4_.1 == 3) = .bool false, AV.bool (x4_.1 == 2) = .bool false, AV.bool (x4_.1 == 1) = .bool false, AV.bool (x4_.1 == 0) = .bool false, CallOK Try.prog ann 21 [.ptr (enc57 c0), .int .i64 10] (res21 x4_) (outs21 x4_)]) (by kernel_rfl) ⟨congrArg AV.bool c5_, congrArg AV.bool c4_, congrArg AV.bool c3_, congrArg AV.bool c2_, congrArg AV.bool c1_, congrArg AV.bool c0_, ev21 n _ _ _ hx4_, trivial⟩
            ·
              refine ite_elim h11_ (fun c6_ h12_ => ?_) (fun c6_ h12_ => ?_)
              ·
                have e_ := Option.some.inj h12_
                subst e_
                exact run_ret (S := sp48_4) (G := []) (sc := [(3, .call 21 (res21 x4_) (outs21 x4_)), (0, .eq (.bool false)), (1, .eq (.bool false)), (1, .eq (.bool false)), (1, .eq (.bool false)), (1, .eq (.bool false)), (1, .eq (.bool false)), (1, .eq (.bool true))]) (obs := [AV.bool (x4_.1 == 6) = .bool true, AV.bool (x4_.1 == 5) = .bool false, AV.bool (x4_.1 == 4) = .bool false, AV.bool (x4_.1 == 3) = .bool false, AV.bool (x4_.1 == 2) = .bool false, AV.bool (x4_.1 == 1) = .bool false, AV.bool (x4_.1 == 0) = .bool false, CallOK Try.prog ann 21 [.ptr (enc57 c0), .int .i64 10] (res21 x4_) (outs21 x4_)]) (by kernel_rfl) ⟨congrArg AV.bool c6_, congrArg AV.bool c5_, congrArg AV.bool c4_, congrArg AV.bool c3_, congrArg AV.bool c2_, congrArg AV.bool c1_, congrArg AV.bool c0_, ev21 n _ _ _ hx4_, trivial⟩
              ·
                refine ite_elim h12_ (fun c7_ h13_ => ?_) (fun c7_ h13_ => ?_)
                ·
                  have e_ := Option.some.inj h13_
                  subst e_
                  exact run_ret (S := sp48_4) (G := []) (sc := [(3, .call 21 (res21 x4_) (outs21 x4_)), (0, .eq (.bool false)), (1, .eq (.bool false)), (1, .eq (.bool false)), (1, .eq (.bool false)), (1, .eq (.bool false)), (1, .eq (.bool false)), (1, .eq (.bool false)), (1, .eq (.bool true))]) (obs := [AV.bool (x4_.1 == 7) = .bool true, AV.bool (x4_.1 == 6) = .bool false, AV.bool (x4_.1 == 5) = .bool false, AV.bool (x4_.1 == 4) = .bool false, AV.bool (x4_.1 == 3) = .bool false, AV.bool (x4_.1 == 2) = .bool false, AV.bool (x4_.1 == 1) = .bool false, AV.bool (x4_.1 == 0) = .bool false, CallOK Try.prog ann 21 [.ptr (enc57 c0), .int .i64 10] (res21 x4_) (outs21 x4_)]) (by kernel_rfl) ⟨congrArg AV.bool c7_, congrArg AV.bool c6_, congrArg AV.bool c5_, congrArg AV.bool c4_, congrArg AV.bool c3_, congrArg AV.bool c2_, congrArg AV.bool c1_, congrArg AV.bool c0_, ev21 n _ _ _ hx4_, trivial⟩
                ·
                  refine ite_elim h13_ (fun c8_ h14_ => ?_) (fun c8_ h14_ => ?_)
                  ·
                    exact run_at (S := sp48_4) (G := []) (sc := [(3, .call 21 (res21 x4_) (outs21 x4_)), (0, .eq (.bool false)), (1, .eq (.bool false)), (1, .eq (.bool false)), (1, .eq (.bool false)), (1, .eq (.bool false)), (1, .eq (.bool false)), (1, .eq (.bool false)), (1, .eq (.bool false)), (1, .eq (.bool true))]) (obs := [AV.bool (x4_.1 == 8) = .bool true, AV.bool (x4_.1 == 7) = .bool false, AV.bool (x4_.1 == 6) = .bool false, AV.bool (x4_.1 == 5) = .bool false, AV.bool (x4_.1 == 4) = .bool false, AV.bool (x4_.1 == 3) = .bool false, AV.bool (x4_.1 == 2) = .bool false, AV.bool (x4_.1 == 1) = .bool false, AV.bool (x4_.1 == 0) = .bool false, CallOK Try.prog ann 21 [.ptr (enc57 c0), .int .i64 10] (res21 x4_) (outs21 x4_)]) (by kernel_rfl) ⟨congrArg AV.bool c8_, congrArg AV.bool c7_, congrArg AV.bool c6_, congrArg AV.bool c5_, congrArg AV.bool c4_, congrArg AV.bool c3_, congrArg AV.bool c2_, congrArg AV.bool c1_, congrArg AV.bool c0_, ev21 n _ _ _ hx4_, trivial⟩ (l48_0 (B48_1 n) (b48_1 n) n _ _ _ _ h14_)
                  ·
                    exact run_at (S := sp48_4) (G := []) (sc := [(3, .call 21 (res21 x4_) (outs21 x4_)), (0, .eq (.bool false)), (1, .eq (.bool false)), (1, .eq (.bool false)), (1, .eq (.bool false)), (1, .eq (.bool false)), (1, .eq (.bool false)), (1, .eq (.bool false)), (1, .eq (.bool false)), (1, .eq (.bool false))]) (obs := [AV.bool (x4_.1 == 8) = .bool false, AV.bool (x4_.1 == 7) = .bool false, AV.bool (x4_.1 == 6) = .bool false, AV.bool (x4_.1 == 5) = .bool false, AV.bool (x4_.1 == 4) = .bool false, AV.bool (x4_.1 == 3) = .bool false, AV.bool (x4_.1 == 2) = .bool false, AV.bool (x4_.1 == 1) = .bool false, AV.bool (x4_.1 == 0) = .bool false, CallOK Try.prog ann 21 [.ptr (enc57 c0), .int .i64 10] (res21 x4_) (outs21 x4_)]) (by kernel_rfl) ⟨congrArg AV.bool c8_, congrArg AV.bool c7_, congrArg AV.bool c6_, congrArg AV.bool c5_, congrArg AV.bool c4_, congrArg AV.bool c3_, congrArg AV.bool c2_, congrArg AV.bool c1_, congrArg AV.bool c0_, ev21 n _ _ _ hx4_, trivial⟩ (l48_2 (B48_3 n) (b48_3 n) n _ _ _ _ h14_)

def F48 (n : Nat) (c0 : TCase) : Option (ByteArray × TCase) := B48_4 n c0
theorem ev48 (n : Nat) (c0 : TCase) (r : (ByteArray × TCase)) (h : F48 n c0 = some r) : CallOK Try.prog ann 48 [.ptr (enc57 c0)] (res48 r) (outs48 r) :=
  call_of_at (E := e48) (s := st48_4 c0) body48 Try.func48 (by kernel_rfl) (by kernel_rfl) (by kernel_rfl) (by kernel_rfl) (by kernel_rfl) (emptyOK_of (by kernel_rfl)) (by kernel_rfl) (b48_4 n c0 r h)

/-- (*partsync/partsynccase.Case).Value -/
noncomputable def e22 : Env := { P := Try.prog, ann := ann, f := 22, fn := Try.f22, ptrs := [0], rets := [(4, .same)] }
def st22_0 (c0 : TCase) (kind1 : Int) : LS := ⟨[(0, .loc 0 0), (1, .int .i64 kind1)], [(0, (enc57 c0))]⟩
def sp22_0 : Stops := []
def B22_0 (n : Nat) (c0 : TCase) (kind1 : Int) : Option (TValue × TCase) :=
  if kind1 == 3 then
    (F21 n c0 2).bind fun x7_ =>
    some ((TValue.mk kind1 x7_.1 ByteArray.empty), x7_.2)
  else
    if kind1 == 4 then
      (F47 n c0).bind fun x9_ =>
      some ((TValue.mk kind1 x9_.1 ByteArray.empty), x9_.2)
    else
      (F48 n c0).bind fun x8_ =>
      some ((TValue.mk 5 0 x8_.1), x8_.2)

theorem b22_0 (n : Nat) (c0 : TCase) (kind1 : Int) (r : (TValue × TCase)) (h : B22_0 n c0 kind1 = some r) : At e22 [] (st22_0 c0 kind1) (res22 r) (outs22 r) := by
  unfold B22_0 at h
  refine ite_elim h (fun c0_ h1_ => ?_) (fun c0_ h1_ => ?_)
  ·
    refine bind_elim h1_ (fun x7_ hx7_ h2_ => ?_)
    have e_ := Option.some.inj h2_
    subst e_
    exact run_ret (S := sp22_0) (G := []) (sc := [(2, .eq (.bool true)), (3, .call 21 (res21 x7_) (outs21 x7_))]) (obs := [CallOK Try.prog ann 21 [.ptr (enc57 c0), .int .i64 2] (res21 x7_) (outs21 x7_), AV.bool (kind1 == 3) = .bool true]) (by kernel_rfl) ⟨ev21 n _ _ _ hx7_, congrArg AV.bool c0_, trivial⟩
  ·
    refine ite_elim h1_ (fun c1_ h3_ => ?_) (fun c1_ h3_ => ?_)
    ·
      refine bind_elim h3_ (fun x9_ hx9_ h4_ => ?_)
      have e_ := Option.some.inj h4_
      subst e_
      exact run_ret (S := sp22_0) (G := []) (sc := [(2, .eq (.bool false)), (1, .eq (.bool true)), (3, .call 47 (res47 x9_) (outs47 x9_))]) (obs := [CallOK Try.prog ann 47 [.ptr (enc57 c0)] (res47 x9_) (outs47 x9_), AV.bool (kind1 == 4) = .bool true, AV.bool (kind1 == 3) = .bool false]) (by kernel_rfl) ⟨ev47 n _ _ hx9_, congrArg AV.bool c1_, congrArg AV.bool c0_, trivial⟩
    ·
      refine bind_elim h3_ (fun x8_ hx8_ h5_ => ?_)
      have e_ := Option.some.inj h5_
      subst e_
      exact run_ret (S := sp22_0) (G := []) (sc := [(2, .eq (.bool false)), (1, .eq (.bool false)), (2, .call 48 (res48 x8_) (outs48 x8_))]) (obs := [CallOK Try.prog ann 48 [.ptr (enc57 c0)] (res48 x8_) (outs48 x8_), AV.bool (kind1 == 4) = .bool false, AV.bool (kind1 == 3) = .bool false]) (by kernel_rfl) ⟨ev48 n _ _ hx8_, congrArg AV.bool c1_, congrArg AV.bool c0_, trivial⟩

def F22 (n : Nat) (c0 : TCase) (kind1 : Int) : Option (TValue × TCase) := B22_0 n c0 kind1
theorem ev22 (n : Nat) (c0 : TCase) (kind1 : Int) (r : (TValue × TCase)) (h : F22 n c0 kind1 = some r) : CallOK Try.prog ann 22 [.ptr (enc57 c0), .int .i64 kind1] (res22 r) (outs22 r) :=
  call_of_at (E := e22) (s := st22_0 c0 kind1) body22 Try.func22 (by kernel_rfl) (by kernel_rfl) (by kernel_rfl) (by kernel_rfl) (by kernel_rfl) (emptyOK_of (by kernel_rfl)) (by kernel_rfl) (b22_0 n c0 kind1 r h)

/-- (*partsync/partsynccase.Case).Bool -/
noncomputable def e33 : Env := { P := Try.prog, ann := ann, f := 33, fn := Try.f33, ptrs := [0], rets := [(4, .same)] }
def st33_0 (c0 : TCase) (n1 : Int) : LS := ⟨[(0, .loc 0 0), (1, .int .i64 n1)], [(0, (enc57 c0))]⟩
def sp33_0 : Stops := []
def B33_0 (n : Nat) (c0 : TCase) (n1 : Int) : Option (Bool × TCase) :=
  (F21 n c0 n1).bind fun x4_ =>
  some (x4_.1 == (w64 (n1 - 1)), x4_.2)

theorem b33_0 (n : Nat) (c0 : TCase) (n1 : Int) (r : (Bool × TCase)) (h : B33_0 n c0 n1 = some r) : At e33 [] (st33_0 c0 n1) (res33 r) (outs33 r) := by
  unfold B33_0 at h
  refine bind_elim h (fun x4_ hx4_ h1_ => ?_)
  have e_ := Option.some.inj h1_
  subst e_
  exact run_ret (S := sp33_0) (G := []) (sc := [(3, .call 21 (res21 x4_) (outs21 x4_))]) (obs := [CallOK Try.prog ann 21 [.ptr (enc57 c0), .int .i64 n1] (res21 x4_) (outs21 x4_)]) (by kernel_rfl) ⟨ev21 n _ _ _ hx4_, trivial⟩

def F33 (n : Nat) (c0 : TCase) (n1 : Int) : Option (Bool × TCase) := B33_0 n c0 n1
theorem ev33 (n : Nat) (c0 : TCase) (n1 : Int) (r : (Bool × TCase)) (h : F33 n c0 n1 = some r) : CallOK Try.prog ann 33 [.ptr (enc57 c0), .int .i64 n1] (res33 r) (outs33 r) :=
  call_of_at (E := e33) (s := st33_0 c0 n1) body33 Try.func33 (by kernel_rfl) (by kernel_rfl) (by kernel_rfl) (by kernel_rfl) (by kernel_rfl) (emptyOK_of (by kernel_rfl)) (by kernel_rfl) (b33_0 n c0 n1 r h)

/-- (*partsync/partsynccase.Case).operand -/
noncomputable def e58 : Env := { P := Try.prog, ann := ann, f := 58, fn := Try.f58, ptrs := [0], rets := [(8, .same)] }
def st58_0 (params2 : (List Int)) (kind3 : Int) (l9 : (List TOperand)) (t15 : (List Int)) (t16 : Int) (t17 : Int) (bc0 : TCase) : LS := ⟨[(0, .loc 0 0), (2, .slice .sh (rows3 params2)), (3, .int .i64 kind3), (8, .loc 8 0), (9, .slice (.own 26) (rows25 l9)), (15, .slice .sh (rows3 t15)), (16, .int .i64 t16), (17, .int .i64 t17)], [(0, (enc57 bc0)), (8, [.int .i64 0, .int .i64 0, .int .i64 0, .int .i64 0, .str ByteArray.empty])]⟩
def st58_1 (kind3 : Int) (l9 : (List TOperand)) (t31 : (List Int)) (t32 : Int) (t33 : Int) (bc0 : TCase) : LS := ⟨[(0, .loc 0 0), (3, .int .i64 kind3), (8, .loc 8 0), (9, .slice (.own 26) (rows25 l9)), (31, .slice .sh (rows3 t31)), (32, .int .i64 t32), (33, .int .i64 t33)], [(0, (enc57 bc0)), (8, [.int .i64 0, .int .i64 0, .int .i64 0, .int .i64 0, .str ByteArray.empty])]⟩
def st58_2 (kind3 : Int) (l9 : (List TOperand)) (bc0 : TCase) : LS := ⟨[(0, .loc 0 0), (3, .int .i64 kind3), (8, .loc 8 0), (9, .slice (.own 26) (rows25 l9))], [(0, (enc57 bc0)), (8, [.int .i64 0, .int .i64 0, .int .i64 0, .int .i64 0, .str ByteArray.empty])]⟩
def st58_3 (params2 : (List Int)) (kind3 : Int) (l9 : (List TOperand)) (bc0 : TCase) : LS := ⟨[(0, .loc 0 0), (2, .slice .sh (rows3 params2)), (3, .int .i64 kind3), (8, .loc 8 0), (9, .slice (.own 26) (rows25 l9))], [(0, (enc57 bc0)), (8, [.int .i64 0, .int .i64 0, .int .i64 0, .int .i64 0, .str ByteArray.empty])]⟩
def st58_4 (c0 : TCase) (columns1 : (List Int)) (params2 : (List Int)) (kind3 : Int) : LS := ⟨[(0, .loc 0 0), (1, .slice .sh (rows3 columns1)), (2, .slice .sh (rows3 params2)), (3, .int .i64 kind3)], [(0, (enc57 c0))]⟩
def sp58_0 : Stops := [([0, 1, 0, 1, 1], [(0, .same), (2, .nrm), (3, .same), (8, .same), (9, .own 26), (15, .nrm), (16, .same), (17, .same)], [(0, [.nrm, .same]), (8, [])]), ([1, 1, 1], [(0, .same), (2, .nrm), (3, .same), (8, .same), (9, .own 26)], [(0, [.nrm, .same]), (8, [])])]
def B58_0 (k_3 : (List Int) → Int → (List TOperand) → TCase → Option (TOperand × TCase)) (back : (List Int) → Int → (List TOperand) → (List Int) → Int → Int → TCase → Option (TOperand × TCase)) (n : Nat) (params2 : (List Int)) (kind3 : Int) (l9 : (List TOperand)) (t15 : (List Int)) (t16 : Int) (t17 : Int) (bc0 : TCase) : Option (TOperand × TCase) :=
  if decide (t17 < t16) then
    (idx t15 t17).bind fun x3_ =>
    if x3_ == kind3 then
      (app l9 [(TOperand.mk 1 t17 (TValue.mk 0 0 ByteArray.empty))]).bind fun x14_ =>
      back params2 kind3 x14_ t15 t16 (w64 (t17 + 1)) bc0
    else
      back params2 kind3 l9 t15 t16 (w64 (t17 + 1)) bc0
  else
    k_3 params2 kind3 l9 bc0

theorem b58_0 (k_3 : (List Int) → Int → (List TOperand) → TCase → Option (TOperand × TCase)) (hk_3 : ∀ (params2 : (List Int)) (kind3 : Int) (l9 : (List TOperand)) (bc0 : TCase) (r : (TOperand × TCase)), k_3 params2 kind3 l9 bc0 = some r → At e58 [1, 1, 1] (st58_3 params2 kind3 l9 bc0) (res58 r) (outs58 r)) (back : (List Int) → Int → (List TOperand) → (List Int) → Int → Int → TCase → Option (TOperand × TCase)) (hback : ∀ (params2 : (List Int)) (kind3 : Int) (l9 : (List TOperand)) (t15 : (List Int)) (t16 : Int) (t17 : Int) (bc0 : TCase) (r : (TOperand × TCase)), back params2 kind3 l9 t15 t16 t17 bc0 = some r → At e58 [0, 1, 0, 1, 1] (st58_0 params2 kind3 l9 t15 t16 t17 bc0) (res58 r) (outs58 r)) (n : Nat) (params2 : (List Int)) (kind3 : Int) (l9 : (List TOperand)) (t15 : (List Int)) (t16 : Int) (t17 : Int) (bc0 : TCase) (r : (TOperand × TCase)) (h : B58_0 k_3 back n params2 kind3 l9 t15 t16 t17 bc0 = some r) : At e58 [0, 1, 0, 1, 1] (st58_0 params2 kind3 l9 t15 t16 t17 bc0) (res58 r) (outs58 r) := by
  unfold B58_0 at h
  refine ite_elim h (fun c0_ h1_ => ?_) (fun c0_ h1_ => ?_)
  ·
    refine bind_elim h1_ (fun x3_ hx3_ h2_ => ?_)
    refine ite_elim h2_ (fun c1_ h3_ => ?_) (fun c1_ h3_ => ?_)
    ·
      refine bind_elim h3_ (fun x14_ hx14_ h4_ => ?_)
      exact run_at (S := sp58_0) (G := []) (sc := [(0, .eq (.bool true)), (1, .core ⟨[(20, .imm (enc3 x3_))], []⟩), (5, .eq (.bool true)), (4, .core ⟨[(29, .slice (.own 26) (rows25 x14_)), (25, .slice .sh (rows25 l9))], []⟩)]) (obs := [appendA Try.prog an58 29 97 (.tmp 25) (.slice (.own 26) (rows25 l9)) (.slice (.own 26) (rows25 [(TOperand.mk 1 t17 (TValue.mk 0 0 ByteArray.empty))])) (fun _ => none) = some ⟨[(29, .slice (.own 26) (rows25 x14_)), (25, .slice .sh (rows25 l9))], []⟩, AV.bool (x3_ == kind3) = .bool true, indexAddrA Try.prog an58 (some 20) 30 (.slice .sh (rows3 t15)) (.int .i64 t17) = some ⟨[(20, .imm (enc3 x3_))], []⟩, AV.bool (decide (t17 < t16)) = .bool true]) (by kernel_rfl) ⟨R97.appOb (A := an58) (by decide) hx14_, congrArg AV.bool c1_, R30.idxOb (A := an58) hx3_, congrArg AV.bool c0_, trivial⟩ (hback _ _ _ _ _ _ _ _ h4_)
    ·
      exact run_at (S := sp58_0) (G := []) (sc := [(0, .eq (.bool true)), (1, .core ⟨[(20, .imm (enc3 x3_))], []⟩), (5, .eq (.bool false))]) (obs := [AV.bool (x3_ == kind3) = .bool false, indexAddrA Try.prog an58 (some 20) 30 (.slice .sh (rows3 t15)) (.int .i64 t17) = some ⟨[(20, .imm (enc3 x3_))], []⟩, AV.bool (decide (t17 < t16)) = .bool true]) (by kernel_rfl) ⟨congrArg AV.bool c1_, R30.idxOb (A := an58) hx3_, congrArg AV.bool c0_, trivial⟩ (hback _ _ _ _ _ _ _ _ h3_)
  ·
    exact run_at (S := sp58_0) (G := []) (sc := [(0, .eq (.bool false))]) (obs := [AV.bool (decide (t17 < t16)) = .bool false]) (by kernel_rfl) ⟨congrArg AV.bool c0_, trivial⟩ (hk_3 _ _ _ _ _ h1_)

def L58_0 (k_3 : (List Int) → Int → (List TOperand) → TCase → Option (TOperand × TCase)) : Nat → (List Int) → Int → (List TOperand) → (List Int) → Int → Int → TCase → Option (TOperand × TCase)
  | 0, _, _, _, _, _, _, _ => none
  | n + 1, params2, kind3, l9, t15, t16, t17, bc0 => B58_0 k_3 (L58_0 k_3 n) n params2 kind3 l9 t15 t16 t17 bc0
theorem l58_0 (k_3 : (List Int) → Int → (List TOperand) → TCase → Option (TOperand × TCase)) (hk_3 : ∀ (params2 : (List Int)) (kind3 : Int) (l9 : (List TOperand)) (bc0 : TCase) (r : (TOperand × TCase)), k_3 params2 kind3 l9 bc0 = some r → At e58 [1, 1, 1] (st58_3 params2 kind3 l9 bc0) (res58 r) (outs58 r)) : ∀ (n : Nat) (params2 : (List Int)) (kind3 : Int) (l9 : (List TOperand)) (t15 : (List Int)) (t16 : Int) (t17 : Int) (bc0 : TCase) (r : (TOperand × TCase)), L58_0 k_3 n params2 kind3 l9 t15 t16 t17 bc0 = some r → At e58 [0, 1, 0, 1, 1] (st58_0 params2 kind3 l9 t15 t16 t17 bc0) (res58 r) (outs58 r)
  | 0, _, _, _, _, _, _, _, _, h => by simp [L58_0] at h
  | n + 1, params2, kind3, l9, t15, t16, t17, bc0, r, h => b58_0 k_3 hk_3 (L58_0 k_3 n) (l58_0 k_3 hk_3 n) n params2 kind3 l9 t15 t16 t17 bc0 r h
def sp58_1 : Stops := [([0, 1, 0, 1, 1, 1], [(0, .same), (3, .same), (8, .same), (9, .own 26), (31, .nrm), (32, .same), (33, .same)], [(0, [.nrm, .same]), (8, [])]), ([1, 1, 1, 1], [(0, .same), (3, .same), (8, .same), (9, .own 26)], [(0, [.nrm, .same]), (8, [])])]
def B58_1 (k_2 : Int → (List TOperand) → TCase → Option (TOperand × TCase)) (back : Int → (List TOperand) → (List Int) → Int → Int → TCase → Option (TOperand × TCase)) (n : Nat) (kind3 : Int) (l9 : (List TOperand)) (t31 : (List Int)) (t32 : Int) (t33 : Int) (bc0 : TCase) : Option (TOperand × TCase) :=
  if decide (t33 < t32) then
    (idx t31 t33).bind fun x3_ =>
    if x3_ == kind3 then
      (app l9 [(TOperand.mk 2 t33 (TValue.mk 0 0 ByteArray.empty))]).bind fun x14_ =>
      back kind3 x14_ t31 t32 (w64 (t33 + 1)) bc0
    else
      back kind3 l9 t31 t32 (w64 (t33 + 1)) bc0
  else
    k_2 kind3 l9 bc0

theorem b58_1 (k_2 : Int → (List TOperand) → TCase → Option (TOperand × TCase)) (hk_2 : ∀ (kind3 : Int) (l9 : (List TOperand)) (bc0 : TCase) (r : (TOperand × TCase)), k_2 kind3 l9 bc0 = some r → At e58 [1, 1, 1, 1] (st58_2 kind3 l9 bc0) (res58 r) (outs58 r)) (back : Int → (List TOperand) → (List Int) → Int → Int → TCase → Option (TOperand × TCase)) (hback : ∀ (kind3 : Int) (l9 : (List TOperand)) (t31 : (List Int)) (t32 : Int) (t33 : Int) (bc0 : TCase) (r : (TOperand × TCase)), back kind3 l9 t31 t32 t33 bc0 = some r → At e58 [0, 1, 0, 1, 1, 1] (st58_1 kind3 l9 t31 t32 t33 bc0) (res58 r) (outs58 r)) (n : Nat) (kind3 : Int) (l9 : (List TOperand)) (t31 : (List Int)) (t32 : Int) (t33 : Int) (bc0 : TCase) (r : (TOperand × TCase)) (h : B58_1 k_2 back n kind3 l9 t31 t32 t33 bc0 = some r) : At e58 [0, 1, 0, 1, 1, 1] (st58_1 kind3 l9 t31 t32 t33 bc0) (res58 r) (outs58 r) := by
  unfold B58_1 at h
  refine ite_elim h (fun c0_ h5_ => ?_) (fun c0_ h5_ => ?_)
  ·
    refine bind_elim h5_ (fun x3_ hx3_ h6_ => ?_)
    refine ite_elim h6_ (fun c1_ h7_ => ?_) (fun c1_ h7_ => ?_)
    ·
      refine bind_elim h7_ (fun x14_ hx14_ h8_ => ?_)
      exact run_at (S := sp58_1) (G := []) (sc := [(0, .eq (.bool true)), (1, .core ⟨[(36, .imm (enc3 x3_))], []⟩), (5, .eq (.bool true)), (4, .core ⟨[(45, .slice (.own 26) (rows25 x14_)), (41, .slice .sh (rows25 l9))], []⟩)]) (obs := [appendA Try.prog an58 45 97 (.tmp 41) (.slice (.own 26) (rows25 l9)) (.slice (.own 26) (rows25 [(TOperand.mk 2 t33 (TValue.mk 0 0 ByteArray.empty))])) (fun _ => none) = some ⟨[(45, .slice (.own 26) (rows25 x14_)), (41, .slice .sh (rows25 l9))], []⟩, AV.bool (x3_ == kind3) = .bool true, indexAddrA Try.prog an58 (some 36) 30 (.slice .sh (rows3 t31)) (.int .i64 t33) = some ⟨[(36, .imm (enc3 x3_))], []⟩, AV.bool (decide (t33 < t32)) = .bool true]) (by kernel_rfl) ⟨R97.appOb (A := an58) (by decide) hx14_, congrArg AV.bool c1_, R30.idxOb (A := an58) hx3_, congrArg AV.bool c0_, trivial⟩ (hback _ _ _ _ _ _ _ h8_)
    ·
      exact run_at (S := sp58_1) (G := []) (sc := [(0, .eq (.bool true)), (1, .core ⟨[(36, .imm (enc3 x3_))], []⟩), (5, .eq (.bool false))]) (obs := [AV.bool (x3_ == kind3) = .bool false, indexAddrA Try.prog an58 (some 36) 30 (.slice .sh (rows3 t31)) (.int .i64 t33) = some ⟨[(36, .imm (enc3 x3_))], []⟩, AV.bool (decide (t33 < t32)) = .bool true]) (by kernel_rfl) ⟨congrArg AV.bool c1_, R30.idxOb (A := an58) hx3_, congrArg AV.bool c0_, trivial⟩ (hback _ _ _ _ _ _ _ h7_)
  ·
    exact run_at (S := sp58_1) (G := []) (sc := [(0, .eq (.bool false))]) (obs := [AV.bool (decide (t33 < t32)) = .bool false]) (by kernel_rfl) ⟨congrArg AV.bool c0_, trivial⟩ (hk_2 _ _ _ _ h5_)

def L58_1 (k_2 : Int → (List TOperand) → TCase → Option (TOperand × TCase)) : Nat → Int → (List TOperand) → (List Int) → Int → Int → TCase → Option (TOperand × TCase)
  | 0, _, _, _, _, _, _ => none
  | n + 1, kind3, l9, t31, t32, t33, bc0 => B58_1 k_2 (L58_1 k_2 n) n kind3 l9 t31 t32 t33 bc0
theorem l58_1 (k_2 : Int → (List TOperand) → TCase → Option (TOperand × TCase)) (hk_2 : ∀ (kind3 : Int) (l9 : (List TOperand)) (bc0 : TCase) (r : (TOperand × TCase)), k_2 kind3 l9 bc0 = some r → At e58 [1, 1, 1, 1] (st58_2 kind3 l9 bc0) (res58 r) (outs58 r)) : ∀ (n : Nat) (kind3 : Int) (l9 : (List TOperand)) (t31 : (List Int)) (t32 : Int) (t33 : Int) (bc0 : TCase) (r : (TOperand × TCase)), L58_1 k_2 n kind3 l9 t31 t32 t33 bc0 = some r → At e58 [0, 1, 0, 1, 1, 1] (st58_1 kind3 l9 t31 t32 t33 bc0) (res58 r) (outs58 r)
  | 0, _, _, _, _, _, _, _, h => by simp [L58_1] at h
  | n + 1, kind3, l9, t31, t32, t33, bc0, r, h => b58_1 k_2 hk_2 (L58_1 k_2 n) (l58_1 k_2 hk_2 n) n kind3 l9 t31 t32 t33 bc0 r h
def sp58_2 : Stops := []
def B58_2 (n : Nat) (kind3 : Int) (l9 : (List TOperand)) (bc0 : TCase) : Option (TOperand × TCase) :=
  (F21 n bc0 (w64 ((l9.length : Int) + 1))).bind fun x5_ =>
  if decide (x5_.1 < (l9.length : Int)) then
    (idx l9 x5_.1).bind fun x13_ =>
    some (x13_, x5_.2)
  else
    (F22 n x5_.2 kind3).bind fun x13_ =>
    some ((TOperand.mk 3 0 x13_.1), x13_.2)

theorem b58_2 (n : Nat) (kind3 : Int) (l9 : (List TOperand)) (bc0 : TCase) (r : (TOperand × TCase)) (h : B58_2 n kind3 l9 bc0 = some r) : At e58 [1, 1, 1, 1] (st58_2 kind3 l9 bc0) (res58 r) (outs58 r) := by
  unfold B58_2 at h
  refine bind_elim h (fun x5_ hx5_ h9_ => ?_)
  refine ite_elim h9_ (fun c0_ h10_ => ?_) (fun c0_ h10_ => ?_)
  ·
    refine bind_elim h10_ (fun x13_ hx13_ h11_ => ?_)
    have e_ := Option.some.inj h11_
    subst e_
    exact run_ret (S := sp58_2) (G := []) (sc := [(2, .eq (.int .i64 (l9.length : Int))), (1, .call 21 (res21 x5_) (outs21 x5_)), (3, .eq (.int .i64 (l9.length : Int))), (0, .eq (.bool true)), (2, .core ⟨[(58, .imm (enc25 x13_))], []⟩)]) (obs := [indexAddrA Try.prog an58 (some 58) 97 (.slice .sh (rows25 l9)) (.int .i64 x5_.1) = some ⟨[(58, .imm (enc25 x13_))], []⟩, AV.bool (decide (x5_.1 < (l9.length : Int))) = .bool true, AV.int .i64 ((rows25 l9).length : Int) = .int .i64 (l9.length : Int), CallOK Try.prog ann 21 [.ptr (enc57 bc0), .int .i64 (w64 ((l9.length : Int) + 1))] (res21 x5_) (outs21 x5_), AV.int .i64 ((rows25 l9).length : Int) = .int .i64 (l9.length : Int)]) (by kernel_rfl) ⟨R97.idxOb (A := an58) hx13_, congrArg AV.bool c0_, R97.lenOb l9, ev21 n _ _ _ hx5_, R97.lenOb l9, trivial⟩
  ·
    refine bind_elim h10_ (fun x13_ hx13_ h12_ => ?_)
    have e_ := Option.some.inj h12_
    subst e_
    exact run_ret (S := sp58_2) (G := []) (sc := [(2, .eq (.int .i64 (l9.length : Int))), (1, .call 21 (res21 x5_) (outs21 x5_)), (3, .eq (.int .i64 (l9.length : Int))), (0, .eq (.bool false)), (2, .call 22 (res22 x13_) (outs22 x13_))]) (obs := [CallOK Try.prog ann 22 [.ptr (enc57 x5_.2), .int .i64 kind3] (res22 x13_) (outs22 x13_), AV.bool (decide (x5_.1 < (l9.length : Int))) = .bool false, AV.int .i64 ((rows25 l9).length : Int) = .int .i64 (l9.length : Int), CallOK Try.prog ann 21 [.ptr (enc57 bc0), .int .i64 (w64 ((l9.length : Int) + 1))] (res21 x5_) (outs21 x5_), AV.int .i64 ((rows25 l9).length : Int) = .int .i64 (l9.length : Int)]) (by kernel_rfl) ⟨ev22 n _ _ _ hx13_, congrArg AV.bool c0_, R97.lenOb l9, ev21 n _ _ _ hx5_, R97.lenOb l9, trivial⟩

def sp58_3 : Stops := [([0, 1, 0, 1, 1, 1], [(0, .same), (3, .same), (8, .same), (9, .own 26), (31, .nrm), (32, .same), (33, .same)], [(0, [.nrm, .same]), (8, [])])]
def B58_3 (n : Nat) (params2 : (List Int)) (kind3 : Int) (l9 : (List TOperand)) (bc0 : TCase) : Option (TOperand × TCase) :=
  L58_1 (B58_2 n) n kind3 l9 params2 (params2.length : Int) 0 bc0

theorem b58_3 (n : Nat) (params2 : (List Int)) (kind3 : Int) (l9 : (List TOperand)) (bc0 : TCase) (r : (TOperand × TCase)) (h : B58_3 n params2 kind3 l9 bc0 = some r) : At e58 [1, 1, 1] (st58_3 params2 kind3 l9 bc0) (res58 r) (outs58 r) := by
  unfold B58_3 at h
  exact run_at (S := sp58_3) (G := []) (sc := [(1, .eq (.int .i64 (params2.length : Int)))]) (obs := [AV.int .i64 ((rows3 params2).length : Int) = .int .i64 (params2.length : Int)]) (by kernel_rfl) ⟨R30.lenOb params2, trivial⟩ (l58_1 (B58_2 n) (b58_2 n) n _ _ _ _ _ _ _ h)

def sp58_4 : Stops := [([0, 1, 0, 1, 1], [(0, .same), (2, .nrm), (3, .same), (8, .same), (9, .own 26), (15, .nrm), (16, .same), (17, .same)], [(0, [.nrm, .same]), (8, [])])]
def B58_4 (n : Nat) (c0 : TCase) (columns1 : (List Int)) (params2 : (List Int)) (kind3 : Int) : Option (TOperand × TCase) :=
  L58_0 (B58_3 n) n params2 kind3 [] columns1 (columns1.length : Int) 0 c0

theorem b58_4 (n : Nat) (c0 : TCase) (columns1 : (List Int)) (params2 : (List Int)) (kind3 : Int) (r : (TOperand × TCase)) (h : B58_4 n c0 columns1 params2 kind3 = some r) : At e58 [] (st58_4 c0 columns1 params2 kind3) (res58 r) (outs58 r) := by
  unfold B58_4 at h
  exact run_at (S := sp58_4) (G := []) (sc := [(3, .eq (.int .i64 (columns1.length : Int)))]) (obs := [AV.int .i64 ((rows3 columns1).length : Int) = .int .i64 (columns1.length : Int)]) (by kernel_rfl) ⟨R30.lenOb columns1, trivial⟩ (l58_0 (B58_3 n) (b58_3 n) n _ _ _ _ _ _ _ _ h)

def F58 (n : Nat) (c0 : TCase) (columns1 : (List Int)) (params2 : (List Int)) (kind3 : Int) : Option (TOperand × TCase) := B58_4 n c0 columns1 params2 kind3
theorem ev58 (n : Nat) (c0 : TCase) (columns1 : (List Int)) (params2 : (List Int)) (kind3 : Int) (r : (TOperand × TCase)) (h : F58 n c0 columns1 params2 kind3 = some r) : CallOK Try.prog ann 58 [.ptr (enc57 c0), .slice .sh (rows3 columns1), .slice .sh (rows3 params2), .int .i64 kind3] (res58 r) (outs58 r) :=
  call_of_at (E := e58) (s := st58_4 c0 columns1 params2 kind3) body58 Try.func58 (by kernel_rfl) (by kernel_rfl) (by kernel_rfl) (by kernel_rfl) (by kernel_rfl) (emptyOK_of (by kernel_rfl)) (by kernel_rfl) (b58_4 n c0 columns1 params2 kind3 r h)

/-- (*partsync/partsynccase.Case).tree -/
noncomputable def e32 : Env := { P := Try.prog, ann := ann, f := 32, fn := Try.f32, ptrs := [0], rets := [(8, .same)] }
def st32_0 (bc0 : TCase) (bp11 : TPredicate) : LS := ⟨[(0, .loc 0 0), (8, .loc 8 0), (11, .loc 11 0)], [(0, (enc57 bc0)), (8, [.int .i64 0, .int .i64 0, .int .i64 0, .int .i64 0, .int .i64 0, .int .i64 0, .str ByteArray.empty, .int .i64 0, .int .i64 0, .int .i64 0, .int .i64 0, .str ByteArray.empty, .slice .nil []]), (11, [.int .i64 bp11.fOp, .int .i64 bp11.fCmp, .int .i64 bp11.fLeft.fKind, .int .i64 bp11.fLeft.fIndex, .int .i64 bp11.fLeft.fValue.fKind, .int .i64 bp11.fLeft.fValue.fInt, .str bp11.fLeft.fValue.fText, .int .i64 bp11.fRight.fKind, .int .i64 bp11.fRight.fIndex, .int .i64 bp11.fRight.fValue.fKind, .int .i64 bp11.fRight.fValue.fInt, .str bp11.fRight.fValue.fText, .slice .nil []])]⟩
def st32_1 (columns1 : (List Int)) (params2 : (List Int)) (kind10 : Int) (bc0 : TCase) : LS := ⟨[(0, .loc 0 0), (1, .slice .sh (rows3 columns1)), (2, .slice .sh (rows3 params2)), (8, .loc 8 0), (10, .int .i64 kind10)], [(0, (enc57 bc0)), (8, [.int .i64 0, .int .i64 0, .int .i64 0, .int .i64 0, .int .i64 0, .int .i64 0, .str ByteArray.empty, .int .i64 0, .int .i64 0, .int .i64 0, .int .i64 0, .str ByteArray.empty, .slice .nil []])]⟩
def st32_2 (columns1 : (List Int)) (params2 : (List Int)) (deep3 : Int) (n13 : Int) (bc0 : TCase) (bp12 : TPredicate) : LS := ⟨[(0, .loc 0 0), (1, .slice .sh (rows3 columns1)), (2, .slice .sh (rows3 params2)), (3, .int .i64 deep3), (8, .loc 8 0), (12, .loc 12 0), (13, .int .i64 n13)], [(0, (enc57 bc0)), (8, [.int .i64 0, .int .i64 0, .int .i64 0, .int .i64 0, .int .i64 0, .int .i64 0, .str ByteArray.empty, .int .i64 0, .int .i64 0, .int .i64 0, .int .i64 0, .str ByteArray.empty, .slice .nil []]), (12, [.int .i64 bp12.fOp, .int .i64 bp12.fCmp, .int .i64 bp12.fLeft.fKind, .int .i64 bp12.fLeft.fIndex, .int .i64 bp12.fLeft.fValue.fKind, .int .i64 bp12.fLeft.fValue.fInt, .str bp12.fLeft.fValue.fText, .int .i64 bp12.fRight.fKind, .int .i64 bp12.fRight.fIndex, .int .i64 bp12.fRight.fValue.fKind, .int .i64 bp12.fRight.fValue.fInt, .str bp12.fRight.fValue.fText, .slice (.own 29) (rows28 bp12.fArgs)])]⟩
def st32_3 (bc0 : TCase) (bp12 : TPredicate) : LS := ⟨[(8, .loc 8 0), (12, .loc 12 0)], [(0, (enc57 bc0)), (8, [.int .i64 0, .int .i64 0, .int .i64 0, .int .i64 0, .int .i64 0, .int .i64 0, .str ByteArray.empty, .int .i64 0, .int .i64 0, .int .i64 0, .int .i64 0, .str ByteArray.empty, .slice .nil []]), (12, [.int .i64 bp12.fOp, .int .i64 bp12.fCmp, .int .i64 bp12.fLeft.fKind, .int .i64 bp12.fLeft.fIndex, .int .i64 bp12.fLeft.fValue.fKind, .int .i64 bp12.fLeft.fValue.fInt, .str bp12.fLeft.fValue.fText, .int .i64 bp12.fRight.fKind, .int .i64 bp12.fRight.fIndex, .int .i64 bp12.fRight.fValue.fKind, .int .i64 bp12.fRight.fValue.fInt, .str bp12.fRight.fValue.fText, .slice (.own 29) (rows28 bp12.fArgs)])]⟩
def st32_4 (columns1 : (List Int)) (params2 : (List Int)) (deep3 : Int) (op9 : Int) (t27 : Bool) (bc0 : TCase) : LS := ⟨[(0, .loc 0 0), (1, .slice .sh (rows3 columns1)), (2, .slice .sh (rows3 params2)), (3, .int .i64 deep3), (8, .loc 8 0), (9, .int .i64 op9), (27, .bool t27)], [(0, (enc57 bc0)), (8, [.int .i64 0, .int .i64 0, .int .i64 0, .int .i64 0, .int .i64 0, .int .i64 0, .str ByteArray.empty, .int .i64 0, .int .i64 0, .int .i64 0, .int .i64 0, .str ByteArray.empty, .slice .nil []])]⟩
def st32_5 (c0 : TCase) (columns1 : (List Int)) (params2 : (List Int)) (deep3 : Int) : LS := ⟨[(0, .loc 0 0), (1, .slice .sh (rows3 columns1)), (2, .slice .sh (rows3 params2)), (3, .int .i64 deep3)], [(0, (enc57 c0))]⟩
def sp32_0 : Stops := []
def B32_0 (s_32 : TCase → (List Int) → (List Int) → Int → Option (TPredicate × TCase)) (n : Nat) (bc0 : TCase) (bp11 : TPredicate) : Option (TPredicate × TCase) :=
  (F33 n bc0 6).bind fun x2_ =>
  if x2_.1 then
    some ((TPredicate.mk bp11.fOp bp11.fCmp bp11.fRight bp11.fLeft []), x2_.2)
  else
    some ((TPredicate.mk bp11.fOp bp11.fCmp bp11.fLeft bp11.fRight []), x2_.2)

theorem b32_0 (s_32 : TCase → (List Int) → (List Int) → Int → Option (TPredicate × TCase)) (hs_32 : ∀ (a0_ : TCase) (a1_ : (List Int)) (a2_ : (List Int)) (a3_ : Int) (r : (TPredicate × TCase)), s_32 a0_ a1_ a2_ a3_ = some r → CallOK Try.prog ann 32 [.ptr (enc57 a0_), .slice .sh (rows3 a1_), .slice .sh (rows3 a2_), .int .i64 a3_] (res32 r) (outs32 r)) (n : Nat) (bc0 : TCase) (bp11 : TPredicate) (r : (TPredicate × TCase)) (h : B32_0 s_32 n bc0 bp11 = some r) : At e32 [1, 1, 1, 1, 0, 1, 1, 1, 0, 0, 1, 1] (st32_0 bc0 bp11) (res32 r) (outs32 r) := by
  unfold B32_0 at h
  refine bind_elim h (fun x2_ hx2_ h1_ => ?_)
  refine ite_elim h1_ (fun c0_ h2_ => ?_) (fun c0_ h2_ => ?_)
  ·
    have e_ := Option.some.inj h2_
    subst e_
    exact run_ret (S := sp32_0) (G := []) (sc := [(1, .call 33 (.bool true) (outs33 x2_))]) (obs := [CallOK Try.prog ann 33 [.ptr (enc57 bc0), .int .i64 6] (.bool true) (outs33 x2_)]) (by kernel_rfl) ⟨callOK_bool (ev33 n _ _ _ hx2_) c0_, trivial⟩
  ·
    have e_ := Option.some.inj h2_
    subst e_
    exact run_ret (S := sp32_0) (G := []) (sc := [(1, .call 33 (.bool false) (outs33 x2_))]) (obs := [CallOK Try.prog ann 33 [.ptr (enc57 bc0), .int .i64 6] (.bool false) (outs33 x2_)]) (by kernel_rfl) ⟨callOK_bool (ev33 n _ _ _ hx2_) c0_, trivial⟩

def sp32_1 : Stops := [([1, 1, 1, 1, 0, 1, 1, 1, 0, 0, 1, 1], [(0, .same), (8, .same), (11, .same)], [(0, [.nrm, .same]), (8, []), (11, [.same, .same, .same, .same, .same, .same, .same, .same, .same, .same, .same, .same, .same])])]
def B32_1 (s_32 : TCase → (List Int) → (List Int) → Int → Option (TPredicate × TCase)) (n : Nat) (columns1 : (List Int)) (params2 : (List Int)) (kind10 : Int) (bc0 : TCase) : Option (TPredicate × TCase) :=
  (F21 n bc0 6).bind fun x2_ =>
  (F58 n x2_.2 columns1 params2 kind10).bind fun x8_ =>
  (F22 n x8_.2 kind10).bind fun x11_ =>
  (F33 n x11_.2 3).bind fun x17_ =>
  if x17_.1 then
    (F58 n x17_.2 columns1 params2 kind10).bind fun x22_ =>
    B32_0 s_32 n x22_.2 (TPredicate.mk 3 (w64 (1 + x2_.1)) x8_.1 x22_.1 [])
  else
    B32_0 s_32 n x17_.2 (TPredicate.mk 3 (w64 (1 + x2_.1)) x8_.1 (TOperand.mk 3 0 x11_.1) [])

theorem b32_1 (s_32 : TCase → (List Int) → (List Int) → Int → Option (TPredicate × TCase)) (hs_32 : ∀ (a0_ : TCase) (a1_ : (List Int)) (a2_ : (List Int)) (a3_ : Int) (r : (TPredicate × TCase)), s_32 a0_ a1_ a2_ a3_ = some r → CallOK Try.prog ann 32 [.ptr (enc57 a0_), .slice .sh (rows3 a1_), .slice .sh (rows3 a2_), .int .i64 a3_] (res32 r) (outs32 r)) (n : Nat) (columns1 : (List Int)) (params2 : (List Int)) (kind10 : Int) (bc0 : TCase) (r : (TPredicate × TCase)) (h : B32_1 s_32 n columns1 params2 kind10 bc0 = some r) : At e32 [1, 1, 0, 1, 1, 1, 0, 0, 1, 1] (st32_1 columns1 params2 kind10 bc0) (res32 r) (outs32 r) := by
  unfold B32_1 at h
  refine bind_elim h (fun x2_ hx2_ h3_ => ?_)
  refine bind_elim h3_ (fun x8_ hx8_ h4_ => ?_)
  refine bind_elim h4_ (fun x11_ hx11_ h5_ => ?_)
  refine bind_elim h5_ (fun x17_ hx17_ h6_ => ?_)
  refine ite_elim h6_ (fun c0_ h7_ => ?_) (fun c0_ h7_ => ?_)
  ·
    refine bind_elim h7_ (fun x22_ hx22_ h8_ => ?_)
    exact run_at (S := sp32_1) (G := []) (sc := [(1, .call 21 (res21 x2_) (outs21 x2_)), (5, .call 58 (res58 x8_) (outs58 x8_)), (2, .call 22 (res22 x11_) (outs22 x11_)), (5, .call 33 (.bool true) (outs33 x17_)), (4, .call 58 (res58 x22_) (outs58 x22_))]) (obs := [CallOK Try.prog ann 58 [.ptr (enc57 x17_.2), .slice .sh (rows3 columns1), .slice .sh (rows3 params2), .int .i64 kind10] (res58 x22_) (outs58 x22_), CallOK Try.prog ann 33 [.ptr (enc57 x11_.2), .int .i64 3] (.bool true) (outs33 x17_), CallOK Try.prog ann 22 [.ptr (enc57 x8_.2), .int .i64 kind10] (res22 x11_) (outs22 x11_), CallOK Try.prog ann 58 [.ptr (enc57 x2_.2), .slice .sh (rows3 columns1), .slice .sh (rows3 params2), .int .i64 kind10] (res58 x8_) (outs58 x8_), CallOK Try.prog ann 21 [.ptr (enc57 bc0), .int .i64 6] (res21 x2_) (outs21 x2_)]) (by kernel_rfl) ⟨ev58 n _ _ _ _ _ hx22_, callOK_bool (ev33 n _ _ _ hx17_) c0_, ev22 n _ _ _ hx11_, ev58 n _ _ _ _ _ hx8_, ev21 n _ _ _ hx2_, trivial⟩ (b32_0 s_32 hs_32 n _ _ _ h8_)
  ·
    exact run_at (S := sp32_1) (G := []) (sc := [(1, .call 21 (res21 x2_) (outs21 x2_)), (5, .call 58 (res58 x8_) (outs58 x8_)), (2, .call 22 (res22 x11_) (outs22 x11_)), (5, .call 33 (.bool false) (outs33 x17_))]) (obs := [CallOK Try.prog ann 33 [.ptr (enc57 x11_.2), .int .i64 3] (.bool false) (outs33 x17_), CallOK Try.prog ann 22 [.ptr (enc57 x8_.2), .int .i64 kind10] (res22 x11_) (outs22 x11_), CallOK Try.prog ann 58 [.ptr (enc57 x2_.2), .slice .sh (rows3 columns1), .slice .sh (rows3 params2), .int .i64 kind10] (res58 x8_) (outs58 x8_), CallOK Try.prog ann 21 [.ptr (enc57 bc0), .int .i64 6] (res21 x2_) (outs21 x2_)]) (by kernel_rfl) ⟨callOK_bool (ev33 n _ _ _ hx17_) c0_, ev22 n _ _ _ hx11_, ev58 n _ _ _ _ _ hx8_, ev21 n _ _ _ hx2_, trivial⟩ (b32_0 s_32 hs_32 n _ _ _ h7_)

def sp32_2 : Stops := [([0, 1, 0, 1, 1, 1, 1], [(0, .same), (1, .nrm), (2, .nrm), (3, .same), (8, .same), (12, .same), (13, .same)], [(0, [.nrm, .same]), (8, []), (12, [.same, .same, .same, .same, .same, .same, .same, .same, .same, .same, .same, .same, .own 29])]), ([1, 1, 1, 1, 1], [(8, .same), (12, .same)], [(0, [.nrm, .same]), (8, []), (12, [.same, .same, .same, .same, .same, .same, .same, .same, .same, .same, .same, .same, .own 29])])]
def B32_2 (s_32 : TCase → (List Int) → (List Int) → Int → Option (TPredicate × TCase)) (k_3 : TCase → TPredicate → Option (TPredicate × TCase)) (back : (List Int) → (List Int) → Int → Int → TCase → TPredicate → Option (TPredicate × TCase)) (n : Nat) (columns1 : (List Int)) (params2 : (List Int)) (deep3 : Int) (n13 : Int) (bc0 : TCase) (bp12 : TPredicate) : Option (TPredicate × TCase) :=
  if decide (n13 ≥ 0) then
    (s_32 bc0 columns1 params2 (w64 (deep3 - 1))).bind fun x10_ =>
    (app bp12.fArgs [x10_.1]).bind fun x12_ =>
    back columns1 params2 deep3 (w64 (n13 - 1)) x10_.2 (TPredicate.mk bp12.fOp bp12.fCmp bp12.fLeft bp12.fRight x12_)
  else
    k_3 bc0 bp12

theorem b32_2 (s_32 : TCase → (List Int) → (List Int) → Int → Option (TPredicate × TCase)) (hs_32 : ∀ (a0_ : TCase) (a1_ : (List Int)) (a2_ : (List Int)) (a3_ : Int) (r : (TPredicate × TCase)), s_32 a0_ a1_ a2_ a3_ = some r → CallOK Try.prog ann 32 [.ptr (enc57 a0_), .slice .sh (rows3 a1_), .slice .sh (rows3 a2_), .int .i64 a3_] (res32 r) (outs32 r)) (k_3 : TCase → TPredicate → Option (TPredicate × TCase)) (hk_3 : ∀ (bc0 : TCase) (bp12 : TPredicate) (r : (TPredicate × TCase)), k_3 bc0 bp12 = some r → At e32 [1, 1, 1, 1, 1] (st32_3 bc0 bp12) (res32 r) (outs32 r)) (back : (List Int) → (List Int) → Int → Int → TCase → TPredicate → Option (TPredicate × TCase)) (hback : ∀ (columns1 : (List Int)) (params2 : (List Int)) (deep3 : Int) (n13 : Int) (bc0 : TCase) (bp12 : TPredicate) (r : (TPredicate × TCase)), back columns1 params2 deep3 n13 bc0 bp12 = some r → At e32 [0, 1, 0, 1, 1, 1, 1] (st32_2 columns1 params2 deep3 n13 bc0 bp12) (res32 r) (outs32 r)) (n : Nat) (columns1 : (List Int)) (params2 : (List Int)) (deep3 : Int) (n13 : Int) (bc0 : TCase) (bp12 : TPredicate) (r : (TPredicate × TCase)) (h : B32_2 s_32 k_3 back n columns1 params2 deep3 n13 bc0 bp12 = some r) : At e32 [0, 1, 0, 1, 1, 1, 1] (st32_2 columns1 params2 deep3 n13 bc0 bp12) (res32 r) (outs32 r) := by
  unfold B32_2 at h
  refine ite_elim h (fun c0_ h9_ => ?_) (fun c0_ h9_ => ?_)
  ·
    refine bind_elim h9_ (fun x10_ hx10_ h10_ => ?_)
    refine bind_elim h10_ (fun x12_ hx12_ h11_ => ?_)
    exact run_at (S := sp32_2) (G := []) (sc := [(1, .eq (.bool true)), (7, .call 32 (res32 x10_) (outs32 x10_)), (0, .eq (.slice (.own 29) (rows28 [x10_.1]))), (0, .core ⟨[(104, .slice (.own 29) (rows28 x12_)), (96, .slice .sh (rows28 bp12.fArgs))], []⟩)]) (obs := [appendA Try.prog an32 104 27 (.tmp 96) (.slice (.own 29) (rows28 bp12.fArgs)) (.slice (.own 29) (rows28 [x10_.1])) (fun _ => none) = some ⟨[(104, .slice (.own 29) (rows28 x12_)), (96, .slice .sh (rows28 bp12.fArgs))], []⟩, AV.slice (.own 29) ([x10_.1].map enc28) = .slice (.own 29) (rows28 [x10_.1]), CallOK Try.prog ann 32 [.ptr (enc57 bc0), .slice .sh (rows3 columns1), .slice .sh (rows3 params2), .int .i64 (w64 (deep3 - 1))] (res32 x10_) (outs32 x10_), AV.bool (decide (n13 ≥ 0)) = .bool true]) (by kernel_rfl) ⟨R27.appOb (A := an32) (by decide) hx12_, R27.build1 [x10_.1], hs_32 _ _ _ _ _ hx10_, congrArg AV.bool c0_, trivial⟩ (hback _ _ _ _ _ _ _ h11_)
  ·
    exact run_at (S := sp32_2) (G := []) (sc := [(1, .eq (.bool false))]) (obs := [AV.bool (decide (n13 ≥ 0)) = .bool false]) (by kernel_rfl) ⟨congrArg AV.bool c0_, trivial⟩ (hk_3 _ _ _ h9_)

def L32_2 (s_32 : TCase → (List Int) → (List Int) → Int → Option (TPredicate × TCase)) (k_3 : TCase → TPredicate → Option (TPredicate × TCase)) : Nat → (List Int) → (List Int) → Int → Int → TCase → TPredicate → Option (TPredicate × TCase)
  | 0, _, _, _, _, _, _ => none
  | n + 1, columns1, params2, deep3, n13, bc0, bp12 => B32_2 s_32 k_3 (L32_2 s_32 k_3 n) n columns1 params2 deep3 n13 bc0 bp12
theorem l32_2 (s_32 : TCase → (List Int) → (List Int) → Int → Option (TPredicate × TCase)) (hs_32 : ∀ (a0_ : TCase) (a1_ : (List Int)) (a2_ : (List Int)) (a3_ : Int) (r : (TPredicate × TCase)), s_32 a0_ a1_ a2_ a3_ = some r → CallOK Try.prog ann 32 [.ptr (enc57 a0_), .slice .sh (rows3 a1_), .slice .sh (rows3 a2_), .int .i64 a3_] (res32 r) (outs32 r)) (k_3 : TCase → TPredicate → Option (TPredicate × TCase)) (hk_3 : ∀ (bc0 : TCase) (bp12 : TPredicate) (r : (TPredicate × TCase)), k_3 bc0 bp12 = some r → At e32 [1, 1, 1, 1, 1] (st32_3 bc0 bp12) (res32 r) (outs32 r)) : ∀ (n : Nat) (columns1 : (List Int)) (params2 : (List Int)) (deep3 : Int) (n13 : Int) (bc0 : TCase) (bp12 : TPredicate) (r : (TPredicate × TCase)), L32_2 s_32 k_3 n columns1 params2 deep3 n13 bc0 bp12 = some r → At e32 [0, 1, 0, 1, 1, 1, 1] (st32_2 columns1 params2 deep3 n13 bc0 bp12) (res32 r) (outs32 r)
  | 0, _, _, _, _, _, _, _, h => by simp [L32_2] at h
  | n + 1, columns1, params2, deep3, n13, bc0, bp12, r, h => b32_2 s_32 hs_32 k_3 hk_3 (L32_2 s_32 k_3 n) (l32_2 s_32 hs_32 k_3 hk_3 n) n columns1 params2 deep3 n13 bc0 bp12 r h
def sp32_3 : Stops := []
def B32_3 (s_32 : TCase → (List Int) → (List Int) → Int → Option (TPredicate × TCase)) (n : Nat) (bc0 : TCase) (bp12 : TPredicate) : Option (TPredicate × TCase) :=
  some (bp12, bc0)

theorem b32_3 (s_32 : TCase → (List Int) → (List Int) → Int → Option (TPredicate × TCase)) (hs_32 : ∀ (a0_ : TCase) (a1_ : (List Int)) (a2_ : (List Int)) (a3_ : Int) (r : (TPredicate × TCase)), s_32 a0_ a1_ a2_ a3_ = some r → CallOK Try.prog ann 32 [.ptr (enc57 a0_), .slice .sh (rows3 a1_), .slice .sh (rows3 a2_), .int .i64 a3_] (res32 r) (outs32 r)) (n : Nat) (bc0 : TCase) (bp12 : TPredicate) (r : (TPredicate × TCase)) (h : B32_3 s_32 n bc0 bp12 = some r) : At e32 [1, 1, 1, 1, 1] (st32_3 bc0 bp12) (res32 r) (outs32 r) := by
  unfold B32_3 at h
  have e_ := Option.some.inj h
  subst e_
  exact run_ret (S := sp32_3) (G := []) (sc := []) (obs := []) (by kernel_rfl) trivial

def sp32_4 : Stops := [([1, 1, 0, 1, 1, 1, 0, 0, 1, 1], [(0, .same), (1, .nrm), (2, .nrm), (8, .same), (10, .same)], [(0, [.nrm, .same]), (8, [])]), ([0, 1, 0, 1, 1, 1, 1], [(0, .same), (1, .nrm), (2, .nrm), (3, .same), (8, .same), (12, .same), (13, .same)], [(0, [.nrm, .same]), (8, []), (12, [.same, .same, .same, .same, .same, .same, .same, .same, .same, .same, .same, .same, .own 29])])]
def B32_4 (s_32 : TCase → (List Int) → (List Int) → Int → Option (TPredicate × TCase)) (n : Nat) (columns1 : (List Int)) (params2 : (List Int)) (deep3 : Int) (op9 : Int) (t27 : Bool) (bc0 : TCase) : Option (TPredicate × TCase) :=
  if t27 then
    if decide ((columns1.length : Int) > 0) then
      (F21 n bc0 (columns1.length : Int)).bind fun x9_ =>
      (idx columns1 x9_.1).bind fun x10_ =>
      B32_1 s_32 n columns1 params2 x10_ x9_.2
    else
      B32_1 s_32 n columns1 params2 4 bc0
  else
    if op9 == 6 then
      (s_32 bc0 columns1 params2 (w64 (deep3 - 1))).bind fun x9_ =>
      some ((TPredicate.mk 6 0 (TOperand.mk 0 0 (TValue.mk 0 0 ByteArray.empty)) (TOperand.mk 0 0 (TValue.mk 0 0 ByteArray.empty)) [x9_.1]), x9_.2)
    else
      (F21 n bc0 3).bind fun x11_ =>
      L32_2 s_32 (B32_3 s_32 n) n columns1 params2 deep3 x11_.1 x11_.2 (TPredicate.mk (w64 ((w64 (4 + op9)) - 7)) 0 (TOperand.mk 0 0 (TValue.mk 0 0 ByteArray.empty)) (TOperand.mk 0 0 (TValue.mk 0 0 ByteArray.empty)) [])

theorem b32_4 (s_32 : TCase → (List Int) → (List Int) → Int → Option (TPredicate × TCase)) (hs_32 : ∀ (a0_ : TCase) (a1_ : (List Int)) (a2_ : (List Int)) (a3_ : Int) (r : (TPredicate × TCase)), s_32 a0_ a1_ a2_ a3_ = some r → CallOK Try.prog ann 32 [.ptr (enc57 a0_), .slice .sh (rows3 a1_), .slice .sh (rows3 a2_), .int .i64 a3_] (res32 r) (outs32 r)) (n : Nat) (columns1 : (List Int)) (params2 : (List Int)) (deep3 : Int) (op9 : Int) (t27 : Bool) (bc0 : TCase) (r : (TPredicate × TCase)) (h : B32_4 s_32 n columns1 params2 deep3 op9 t27 bc0 = some r) : At e32 [1, 1, 1, 0, 0, 1, 1] (st32_4 columns1 params2 deep3 op9 t27 bc0) (res32 r) (outs32 r) := by
  unfold B32_4 at h
  refine ite_elim h (fun c0_ h12_ => ?_) (fun c0_ h12_ => ?_)
  ·
    subst c0_
    refine ite_elim h12_ (fun c1_ h13_ => ?_) (fun c1_ h13_ => ?_)
    ·
      refine bind_elim h13_ (fun x9_ hx9_ h14_ => ?_)
      refine bind_elim h14_ (fun x10_ hx10_ h15_ => ?_)
      exact run_at (S := sp32_4) (G := []) (sc := [(2, .eq (.int .i64 (columns1.length : Int))), (0, .eq (.bool true)), (3, .eq (.int .i64 (columns1.length : Int))), (0, .call 21 (res21 x9_) (outs21 x9_)), (0, .core ⟨[(42, .imm (enc3 x10_))], []⟩)]) (obs := [indexAddrA Try.prog an32 (some 42) 30 (.slice .sh (rows3 columns1)) (.int .i64 x9_.1) = some ⟨[(42, .imm (enc3 x10_))], []⟩, CallOK Try.prog ann 21 [.ptr (enc57 bc0), .int .i64 (columns1.length : Int)] (res21 x9_) (outs21 x9_), AV.int .i64 ((rows3 columns1).length : Int) = .int .i64 (columns1.length : Int), AV.bool (decide ((columns1.length : Int) > 0)) = .bool true, AV.int .i64 ((rows3 columns1).length : Int) = .int .i64 (columns1.length : Int)]) (by kernel_rfl) ⟨R30.idxOb (A := an32) hx10_, ev21 n _ _ _ hx9_, R30.lenOb columns1, congrArg AV.bool c1_, R30.lenOb columns1, trivial⟩ (b32_1 s_32 hs_32 n _ _ _ _ _ h15_)
    ·
      exact run_at (S := sp32_4) (G := []) (sc := [(2, .eq (.int .i64 (columns1.length : Int))), (0, .eq (.bool false))]) (obs := [AV.bool (decide ((columns1.length : Int) > 0)) = .bool false, AV.int .i64 ((rows3 columns1).length : Int) = .int .i64 (columns1.length : Int)]) (by kernel_rfl) ⟨congrArg AV.bool c1_, R30.lenOb columns1, trivial⟩ (b32_1 s_32 hs_32 n _ _ _ _ _ h13_)
  ·
    subst c0_
    refine ite_elim h12_ (fun c1_ h16_ => ?_) (fun c1_ h16_ => ?_)
    ·
      refine bind_elim h16_ (fun x9_ hx9_ h17_ => ?_)
      have e_ := Option.some.inj h17_
      subst e_
      exact run_ret (S := sp32_4) (G := []) (sc := [(1, .eq (.bool true)), (6, .call 32 (res32 x9_) (outs32 x9_)), (0, .eq (.slice (.own 29) (rows28 [x9_.1])))]) (obs := [AV.slice (.own 29) ([x9_.1].map enc28) = .slice (.own 29) (rows28 [x9_.1]), CallOK Try.prog ann 32 [.ptr (enc57 bc0), .slice .sh (rows3 columns1), .slice .sh (rows3 params2), .int .i64 (w64 (deep3 - 1))] (res32 x9_) (outs32 x9_), AV.bool (op9 == 6) = .bool true]) (by kernel_rfl) ⟨R27.build1 [x9_.1], hs_32 _ _ _ _ _ hx9_, congrArg AV.bool c1_, trivial⟩
    ·
      refine bind_elim h16_ (fun x11_ hx11_ h18_ => ?_)
      exact run_at (S := sp32_4) (G := []) (sc := [(1, .eq (.bool false)), (8, .call 21 (res21 x11_) (outs21 x11_))]) (obs := [CallOK Try.prog ann 21 [.ptr (enc57 bc0), .int .i64 3] (res21 x11_) (outs21 x11_), AV.bool (op9 == 6) = .bool false]) (by kernel_rfl) ⟨ev21 n _ _ _ hx11_, congrArg AV.bool c1_, trivial⟩ (l32_2 s_32 hs_32 (B32_3 s_32 n) (b32_3 s_32 hs_32 n) n _ _ _ _ _ _ _ h18_)

def sp32_5 : Stops := [([1, 1, 1, 0, 0, 1, 1], [(0, .same), (1, .nrm), (2, .nrm), (3, .same), (8, .same), (9, .same), (27, .same)], [(0, [.nrm, .same]), (8, [])])]
def B32_5 (s_32 : TCase → (List Int) → (List Int) → Int → Option (TPredicate × TCase)) (n : Nat) (c0 : TCase) (columns1 : (List Int)) (params2 : (List Int)) (deep3 : Int) : Option (TPredicate × TCase) :=
  (F21 n c0 9).bind fun x3_ =>
  if x3_.1 == 0 then
    (F33 n x3_.2 2).bind fun x9_ =>
    if x9_.1 then
      (F21 n x9_.2 2).bind fun x13_ =>
      some ((TPredicate.mk (w64 (1 + x13_.1)) 0 (TOperand.mk 0 0 (TValue.mk 0 0 ByteArray.empty)) (TOperand.mk 0 0 (TValue.mk 0 0 ByteArray.empty)) []), x13_.2)
    else
      if decide (x3_.1 < 6) then
        B32_4 s_32 n columns1 params2 deep3 x3_.1 true x9_.2
      else
        B32_4 s_32 n columns1 params2 deep3 x3_.1 (decide (deep3 < 1)) x9_.2
  else
    if decide (x3_.1 < 6) then
      B32_4 s_32 n columns1 params2 deep3 x3_.1 true x3_.2
    else
      B32_4 s_32 n columns1 params2 deep3 x3_.1 (decide (deep3 < 1)) x3_.2

theorem b32_5 (s_32 : TCase → (List Int) → (List Int) → Int → Option (TPredicate × TCase)) (hs_32 : ∀ (a0_ : TCase) (a1_ : (List Int)) (a2_ : (List Int)) (a3_ : Int) (r : (TPredicate × TCase)), s_32 a0_ a1_ a2_ a3_ = some r → CallOK Try.prog ann 32 [.ptr (enc57 a0_), .slice .sh (rows3 a1_), .slice .sh (rows3 a2_), .int .i64 a3_] (res32 r) (outs32 r)) (n : Nat) (c0 : TCase) (columns1 : (List Int)) (params2 : (List Int)) (deep3 : Int) (r : (TPredicate × TCase)) (h : B32_5 s_32 n c0 columns1 params2 deep3 = some r) : At e32 [] (st32_5 c0 columns1 params2 deep3) (res32 r) (outs32 r) := by
  unfold B32_5 at h
  refine bind_elim h (fun x3_ hx3_ h19_ => ?_)
  refine ite_elim h19_ (fun c0_ h20_ => ?_) (fun c0_ h20_ => ?_)
  ·
    refine bind_elim h20_ (fun x9_ hx9_ h21_ => ?_)
    refine ite_elim h21_ (fun c1_ h22_ => ?_) (fun c1_ h22_ => ?_)
    ·
      refine bind_elim h22_ (fun x13_ hx13_ h23_ => ?_)
      have e_ := Option.some.inj h23_
      subst e_
      exact run_ret (S := sp32_5) (G := []) (sc := [(2, .call 21 (res21 x3_) (outs21 x3_)), (2, .eq (.bool true)), (2, .call 33 (.bool true) (outs33 x9_)), (3, .call 21 (res21 x13_) (outs21 x13_))]) (obs := [CallOK Try.prog ann 21 [.ptr (enc57 x9_.2), .int .i64 2] (res21 x13_) (outs21 x13_), CallOK Try.prog ann 33 [.ptr (enc57 x3_.2), .int .i64 2] (.bool true) (outs33 x9_), AV.bool (x3_.1 == 0) = .bool true, CallOK Try.prog ann 21 [.ptr (enc57 c0), .int .i64 9] (res21 x3_) (outs21 x3_)]) (by kernel_rfl) ⟨ev21 n _ _ _ hx13_, callOK_bool (ev33 n _ _ _ hx9_) c1_, congrArg AV.bool c0_, ev21 n _ _ _ hx3_, trivial⟩
    ·
      refine ite_elim h22_ (fun c2_ h24_ => ?_) (fun c2_ h24_ => ?_)
      ·
        exact run_at (S := sp32_5) (G := []) (sc := [(2, .call 21 (res21 x3_) (outs21 x3_)), (2, .eq (.bool true)), (2, .call 33 (.bool false) (outs33 x9_)), (3, .eq (.bool true))]) (obs := [AV.bool (decide (x3_.1 < 6)) = .bool true, CallOK Try.prog ann 33 [.ptr (enc57 x3_.2), .int .i64 2] (.bool false) (outs33 x9_), AV.bool (x3_.1 == 0) = .bool true, CallOK Try.prog ann 21 [.ptr (enc57 c0), .int .i64 9] (res21 x3_) (outs21 x3_)]) (by kernel_rfl) ⟨congrArg AV.bool c2_, callOK_bool (ev33 n _ _ _ hx9_) c1_, congrArg AV.bool c0_, ev21 n _ _ _ hx3_, trivial⟩ (b32_4 s_32 hs_32 n _ _ _ _ _ _ _ h24_)
      ·
        exact run_at (S := sp32_5) (G := []) (sc := [(2, .call 21 (res21 x3_) (outs21 x3_)), (2, .eq (.bool true)), (2, .call 33 (.bool false) (outs33 x9_)), (3, .eq (.bool false))]) (obs := [AV.bool (decide (x3_.1 < 6)) = .bool false, CallOK Try.prog ann 33 [.ptr (enc57 x3_.2), .int .i64 2] (.bool false) (outs33 x9_), AV.bool (x3_.1 == 0) = .bool true, CallOK Try.prog ann 21 [.ptr (enc57 c0), .int .i64 9] (res21 x3_) (outs21 x3_)]) (by kernel_rfl) ⟨congrArg AV.bool c2_, callOK_bool (ev33 n _ _ _ hx9_) c1_, congrArg AV.bool c0_, ev21 n _ _ _ hx3_, trivial⟩ (b32_4 s_32 hs_32 n _ _ _ _ _ _ _ h24_)
  ·
    refine ite_elim h20_ (fun c1_ h25_ => ?_) (fun c1_ h25_ => ?_)
    ·
      exact run_at (S := sp32_5) (G := []) (sc := [(2, .call 21 (res21 x3_) (outs21 x3_)), (2, .eq (.bool false)), (4, .eq (.bool true))]) (obs := [AV.bool (decide (x3_.1 < 6)) = .bool true, AV.bool (x3_.1 == 0) = .bool false, CallOK Try.prog ann 21 [.ptr (enc57 c0), .int .i64 9] (res21 x3_) (outs21 x3_)]) (by kernel_rfl) ⟨congrArg AV.bool c1_, congrArg AV.bool c0_, ev21 n _ _ _ hx3_, trivial⟩ (b32_4 s_32 hs_32 n _ _ _ _ _ _ _ h25_)
    ·
      exact run_at (S := sp32_5) (G := []) (sc := [(2, .call 21 (res21 x3_) (outs21 x3_)), (2, .eq (.bool false)), (4, .eq (.bool false))]) (obs := [AV.bool (decide (x3_.1 < 6)) = .bool false, AV.bool (x3_.1 == 0) = .bool false, CallOK Try.prog ann 21 [.ptr (enc57 c0), .int .i64 9] (res21 x3_) (outs21 x3_)]) (by kernel_rfl) ⟨congrArg AV.bool c1_, congrArg AV.bool c0_, ev21 n _ _ _ hx3_, trivial⟩ (b32_4 s_32 hs_32 n _ _ _ _ _ _ _ h25_)

def F32 : Nat → TCase → (List Int) → (List Int) → Int → Option (TPredicate × TCase)
  | 0, _, _, _, _ => none
  | n + 1, c0, columns1, params2, deep3 => B32_5 (F32 n) n c0 columns1 params2 deep3
theorem ev32 : ∀ (n : Nat) (c0 : TCase) (columns1 : (List Int)) (params2 : (List Int)) (deep3 : Int) (r : (TPredicate × TCase)), F32 n c0 columns1 params2 deep3 = some r → CallOK Try.prog ann 32 [.ptr (enc57 c0), .slice .sh (rows3 columns1), .slice .sh (rows3 params2), .int .i64 deep3] (res32 r) (outs32 r)
  | 0, _, _, _, _, _, h => by simp [F32] at h
  | n + 1, c0, columns1, params2, deep3, r, h => call_of_at (E := e32) (s := st32_5 c0 columns1 params2 deep3) body32 Try.func32 (by kernel_rfl) (by kernel_rfl) (by kernel_rfl) (by kernel_rfl) (by kernel_rfl) (emptyOK_of (by kernel_rfl)) (by kernel_rfl) (b32_5 (F32 n) (ev32 n) n c0 columns1 params2 deep3 r h)

end Go.Proofs.Ytalbakjfbgkjjaa
