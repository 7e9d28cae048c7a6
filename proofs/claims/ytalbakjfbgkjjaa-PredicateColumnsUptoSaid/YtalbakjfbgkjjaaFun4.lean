/- Functions of the program as plain functions, and that the program answers as they do; written by a program (comp.py). -/
import Derived.Test.YtalbakjfbgkjjaaFun3
set_option maxRecDepth 100000
set_option linter.all false
namespace Go.Proofs.Ytalbakjfbgkjjaa
open Go.Abs

/-- cmp.isNaN[int64] -/
noncomputable def e78 : Env := { P := Try.prog, ann := ann, f := 78, fn := Try.f78, ptrs := [], rets := [(2, .same)] }
def st78_0 (x0 : Int) : LS := ⟨[(0, .int .i64 x0)], []⟩
def sp78_0 : Stops := []
def B78_0 (n : Nat) (x0 : Int) : Option Bool :=
  some (x0 != x0)

theorem b78_0 (n : Nat) (x0 : Int) (r : Bool) (h : B78_0 n x0 = some r) : At e78 [] (st78_0 x0) (res78 r) (outs78 r) := by
  unfold B78_0 at h
  have e_ := Option.some.inj h
  subst e_
  exact run_ret (S := sp78_0) (G := []) (sc := []) (obs := []) (by kernel_rfl) trivial

def F78 (n : Nat) (x0 : Int) : Option Bool := B78_0 n x0
theorem ev78 (n : Nat) (x0 : Int) (r : Bool) (h : F78 n x0 = some r) : CallOK Try.prog ann 78 [.int .i64 x0] (res78 r) (outs78 r) :=
  call_of_at (E := e78) (s := st78_0 x0) body78 Try.func78 (by kernel_rfl) (by kernel_rfl) (by kernel_rfl) (by kernel_rfl) (by kernel_rfl) (emptyOK_of (by kernel_rfl)) (by kernel_rfl) (b78_0 n x0 r h)

/-- cmp.Compare[int64] -/
noncomputable def e71 : Env := { P := Try.prog, ann := ann, f := 71, fn := Try.f71, ptrs := [], rets := [(4, .same)] }
def st71_0 (x0 : Int) (y1 : Int) : LS := ⟨[(0, .int .i64 x0), (1, .int .i64 y1)], []⟩
def sp71_0 : Stops := []
def B71_0 (n : Nat) (x0 : Int) (y1 : Int) : Option Int :=
  (F78 n x0).bind fun x3_ =>
  (F78 n y1).bind fun x6_ =>
  if x3_ then
    if x6_ then
      some 0
    else
      some (-1)
  else
    if x6_ then
      some 1
    else
      if decide (x0 < y1) then
        some (-1)
      else
        if decide (x0 > y1) then
          some 1
        else
          some 0

theorem b71_0 (n : Nat) (x0 : Int) (y1 : Int) (r : Int) (h : B71_0 n x0 y1 = some r) : At e71 [] (st71_0 x0 y1) (res71 r) (outs71 r) := by
  unfold B71_0 at h
  refine bind_elim h (fun x3_ hx3_ h1_ => ?_)
  refine bind_elim h1_ (fun x6_ hx6_ h2_ => ?_)
  refine ite_elim h2_ (fun c0_ h3_ => ?_) (fun c0_ h3_ => ?_)
  ·
    subst c0_
    refine ite_elim h3_ (fun c1_ h4_ => ?_) (fun c1_ h4_ => ?_)
    ·
      subst c1_
      have e_ := Option.some.inj h4_
      subst e_
      exact run_ret (S := sp71_0) (G := []) (sc := [(2, .call 78 (res78 true) (outs78 true)), (2, .call 78 (res78 true) (outs78 true))]) (obs := [CallOK Try.prog ann 78 [.int .i64 y1] (res78 true) (outs78 true), CallOK Try.prog ann 78 [.int .i64 x0] (res78 true) (outs78 true)]) (by kernel_rfl) ⟨ev78 n _ _ hx6_, ev78 n _ _ hx3_, trivial⟩
    ·
      subst c1_
      have e_ := Option.some.inj h4_
      subst e_
      exact run_ret (S := sp71_0) (G := []) (sc := [(2, .call 78 (res78 true) (outs78 true)), (2, .call 78 (res78 false) (outs78 false))]) (obs := [CallOK Try.prog ann 78 [.int .i64 y1] (res78 false) (outs78 false), CallOK Try.prog ann 78 [.int .i64 x0] (res78 true) (outs78 true)]) (by kernel_rfl) ⟨ev78 n _ _ hx6_, ev78 n _ _ hx3_, trivial⟩
  ·
    subst c0_
    refine ite_elim h3_ (fun c1_ h5_ => ?_) (fun c1_ h5_ => ?_)
    ·
      subst c1_
      have e_ := Option.some.inj h5_
      subst e_
      exact run_ret (S := sp71_0) (G := []) (sc := [(2, .call 78 (res78 false) (outs78 false)), (2, .call 78 (res78 true) (outs78 true))]) (obs := [CallOK Try.prog ann 78 [.int .i64 y1] (res78 true) (outs78 true), CallOK Try.prog ann 78 [.int .i64 x0] (res78 false) (outs78 false)]) (by kernel_rfl) ⟨ev78 n _ _ hx6_, ev78 n _ _ hx3_, trivial⟩
    ·
      subst c1_
      refine ite_elim h5_ (fun c2_ h6_ => ?_) (fun c2_ h6_ => ?_)
      ·
        have e_ := Option.some.inj h6_
        subst e_
        exact run_ret (S := sp71_0) (G := []) (sc := [(2, .call 78 (res78 false) (outs78 false)), (2, .call 78 (res78 false) (outs78 false)), (5, .eq (.bool true))]) (obs := [AV.bool (decide (x0 < y1)) = .bool true, CallOK Try.prog ann 78 [.int .i64 y1] (res78 false) (outs78 false), CallOK Try.prog ann 78 [.int .i64 x0] (res78 false) (outs78 false)]) (by kernel_rfl) ⟨congrArg AV.bool c2_, ev78 n _ _ hx6_, ev78 n _ _ hx3_, trivial⟩
      ·
        refine ite_elim h6_ (fun c3_ h7_ => ?_) (fun c3_ h7_ => ?_)
        ·
          have e_ := Option.some.inj h7_
          subst e_
          exact run_ret (S := sp71_0) (G := []) (sc := [(2, .call 78 (res78 false) (outs78 false)), (2, .call 78 (res78 false) (outs78 false)), (5, .eq (.bool false)), (2, .eq (.bool true))]) (obs := [AV.bool (decide (x0 > y1)) = .bool true, AV.bool (decide (x0 < y1)) = .bool false, CallOK Try.prog ann 78 [.int .i64 y1] (res78 false) (outs78 false), CallOK Try.prog ann 78 [.int .i64 x0] (res78 false) (outs78 false)]) (by kernel_rfl) ⟨congrArg AV.bool c3_, congrArg AV.bool c2_, ev78 n _ _ hx6_, ev78 n _ _ hx3_, trivial⟩
        ·
          have e_ := Option.some.inj h7_
          subst e_
          exact run_ret (S := sp71_0) (G := []) (sc := [(2, .call 78 (res78 false) (outs78 false)), (2, .call 78 (res78 false) (outs78 false)), (5, .eq (.bool false)), (2, .eq (.bool false))]) (obs := [AV.bool (decide (x0 > y1)) = .bool false, AV.bool (decide (x0 < y1)) = .bool false, CallOK Try.prog ann 78 [.int .i64 y1] (res78 false) (outs78 false), CallOK Try.prog ann 78 [.int .i64 x0] (res78 false) (outs78 false)]) (by kernel_rfl) ⟨congrArg AV.bool c3_, congrArg AV.bool c2_, ev78 n _ _ hx6_, ev78 n _ _ hx3_, trivial⟩

def F71 (n : Nat) (x0 : Int) (y1 : Int) : Option Int := B71_0 n x0 y1
theorem ev71 (n : Nat) (x0 : Int) (y1 : Int) (r : Int) (h : F71 n x0 y1 = some r) : CallOK Try.prog ann 71 [.int .i64 x0, .int .i64 y1] (res71 r) (outs71 r) :=
  call_of_at (E := e71) (s := st71_0 x0 y1) body71 Try.func71 (by kernel_rfl) (by kernel_rfl) (by kernel_rfl) (by kernel_rfl) (by kernel_rfl) (emptyOK_of (by kernel_rfl)) (by kernel_rfl) (b71_0 n x0 y1 r h)

/-- strings.Compare -/
noncomputable def e72 : Env := { P := Try.prog, ann := ann, f := 72, fn := Try.f72, ptrs := [], rets := [(4, .same)] }
def st72_0 (a0 : ByteArray) (b1 : ByteArray) : LS := ⟨[(0, .str a0), (1, .str b1)], []⟩
def sp72_0 : Stops := []
def B72_0 (n : Nat) (a0 : ByteArray) (b1 : ByteArray) : Option Int :=
  (F79 n a0 b1).bind fun x4_ =>
  some x4_

theorem b72_0 (n : Nat) (a0 : ByteArray) (b1 : ByteArray) (r : Int) (h : B72_0 n a0 b1 = some r) : At e72 [] (st72_0 a0 b1) (res72 r) (outs72 r) := by
  unfold B72_0 at h
  refine bind_elim h (fun x4_ hx4_ h1_ => ?_)
  have e_ := Option.some.inj h1_
  subst e_
  exact run_ret (S := sp72_0) (G := []) (sc := [(3, .call 79 (res79 x4_) (outs79 x4_))]) (obs := [CallOK Try.prog ann 79 [.str a0, .str b1] (res79 x4_) (outs79 x4_)]) (by kernel_rfl) ⟨ev79 n _ _ _ hx4_, trivial⟩

def F72 (n : Nat) (a0 : ByteArray) (b1 : ByteArray) : Option Int := B72_0 n a0 b1
theorem ev72 (n : Nat) (a0 : ByteArray) (b1 : ByteArray) (r : Int) (h : F72 n a0 b1 = some r) : CallOK Try.prog ann 72 [.str a0, .str b1] (res72 r) (outs72 r) :=
  call_of_at (E := e72) (s := st72_0 a0 b1) body72 Try.func72 (by kernel_rfl) (by kernel_rfl) (by kernel_rfl) (by kernel_rfl) (by kernel_rfl) (emptyOK_of (by kernel_rfl)) (by kernel_rfl) (b72_0 n a0 b1 r h)

/-- partsync/value.Compare -/
noncomputable def e45 : Env := { P := Try.prog, ann := ann, f := 45, fn := Try.f45, ptrs := [], rets := [(4, .same)] }
def st45_0 (a0 : TValue) (b1 : TValue) : LS := ⟨[(0, .agg (enc23 a0)), (1, .agg (enc23 b1))], []⟩
def sp45_0 : Stops := []
def B45_0 (n : Nat) (a0 : TValue) (b1 : TValue) : Option Int :=
  if ((a0.fKind == b1.fKind) && ((a0.fInt == b1.fInt) && ((decide (a0.fText = b1.fText)) && true))) then
    some 0
  else
    (F70 n a0.fKind b1.fKind).bind fun x11_ =>
    if x11_ != 0 then
      some x11_
    else
      (F71 n a0.fInt b1.fInt).bind fun x19_ =>
      if x19_ != 0 then
        some x19_
      else
        (F72 n a0.fText b1.fText).bind fun x27_ =>
        some x27_

theorem b45_0 (n : Nat) (a0 : TValue) (b1 : TValue) (r : Int) (h : B45_0 n a0 b1 = some r) : At e45 [] (st45_0 a0 b1) (res45 r) (outs45 r) := by
  unfold B45_0 at h
  refine ite_elim h (fun c0_ h1_ => ?_) (fun c0_ h1_ => ?_)
  ·
    have e_ := Option.some.inj h1_
    subst e_
    exact run_ret (S := sp45_0) (G := []) (sc := [(5, .eq (.bool true))]) (obs := [AV.bool ((a0.fKind == b1.fKind) && ((a0.fInt == b1.fInt) && ((decide (a0.fText = b1.fText)) && true))) = .bool true]) (by kernel_rfl) ⟨congrArg AV.bool c0_, trivial⟩
  ·
    refine bind_elim h1_ (fun x11_ hx11_ h2_ => ?_)
    refine ite_elim h2_ (fun c1_ h3_ => ?_) (fun c1_ h3_ => ?_)
    ·
      have e_ := Option.some.inj h3_
      subst e_
      exact run_ret (S := sp45_0) (G := []) (sc := [(5, .eq (.bool false)), (4, .call 70 (res70 x11_) (outs70 x11_)), (2, .eq (.bool true))]) (obs := [AV.bool (x11_ != 0) = .bool true, CallOK Try.prog ann 70 [.int .i64 a0.fKind, .int .i64 b1.fKind] (res70 x11_) (outs70 x11_), AV.bool ((a0.fKind == b1.fKind) && ((a0.fInt == b1.fInt) && ((decide (a0.fText = b1.fText)) && true))) = .bool false]) (by kernel_rfl) ⟨congrArg AV.bool c1_, ev70 n _ _ _ hx11_, congrArg AV.bool c0_, trivial⟩
    ·
      refine bind_elim h3_ (fun x19_ hx19_ h4_ => ?_)
      refine ite_elim h4_ (fun c2_ h5_ => ?_) (fun c2_ h5_ => ?_)
      ·
        have e_ := Option.some.inj h5_
        subst e_
        exact run_ret (S := sp45_0) (G := []) (sc := [(5, .eq (.bool false)), (4, .call 70 (res70 x11_) (outs70 x11_)), (2, .eq (.bool false)), (4, .call 71 (res71 x19_) (outs71 x19_)), (2, .eq (.bool true))]) (obs := [AV.bool (x19_ != 0) = .bool true, CallOK Try.prog ann 71 [.int .i64 a0.fInt, .int .i64 b1.fInt] (res71 x19_) (outs71 x19_), AV.bool (x11_ != 0) = .bool false, CallOK Try.prog ann 70 [.int .i64 a0.fKind, .int .i64 b1.fKind] (res70 x11_) (outs70 x11_), AV.bool ((a0.fKind == b1.fKind) && ((a0.fInt == b1.fInt) && ((decide (a0.fText = b1.fText)) && true))) = .bool false]) (by kernel_rfl) ⟨congrArg AV.bool c2_, ev71 n _ _ _ hx19_, congrArg AV.bool c1_, ev70 n _ _ _ hx11_, congrArg AV.bool c0_, trivial⟩
      ·
        refine bind_elim h5_ (fun x27_ hx27_ h6_ => ?_)
        have e_ := Option.some.inj h6_
        subst e_
        exact run_ret (S := sp45_0) (G := []) (sc := [(5, .eq (.bool false)), (4, .call 70 (res70 x11_) (outs70 x11_)), (2, .eq (.bool false)), (4, .call 71 (res71 x19_) (outs71 x19_)), (2, .eq (.bool false)), (4, .call 72 (res72 x27_) (outs72 x27_))]) (obs := [CallOK Try.prog ann 72 [.str a0.fText, .str b1.fText] (res72 x27_) (outs72 x27_), AV.bool (x19_ != 0) = .bool false, CallOK Try.prog ann 71 [.int .i64 a0.fInt, .int .i64 b1.fInt] (res71 x19_) (outs71 x19_), AV.bool (x11_ != 0) = .bool false, CallOK Try.prog ann 70 [.int .i64 a0.fKind, .int .i64 b1.fKind] (res70 x11_) (outs70 x11_), AV.bool ((a0.fKind == b1.fKind) && ((a0.fInt == b1.fInt) && ((decide (a0.fText = b1.fText)) && true))) = .bool false]) (by kernel_rfl) ⟨ev72 n _ _ _ hx27_, congrArg AV.bool c2_, ev71 n _ _ _ hx19_, congrArg AV.bool c1_, ev70 n _ _ _ hx11_, congrArg AV.bool c0_, trivial⟩

def F45 (n : Nat) (a0 : TValue) (b1 : TValue) : Option Int := B45_0 n a0 b1
theorem ev45 (n : Nat) (a0 : TValue) (b1 : TValue) (r : Int) (h : F45 n a0 b1 = some r) : CallOK Try.prog ann 45 [.agg (enc23 a0), .agg (enc23 b1)] (res45 r) (outs45 r) :=
  call_of_at (E := e45) (s := st45_0 a0 b1) body45 Try.func45 (by kernel_rfl) (by kernel_rfl) (by kernel_rfl) (by kernel_rfl) (by kernel_rfl) (emptyOK_of (by kernel_rfl)) (by kernel_rfl) (b45_0 n a0 b1 r h)

/-- (partsync/predicate.order).equal -/
noncomputable def e64 : Env := { P := Try.prog, ann := ann, f := 64, fn := Try.f64, ptrs := [], rets := [(2, .same)] }
def st64_0 (o0 : Int) : LS := ⟨[(0, .int .i64 o0)], []⟩
def sp64_0 : Stops := []
def B64_0 (n : Nat) (o0 : Int) : Option Bool :=
  some (o0 == 0)

theorem b64_0 (n : Nat) (o0 : Int) (r : Bool) (h : B64_0 n o0 = some r) : At e64 [] (st64_0 o0) (res64 r) (outs64 r) := by
  unfold B64_0 at h
  have e_ := Option.some.inj h
  subst e_
  exact run_ret (S := sp64_0) (G := []) (sc := []) (obs := []) (by kernel_rfl) trivial

def F64 (n : Nat) (o0 : Int) : Option Bool := B64_0 n o0
theorem ev64 (n : Nat) (o0 : Int) (r : Bool) (h : F64 n o0 = some r) : CallOK Try.prog ann 64 [.int .i64 o0] (res64 r) (outs64 r) :=
  call_of_at (E := e64) (s := st64_0 o0) body64 Try.func64 (by kernel_rfl) (by kernel_rfl) (by kernel_rfl) (by kernel_rfl) (by kernel_rfl) (emptyOK_of (by kernel_rfl)) (by kernel_rfl) (b64_0 n o0 r h)

/-- (partsync/predicate.order).different -/
noncomputable def e65 : Env := { P := Try.prog, ann := ann, f := 65, fn := Try.f65, ptrs := [], rets := [(2, .same)] }
def st65_0 (o0 : Int) : LS := ⟨[(0, .int .i64 o0)], []⟩
def sp65_0 : Stops := []
def B65_0 (n : Nat) (o0 : Int) : Option Bool :=
  some (o0 != 0)

theorem b65_0 (n : Nat) (o0 : Int) (r : Bool) (h : B65_0 n o0 = some r) : At e65 [] (st65_0 o0) (res65 r) (outs65 r) := by
  unfold B65_0 at h
  have e_ := Option.some.inj h
  subst e_
  exact run_ret (S := sp65_0) (G := []) (sc := []) (obs := []) (by kernel_rfl) trivial

def F65 (n : Nat) (o0 : Int) : Option Bool := B65_0 n o0
theorem ev65 (n : Nat) (o0 : Int) (r : Bool) (h : F65 n o0 = some r) : CallOK Try.prog ann 65 [.int .i64 o0] (res65 r) (outs65 r) :=
  call_of_at (E := e65) (s := st65_0 o0) body65 Try.func65 (by kernel_rfl) (by kernel_rfl) (by kernel_rfl) (by kernel_rfl) (by kernel_rfl) (emptyOK_of (by kernel_rfl)) (by kernel_rfl) (b65_0 n o0 r h)

/-- (partsync/predicate.order).less -/
noncomputable def e66 : Env := { P := Try.prog, ann := ann, f := 66, fn := Try.f66, ptrs := [], rets := [(2, .same)] }
def st66_0 (o0 : Int) : LS := ⟨[(0, .int .i64 o0)], []⟩
def sp66_0 : Stops := []
def B66_0 (n : Nat) (o0 : Int) : Option Bool :=
  some (decide (o0 < 0))

theorem b66_0 (n : Nat) (o0 : Int) (r : Bool) (h : B66_0 n o0 = some r) : At e66 [] (st66_0 o0) (res66 r) (outs66 r) := by
  unfold B66_0 at h
  have e_ := Option.some.inj h
  subst e_
  exact run_ret (S := sp66_0) (G := []) (sc := []) (obs := []) (by kernel_rfl) trivial

def F66 (n : Nat) (o0 : Int) : Option Bool := B66_0 n o0
theorem ev66 (n : Nat) (o0 : Int) (r : Bool) (h : F66 n o0 = some r) : CallOK Try.prog ann 66 [.int .i64 o0] (res66 r) (outs66 r) :=
  call_of_at (E := e66) (s := st66_0 o0) body66 Try.func66 (by kernel_rfl) (by kernel_rfl) (by kernel_rfl) (by kernel_rfl) (by kernel_rfl) (emptyOK_of (by kernel_rfl)) (by kernel_rfl) (b66_0 n o0 r h)

/-- (partsync/predicate.order).atMost -/
noncomputable def e67 : Env := { P := Try.prog, ann := ann, f := 67, fn := Try.f67, ptrs := [], rets := [(2, .same)] }
def st67_0 (o0 : Int) : LS := ⟨[(0, .int .i64 o0)], []⟩
def sp67_0 : Stops := []
def B67_0 (n : Nat) (o0 : Int) : Option Bool :=
  some (decide (o0 ≤ 0))

theorem b67_0 (n : Nat) (o0 : Int) (r : Bool) (h : B67_0 n o0 = some r) : At e67 [] (st67_0 o0) (res67 r) (outs67 r) := by
  unfold B67_0 at h
  have e_ := Option.some.inj h
  subst e_
  exact run_ret (S := sp67_0) (G := []) (sc := []) (obs := []) (by kernel_rfl) trivial

def F67 (n : Nat) (o0 : Int) : Option Bool := B67_0 n o0
theorem ev67 (n : Nat) (o0 : Int) (r : Bool) (h : F67 n o0 = some r) : CallOK Try.prog ann 67 [.int .i64 o0] (res67 r) (outs67 r) :=
  call_of_at (E := e67) (s := st67_0 o0) body67 Try.func67 (by kernel_rfl) (by kernel_rfl) (by kernel_rfl) (by kernel_rfl) (by kernel_rfl) (emptyOK_of (by kernel_rfl)) (by kernel_rfl) (b67_0 n o0 r h)

/-- (partsync/predicate.order).greater -/
noncomputable def e68 : Env := { P := Try.prog, ann := ann, f := 68, fn := Try.f68, ptrs := [], rets := [(2, .same)] }
def st68_0 (o0 : Int) : LS := ⟨[(0, .int .i64 o0)], []⟩
def sp68_0 : Stops := []
def B68_0 (n : Nat) (o0 : Int) : Option Bool :=
  some (decide (o0 > 0))

theorem b68_0 (n : Nat) (o0 : Int) (r : Bool) (h : B68_0 n o0 = some r) : At e68 [] (st68_0 o0) (res68 r) (outs68 r) := by
  unfold B68_0 at h
  have e_ := Option.some.inj h
  subst e_
  exact run_ret (S := sp68_0) (G := []) (sc := []) (obs := []) (by kernel_rfl) trivial

def F68 (n : Nat) (o0 : Int) : Option Bool := B68_0 n o0
theorem ev68 (n : Nat) (o0 : Int) (r : Bool) (h : F68 n o0 = some r) : CallOK Try.prog ann 68 [.int .i64 o0] (res68 r) (outs68 r) :=
  call_of_at (E := e68) (s := st68_0 o0) body68 Try.func68 (by kernel_rfl) (by kernel_rfl) (by kernel_rfl) (by kernel_rfl) (by kernel_rfl) (emptyOK_of (by kernel_rfl)) (by kernel_rfl) (b68_0 n o0 r h)

/-- (partsync/predicate.order).atLeast -/
noncomputable def e69 : Env := { P := Try.prog, ann := ann, f := 69, fn := Try.f69, ptrs := [], rets := [(2, .same)] }
def st69_0 (o0 : Int) : LS := ⟨[(0, .int .i64 o0)], []⟩
def sp69_0 : Stops := []
def B69_0 (n : Nat) (o0 : Int) : Option Bool :=
  some (decide (o0 ≥ 0))

theorem b69_0 (n : Nat) (o0 : Int) (r : Bool) (h : B69_0 n o0 = some r) : At e69 [] (st69_0 o0) (res69 r) (outs69 r) := by
  unfold B69_0 at h
  have e_ := Option.some.inj h
  subst e_
  exact run_ret (S := sp69_0) (G := []) (sc := []) (obs := []) (by kernel_rfl) trivial

def F69 (n : Nat) (o0 : Int) : Option Bool := B69_0 n o0
theorem ev69 (n : Nat) (o0 : Int) (r : Bool) (h : F69 n o0 = some r) : CallOK Try.prog ann 69 [.int .i64 o0] (res69 r) (outs69 r) :=
  call_of_at (E := e69) (s := st69_0 o0) body69 Try.func69 (by kernel_rfl) (by kernel_rfl) (by kernel_rfl) (by kernel_rfl) (by kernel_rfl) (emptyOK_of (by kernel_rfl)) (by kernel_rfl) (b69_0 n o0 r h)

/-- partsync/predicate.Holds -/
noncomputable def e19 : Env := { P := Try.prog, ann := ann, f := 19, fn := Try.f19, ptrs := [], rets := [(6, .same)] }
def st19_0 (row1 : (List TValue)) (params2 : (List TValue)) (t60 : (List TPredicate)) (t61 : Int) (t62 : Int) : LS := ⟨[(1, .slice .sh (rows23 row1)), (2, .slice .sh (rows23 params2)), (60, .slice .sh (rows28 t60)), (61, .int .i64 t61), (62, .int .i64 t62)], []⟩
def st19_1  : LS := ⟨[], []⟩
def st19_2 (row1 : (List TValue)) (params2 : (List TValue)) (t75 : (List TPredicate)) (t76 : Int) (t77 : Int) : LS := ⟨[(1, .slice .sh (rows23 row1)), (2, .slice .sh (rows23 params2)), (75, .slice .sh (rows28 t75)), (76, .int .i64 t76), (77, .int .i64 t77)], []⟩
def st19_3  : LS := ⟨[], []⟩
def st19_4 (p0 : TPredicate) (row1 : (List TValue)) (params2 : (List TValue)) : LS := ⟨[(0, .agg (enc28 p0)), (1, .slice .sh (rows23 row1)), (2, .slice .sh (rows23 params2))], []⟩
def sp19_0 : Stops := [([0, 1, 0, 0, 1, 1, 1, 1, 1, 0, 1, 0, 1], [(1, .nrm), (2, .nrm), (60, .nrm), (61, .same), (62, .same)], []), ([1, 0, 1, 1, 1, 1, 1, 0, 1, 0, 1], [], [])]
def B19_0 (s_19 : TPredicate → (List TValue) → (List TValue) → Option Bool) (k_1 : Option Bool) (back : (List TValue) → (List TValue) → (List TPredicate) → Int → Int → Option Bool) (n : Nat) (row1 : (List TValue)) (params2 : (List TValue)) (t60 : (List TPredicate)) (t61 : Int) (t62 : Int) : Option Bool :=
  if decide (t62 < t61) then
    (idx t60 t62).bind fun x2_ =>
    (s_19 x2_ row1 params2).bind fun x9_ =>
    if !x9_ then
      some false
    else
      back row1 params2 t60 t61 (w64 (t62 + 1))
  else
    k_1

theorem b19_0 (s_19 : TPredicate → (List TValue) → (List TValue) → Option Bool) (hs_19 : ∀ (a0_ : TPredicate) (a1_ : (List TValue)) (a2_ : (List TValue)) (r : Bool), s_19 a0_ a1_ a2_ = some r → CallOK Try.prog ann 19 [.agg (enc28 a0_), .slice .sh (rows23 a1_), .slice .sh (rows23 a2_)] (res19 r) (outs19 r)) (k_1 : Option Bool) (hk_1 : ∀  (r : Bool), k_1 = some r → At e19 [1, 0, 1, 1, 1, 1, 1, 0, 1, 0, 1] (st19_1) (res19 r) (outs19 r)) (back : (List TValue) → (List TValue) → (List TPredicate) → Int → Int → Option Bool) (hback : ∀ (row1 : (List TValue)) (params2 : (List TValue)) (t60 : (List TPredicate)) (t61 : Int) (t62 : Int) (r : Bool), back row1 params2 t60 t61 t62 = some r → At e19 [0, 1, 0, 0, 1, 1, 1, 1, 1, 0, 1, 0, 1] (st19_0 row1 params2 t60 t61 t62) (res19 r) (outs19 r)) (n : Nat) (row1 : (List TValue)) (params2 : (List TValue)) (t60 : (List TPredicate)) (t61 : Int) (t62 : Int) (r : Bool) (h : B19_0 s_19 k_1 back n row1 params2 t60 t61 t62 = some r) : At e19 [0, 1, 0, 0, 1, 1, 1, 1, 1, 0, 1, 0, 1] (st19_0 row1 params2 t60 t61 t62) (res19 r) (outs19 r) := by
  unfold B19_0 at h
  refine ite_elim h (fun c0_ h1_ => ?_) (fun c0_ h1_ => ?_)
  ·
    refine bind_elim h1_ (fun x2_ hx2_ h2_ => ?_)
    refine bind_elim h2_ (fun x9_ hx9_ h3_ => ?_)
    refine ite_elim h3_ (fun c1_ h4_ => ?_) (fun c1_ h4_ => ?_)
    ·
      have e_ := Option.some.inj h4_
      subst e_
      exact run_ret (S := sp19_0) (G := []) (sc := [(0, .eq (.bool true)), (0, .core ⟨[(64, .imm (enc28 x2_))], []⟩), (6, .call 19 (res19 x9_) (outs19 x9_)), (0, .eq (.bool true))]) (obs := [AV.bool (!x9_) = .bool true, CallOK Try.prog ann 19 [.agg (enc28 x2_), .slice .sh (rows23 row1), .slice .sh (rows23 params2)] (res19 x9_) (outs19 x9_), indexAddrA Try.prog an19 (some 64) 27 (.slice .sh (rows28 t60)) (.int .i64 t62) = some ⟨[(64, .imm (enc28 x2_))], []⟩, AV.bool (decide (t62 < t61)) = .bool true]) (by kernel_rfl) ⟨congrArg AV.bool c1_, hs_19 _ _ _ _ hx9_, R27.idxOb (A := an19) hx2_, congrArg AV.bool c0_, trivial⟩
    ·
      exact run_at (S := sp19_0) (G := []) (sc := [(0, .eq (.bool true)), (0, .core ⟨[(64, .imm (enc28 x2_))], []⟩), (6, .call 19 (res19 x9_) (outs19 x9_)), (0, .eq (.bool false))]) (obs := [AV.bool (!x9_) = .bool false, CallOK Try.prog ann 19 [.agg (enc28 x2_), .slice .sh (rows23 row1), .slice .sh (rows23 params2)] (res19 x9_) (outs19 x9_), indexAddrA Try.prog an19 (some 64) 27 (.slice .sh (rows28 t60)) (.int .i64 t62) = some ⟨[(64, .imm (enc28 x2_))], []⟩, AV.bool (decide (t62 < t61)) = .bool true]) (by kernel_rfl) ⟨congrArg AV.bool c1_, hs_19 _ _ _ _ hx9_, R27.idxOb (A := an19) hx2_, congrArg AV.bool c0_, trivial⟩ (hback _ _ _ _ _ _ h4_)
  ·
    exact run_at (S := sp19_0) (G := []) (sc := [(0, .eq (.bool false))]) (obs := [AV.bool (decide (t62 < t61)) = .bool false]) (by kernel_rfl) ⟨congrArg AV.bool c0_, trivial⟩ (hk_1 _ h1_)

def L19_0 (s_19 : TPredicate → (List TValue) → (List TValue) → Option Bool) (k_1 : Option Bool) : Nat → (List TValue) → (List TValue) → (List TPredicate) → Int → Int → Option Bool
  | 0, _, _, _, _, _ => none
  | n + 1, row1, params2, t60, t61, t62 => B19_0 s_19 k_1 (L19_0 s_19 k_1 n) n row1 params2 t60 t61 t62
theorem l19_0 (s_19 : TPredicate → (List TValue) → (List TValue) → Option Bool) (hs_19 : ∀ (a0_ : TPredicate) (a1_ : (List TValue)) (a2_ : (List TValue)) (r : Bool), s_19 a0_ a1_ a2_ = some r → CallOK Try.prog ann 19 [.agg (enc28 a0_), .slice .sh (rows23 a1_), .slice .sh (rows23 a2_)] (res19 r) (outs19 r)) (k_1 : Option Bool) (hk_1 : ∀  (r : Bool), k_1 = some r → At e19 [1, 0, 1, 1, 1, 1, 1, 0, 1, 0, 1] (st19_1) (res19 r) (outs19 r)) : ∀ (n : Nat) (row1 : (List TValue)) (params2 : (List TValue)) (t60 : (List TPredicate)) (t61 : Int) (t62 : Int) (r : Bool), L19_0 s_19 k_1 n row1 params2 t60 t61 t62 = some r → At e19 [0, 1, 0, 0, 1, 1, 1, 1, 1, 0, 1, 0, 1] (st19_0 row1 params2 t60 t61 t62) (res19 r) (outs19 r)
  | 0, _, _, _, _, _, _, h => by simp [L19_0] at h
  | n + 1, row1, params2, t60, t61, t62, r, h => b19_0 s_19 hs_19 k_1 hk_1 (L19_0 s_19 k_1 n) (l19_0 s_19 hs_19 k_1 hk_1 n) n row1 params2 t60 t61 t62 r h
def sp19_1 : Stops := []
def B19_1 (s_19 : TPredicate → (List TValue) → (List TValue) → Option Bool) (n : Nat)  : Option Bool :=
  some true

theorem b19_1 (s_19 : TPredicate → (List TValue) → (List TValue) → Option Bool) (hs_19 : ∀ (a0_ : TPredicate) (a1_ : (List TValue)) (a2_ : (List TValue)) (r : Bool), s_19 a0_ a1_ a2_ = some r → CallOK Try.prog ann 19 [.agg (enc28 a0_), .slice .sh (rows23 a1_), .slice .sh (rows23 a2_)] (res19 r) (outs19 r)) (n : Nat)  (r : Bool) (h : B19_1 s_19 n = some r) : At e19 [1, 0, 1, 1, 1, 1, 1, 0, 1, 0, 1] (st19_1) (res19 r) (outs19 r) := by
  unfold B19_1 at h
  have e_ := Option.some.inj h
  subst e_
  exact run_ret (S := sp19_1) (G := []) (sc := []) (obs := []) (by kernel_rfl) trivial

def sp19_2 : Stops := [([0, 1, 0, 1, 1, 1, 1, 1, 1, 1, 0, 1, 0, 1], [(1, .nrm), (2, .nrm), (75, .nrm), (76, .same), (77, .same)], []), ([1, 1], [], [])]
def B19_2 (s_19 : TPredicate → (List TValue) → (List TValue) → Option Bool) (k_3 : Option Bool) (back : (List TValue) → (List TValue) → (List TPredicate) → Int → Int → Option Bool) (n : Nat) (row1 : (List TValue)) (params2 : (List TValue)) (t75 : (List TPredicate)) (t76 : Int) (t77 : Int) : Option Bool :=
  if decide (t77 < t76) then
    (idx t75 t77).bind fun x2_ =>
    (s_19 x2_ row1 params2).bind fun x9_ =>
    if x9_ then
      some true
    else
      back row1 params2 t75 t76 (w64 (t77 + 1))
  else
    k_3

theorem b19_2 (s_19 : TPredicate → (List TValue) → (List TValue) → Option Bool) (hs_19 : ∀ (a0_ : TPredicate) (a1_ : (List TValue)) (a2_ : (List TValue)) (r : Bool), s_19 a0_ a1_ a2_ = some r → CallOK Try.prog ann 19 [.agg (enc28 a0_), .slice .sh (rows23 a1_), .slice .sh (rows23 a2_)] (res19 r) (outs19 r)) (k_3 : Option Bool) (hk_3 : ∀  (r : Bool), k_3 = some r → At e19 [1, 1] (st19_3) (res19 r) (outs19 r)) (back : (List TValue) → (List TValue) → (List TPredicate) → Int → Int → Option Bool) (hback : ∀ (row1 : (List TValue)) (params2 : (List TValue)) (t75 : (List TPredicate)) (t76 : Int) (t77 : Int) (r : Bool), back row1 params2 t75 t76 t77 = some r → At e19 [0, 1, 0, 1, 1, 1, 1, 1, 1, 1, 0, 1, 0, 1] (st19_2 row1 params2 t75 t76 t77) (res19 r) (outs19 r)) (n : Nat) (row1 : (List TValue)) (params2 : (List TValue)) (t75 : (List TPredicate)) (t76 : Int) (t77 : Int) (r : Bool) (h : B19_2 s_19 k_3 back n row1 params2 t75 t76 t77 = some r) : At e19 [0, 1, 0, 1, 1, 1, 1, 1, 1, 1, 0, 1, 0, 1] (st19_2 row1 params2 t75 t76 t77) (res19 r) (outs19 r) := by
  unfold B19_2 at h
  refine ite_elim h (fun c0_ h5_ => ?_) (fun c0_ h5_ => ?_)
  ·
    refine bind_elim h5_ (fun x2_ hx2_ h6_ => ?_)
    refine bind_elim h6_ (fun x9_ hx9_ h7_ => ?_)
    refine ite_elim h7_ (fun c1_ h8_ => ?_) (fun c1_ h8_ => ?_)
    ·
      subst c1_
      have e_ := Option.some.inj h8_
      subst e_
      exact run_ret (S := sp19_2) (G := []) (sc := [(0, .eq (.bool true)), (0, .core ⟨[(79, .imm (enc28 x2_))], []⟩), (6, .call 19 (res19 true) (outs19 true))]) (obs := [CallOK Try.prog ann 19 [.agg (enc28 x2_), .slice .sh (rows23 row1), .slice .sh (rows23 params2)] (res19 true) (outs19 true), indexAddrA Try.prog an19 (some 79) 27 (.slice .sh (rows28 t75)) (.int .i64 t77) = some ⟨[(79, .imm (enc28 x2_))], []⟩, AV.bool (decide (t77 < t76)) = .bool true]) (by kernel_rfl) ⟨hs_19 _ _ _ _ hx9_, R27.idxOb (A := an19) hx2_, congrArg AV.bool c0_, trivial⟩
    ·
      subst c1_
      exact run_at (S := sp19_2) (G := []) (sc := [(0, .eq (.bool true)), (0, .core ⟨[(79, .imm (enc28 x2_))], []⟩), (6, .call 19 (res19 false) (outs19 false))]) (obs := [CallOK Try.prog ann 19 [.agg (enc28 x2_), .slice .sh (rows23 row1), .slice .sh (rows23 params2)] (res19 false) (outs19 false), indexAddrA Try.prog an19 (some 79) 27 (.slice .sh (rows28 t75)) (.int .i64 t77) = some ⟨[(79, .imm (enc28 x2_))], []⟩, AV.bool (decide (t77 < t76)) = .bool true]) (by kernel_rfl) ⟨hs_19 _ _ _ _ hx9_, R27.idxOb (A := an19) hx2_, congrArg AV.bool c0_, trivial⟩ (hback _ _ _ _ _ _ h8_)
  ·
    exact run_at (S := sp19_2) (G := []) (sc := [(0, .eq (.bool false))]) (obs := [AV.bool (decide (t77 < t76)) = .bool false]) (by kernel_rfl) ⟨congrArg AV.bool c0_, trivial⟩ (hk_3 _ h5_)

def L19_2 (s_19 : TPredicate → (List TValue) → (List TValue) → Option Bool) (k_3 : Option Bool) : Nat → (List TValue) → (List TValue) → (List TPredicate) → Int → Int → Option Bool
  | 0, _, _, _, _, _ => none
  | n + 1, row1, params2, t75, t76, t77 => B19_2 s_19 k_3 (L19_2 s_19 k_3 n) n row1 params2 t75 t76 t77
theorem l19_2 (s_19 : TPredicate → (List TValue) → (List TValue) → Option Bool) (hs_19 : ∀ (a0_ : TPredicate) (a1_ : (List TValue)) (a2_ : (List TValue)) (r : Bool), s_19 a0_ a1_ a2_ = some r → CallOK Try.prog ann 19 [.agg (enc28 a0_), .slice .sh (rows23 a1_), .slice .sh (rows23 a2_)] (res19 r) (outs19 r)) (k_3 : Option Bool) (hk_3 : ∀  (r : Bool), k_3 = some r → At e19 [1, 1] (st19_3) (res19 r) (outs19 r)) : ∀ (n : Nat) (row1 : (List TValue)) (params2 : (List TValue)) (t75 : (List TPredicate)) (t76 : Int) (t77 : Int) (r : Bool), L19_2 s_19 k_3 n row1 params2 t75 t76 t77 = some r → At e19 [0, 1, 0, 1, 1, 1, 1, 1, 1, 1, 0, 1, 0, 1] (st19_2 row1 params2 t75 t76 t77) (res19 r) (outs19 r)
  | 0, _, _, _, _, _, _, h => by simp [L19_2] at h
  | n + 1, row1, params2, t75, t76, t77, r, h => b19_2 s_19 hs_19 k_3 hk_3 (L19_2 s_19 k_3 n) (l19_2 s_19 hs_19 k_3 hk_3 n) n row1 params2 t75 t76 t77 r h
def sp19_3 : Stops := []
def B19_3 (s_19 : TPredicate → (List TValue) → (List TValue) → Option Bool) (n : Nat)  : Option Bool :=
  some false

theorem b19_3 (s_19 : TPredicate → (List TValue) → (List TValue) → Option Bool) (hs_19 : ∀ (a0_ : TPredicate) (a1_ : (List TValue)) (a2_ : (List TValue)) (r : Bool), s_19 a0_ a1_ a2_ = some r → CallOK Try.prog ann 19 [.agg (enc28 a0_), .slice .sh (rows23 a1_), .slice .sh (rows23 a2_)] (res19 r) (outs19 r)) (n : Nat)  (r : Bool) (h : B19_3 s_19 n = some r) : At e19 [1, 1] (st19_3) (res19 r) (outs19 r) := by
  unfold B19_3 at h
  have e_ := Option.some.inj h
  subst e_
  exact run_ret (S := sp19_3) (G := []) (sc := []) (obs := []) (by kernel_rfl) trivial

def sp19_4 : Stops := [([0, 1, 0, 0, 1, 1, 1, 1, 1, 0, 1, 0, 1], [(1, .nrm), (2, .nrm), (60, .nrm), (61, .same), (62, .same)], []), ([0, 1, 0, 1, 1, 1, 1, 1, 1, 1, 0, 1, 0, 1], [(1, .nrm), (2, .nrm), (75, .nrm), (76, .same), (77, .same)], []), ([1, 1], [], [])]
def B19_4 (s_19 : TPredicate → (List TValue) → (List TValue) → Option Bool) (n : Nat) (p0 : TPredicate) (row1 : (List TValue)) (params2 : (List TValue)) : Option Bool :=
  if p0.fOp == 1 then
    some true
  else
    if p0.fOp == 3 then
      (F42 n p0.fLeft row1 params2).bind fun x13_ =>
      (F42 n p0.fRight row1 params2).bind fun x18_ =>
      (F43 n x13_).bind fun x24_ =>
      if !x24_ then
        some false
      else
        (F43 n x18_).bind fun x28_ =>
        if !x28_ then
          some false
        else
          if x13_.fKind != x18_.fKind then
            some false
          else
            (F44 n p0.fCmp).bind fun x40_ =>
            if x40_ == 0 then
              some false
            else
              if x40_ == 64 then
                (F45 n x13_ x18_).bind fun x48_ =>
                (F64 n x48_).bind fun x49_ =>
                some x49_
              else
                if x40_ == 65 then
                  (F45 n x13_ x18_).bind fun x48_ =>
                  (F65 n x48_).bind fun x49_ =>
                  some x49_
                else
                  if x40_ == 66 then
                    (F45 n x13_ x18_).bind fun x48_ =>
                    (F66 n x48_).bind fun x49_ =>
                    some x49_
                  else
                    if x40_ == 67 then
                      (F45 n x13_ x18_).bind fun x48_ =>
                      (F67 n x48_).bind fun x49_ =>
                      some x49_
                    else
                      if x40_ == 68 then
                        (F45 n x13_ x18_).bind fun x48_ =>
                        (F68 n x48_).bind fun x49_ =>
                        some x49_
                      else
                        if x40_ == 69 then
                          (F45 n x13_ x18_).bind fun x48_ =>
                          (F69 n x48_).bind fun x49_ =>
                          some x49_
                        else
                          none
    else
      if p0.fOp == 4 then
        L19_0 s_19 (B19_1 s_19 n) n row1 params2 p0.fArgs (p0.fArgs.length : Int) 0
      else
        if p0.fOp == 5 then
          L19_2 s_19 (B19_3 s_19 n) n row1 params2 p0.fArgs (p0.fArgs.length : Int) 0
        else
          if p0.fOp == 6 then
            if decide ((p0.fArgs.length : Int) > 0) then
              (idx p0.fArgs 0).bind fun x22_ =>
              (s_19 x22_ row1 params2).bind fun x26_ =>
              some (!x26_)
            else
              some false
          else
            B19_3 s_19 n

theorem b19_4 (s_19 : TPredicate → (List TValue) → (List TValue) → Option Bool) (hs_19 : ∀ (a0_ : TPredicate) (a1_ : (List TValue)) (a2_ : (List TValue)) (r : Bool), s_19 a0_ a1_ a2_ = some r → CallOK Try.prog ann 19 [.agg (enc28 a0_), .slice .sh (rows23 a1_), .slice .sh (rows23 a2_)] (res19 r) (outs19 r)) (n : Nat) (p0 : TPredicate) (row1 : (List TValue)) (params2 : (List TValue)) (r : Bool) (h : B19_4 s_19 n p0 row1 params2 = some r) : At e19 [] (st19_4 p0 row1 params2) (res19 r) (outs19 r) := by
  unfold B19_4 at h
  refine ite_elim h (fun c0_ h9_ => ?_) (fun c0_ h9_ => ?_)
  ·
    have e_ := Option.some.inj h9_
    subst e_
    exact run_ret (S := sp19_4) (G := []) (sc := [(4, .eq (.bool true))]) (obs := [AV.bool (p0.fOp == 1) = .bool true]) (by kernel_rfl) ⟨congrArg AV.bool c0_, trivial⟩
  ·
    refine ite_elim h9_ (fun c1_ h10_ => ?_) (fun c1_ h10_ => ?_)
    ·
      refine bind_elim h10_ (fun x13_ hx13_ h11_ => ?_)
      refine bind_elim h11_ (fun x18_ hx18_ h12_ => ?_)
      refine bind_elim h12_ (fun x24_ hx24_ h13_ => ?_)
      refine ite_elim h13_ (fun c2_ h14_ => ?_) (fun c2_ h14_ => ?_)
      ·
        have e_ := Option.some.inj h14_
        subst e_
        exact run_ret (S := sp19_4) (G := []) (sc := [(4, .eq (.bool false)), (1, .eq (.bool true)), (5, .call 42 (res42 x13_) (outs42 x13_)), (4, .call 42 (res42 x18_) (outs42 x18_)), (5, .call 43 (res43 x24_) (outs43 x24_)), (0, .eq (.bool true))]) (obs := [AV.bool (!x24_) = .bool true, CallOK Try.prog ann 43 [.agg (enc23 x13_)] (res43 x24_) (outs43 x24_), CallOK Try.prog ann 42 [.agg (enc25 p0.fRight), .slice .sh (rows23 row1), .slice .sh (rows23 params2)] (res42 x18_) (outs42 x18_), CallOK Try.prog ann 42 [.agg (enc25 p0.fLeft), .slice .sh (rows23 row1), .slice .sh (rows23 params2)] (res42 x13_) (outs42 x13_), AV.bool (p0.fOp == 3) = .bool true, AV.bool (p0.fOp == 1) = .bool false]) (by kernel_rfl) ⟨congrArg AV.bool c2_, ev43 n _ _ hx24_, ev42 n _ _ _ _ hx18_, ev42 n _ _ _ _ hx13_, congrArg AV.bool c1_, congrArg AV.bool c0_, trivial⟩
      ·
        refine bind_elim h14_ (fun x28_ hx28_ h15_ => ?_)
        refine ite_elim h15_ (fun c3_ h16_ => ?_) (fun c3_ h16_ => ?_)
        ·
          have e_ := Option.some.inj h16_
          subst e_
          exact run_ret (S := sp19_4) (G := []) (sc := [(4, .eq (.bool false)), (1, .eq (.bool true)), (5, .call 42 (res42 x13_) (outs42 x13_)), (4, .call 42 (res42 x18_) (outs42 x18_)), (5, .call 43 (res43 x24_) (outs43 x24_)), (0, .eq (.bool false)), (2, .call 43 (res43 x28_) (outs43 x28_)), (0, .eq (.bool true))]) (obs := [AV.bool (!x28_) = .bool true, CallOK Try.prog ann 43 [.agg (enc23 x18_)] (res43 x28_) (outs43 x28_), AV.bool (!x24_) = .bool false, CallOK Try.prog ann 43 [.agg (enc23 x13_)] (res43 x24_) (outs43 x24_), CallOK Try.prog ann 42 [.agg (enc25 p0.fRight), .slice .sh (rows23 row1), .slice .sh (rows23 params2)] (res42 x18_) (outs42 x18_), CallOK Try.prog ann 42 [.agg (enc25 p0.fLeft), .slice .sh (rows23 row1), .slice .sh (rows23 params2)] (res42 x13_) (outs42 x13_), AV.bool (p0.fOp == 3) = .bool true, AV.bool (p0.fOp == 1) = .bool false]) (by kernel_rfl) ⟨congrArg AV.bool c3_, ev43 n _ _ hx28_, congrArg AV.bool c2_, ev43 n _ _ hx24_, ev42 n _ _ _ _ hx18_, ev42 n _ _ _ _ hx13_, congrArg AV.bool c1_, congrArg AV.bool c0_, trivial⟩
        ·
          refine ite_elim h16_ (fun c4_ h17_ => ?_) (fun c4_ h17_ => ?_)
          ·
            have e_ := Option.some.inj h17_
            subst e_
            exact run_ret (S := sp19_4) (G := []) (sc := [(4, .eq (.bool false)), (1, .eq (.bool true)), (5, .call 42 (res42 x13_) (outs42 x13_)), (4, .call 42 (res42 x18_) (outs42 x18_)), (5, .call 43 (res43 x24_) (outs43 x24_)), (0, .eq (.bool false)), (2, .call 43 (res43 x28_) (outs43 x28_)), (0, .eq (.bool false)), (6, .eq (.bool true))]) (obs := [AV.bool (x13_.fKind != x18_.fKind) = .bool true, AV.bool (!x28_) = .bool false, CallOK Try.prog ann 43 [.agg (enc23 x18_)] (res43 x28_) (outs43 x28_), AV.bool (!x24_) = .bool false, CallOK Try.prog ann 43 [.agg (enc23 x13_)] (res43 x24_) (outs43 x24_), CallOK Try.prog ann 42 [.agg (enc25 p0.fRight), .slice .sh (rows23 row1), .slice .sh (rows23 params2)] (res42 x18_) (outs42 x18_), CallOK Try.prog ann 42 [.agg (enc25 p0.fLeft), .slice .sh (rows23 row1), .slice .sh (rows23 params2)] (res42 x13_) (outs42 x13_), AV.bool (p0.fOp == 3) = .bool true, AV.bool (p0.fOp == 1) = .bool false]) (by kernel_rfl) ⟨congrArg AV.bool c4_, congrArg AV.bool c3_, ev43 n _ _ hx28_, congrArg AV.bool c2_, ev43 n _ _ hx24_, ev42 n _ _ _ _ hx18_, ev42 n _ _ _ _ hx13_, congrArg AV.bool c1_, congrArg AV.bool c0_, trivial⟩
          ·
            refine bind_elim h17_ (fun x40_ hx40_ h18_ => ?_)
            refine ite_elim h18_ (fun c5_ h19_ => ?_) (fun c5_ h19_ => ?_)
            ·
              have c5_ := eq_of_beq c5_
              subst c5_
              have e_ := Option.some.inj h19_
              subst e_
              exact run_ret (S := sp19_4) (G := []) (sc := [(4, .eq (.bool false)), (1, .eq (.bool true)), (5, .call 42 (res42 x13_) (outs42 x13_)), (4, .call 42 (res42 x18_) (outs42 x18_)), (5, .call 43 (res43 x24_) (outs43 x24_)), (0, .eq (.bool false)), (2, .call 43 (res43 x28_) (outs43 x28_)), (0, .eq (.bool false)), (6, .eq (.bool false)), (3, .call 44 (res44 0) (outs44 0))]) (obs := [CallOK Try.prog ann 44 [.int .i64 p0.fCmp] (res44 0) (outs44 0), AV.bool (x13_.fKind != x18_.fKind) = .bool false, AV.bool (!x28_) = .bool false, CallOK Try.prog ann 43 [.agg (enc23 x18_)] (res43 x28_) (outs43 x28_), AV.bool (!x24_) = .bool false, CallOK Try.prog ann 43 [.agg (enc23 x13_)] (res43 x24_) (outs43 x24_), CallOK Try.prog ann 42 [.agg (enc25 p0.fRight), .slice .sh (rows23 row1), .slice .sh (rows23 params2)] (res42 x18_) (outs42 x18_), CallOK Try.prog ann 42 [.agg (enc25 p0.fLeft), .slice .sh (rows23 row1), .slice .sh (rows23 params2)] (res42 x13_) (outs42 x13_), AV.bool (p0.fOp == 3) = .bool true, AV.bool (p0.fOp == 1) = .bool false]) (by kernel_rfl) ⟨ev44 n _ _ hx40_, congrArg AV.bool c4_, congrArg AV.bool c3_, ev43 n _ _ hx28_, congrArg AV.bool c2_, ev43 n _ _ hx24_, ev42 n _ _ _ _ hx18_, ev42 n _ _ _ _ hx13_, congrArg AV.bool c1_, congrArg AV.bool c0_, trivial⟩
            ·
              refine ite_elim h19_ (fun c6_ h20_ => ?_) (fun c6_ h20_ => ?_)
              ·
                have c6_ := eq_of_beq c6_
                subst c6_
                refine bind_elim h20_ (fun x48_ hx48_ h21_ => ?_)
                refine bind_elim h21_ (fun x49_ hx49_ h22_ => ?_)
                have e_ := Option.some.inj h22_
                subst e_
                exact run_ret (S := sp19_4) (G := []) (sc := [(4, .eq (.bool false)), (1, .eq (.bool true)), (5, .call 42 (res42 x13_) (outs42 x13_)), (4, .call 42 (res42 x18_) (outs42 x18_)), (5, .call 43 (res43 x24_) (outs43 x24_)), (0, .eq (.bool false)), (2, .call 43 (res43 x28_) (outs43 x28_)), (0, .eq (.bool false)), (6, .eq (.bool false)), (3, .call 44 (res44 64) (outs44 64)), (7, .call 45 (res45 x48_) (outs45 x48_)), (0, .call 64 (res64 x49_) (outs64 x49_))]) (obs := [CallOK Try.prog ann 64 [.int .i64 x48_] (res64 x49_) (outs64 x49_), CallOK Try.prog ann 45 [.agg (enc23 x13_), .agg (enc23 x18_)] (res45 x48_) (outs45 x48_), CallOK Try.prog ann 44 [.int .i64 p0.fCmp] (res44 64) (outs44 64), AV.bool (x13_.fKind != x18_.fKind) = .bool false, AV.bool (!x28_) = .bool false, CallOK Try.prog ann 43 [.agg (enc23 x18_)] (res43 x28_) (outs43 x28_), AV.bool (!x24_) = .bool false, CallOK Try.prog ann 43 [.agg (enc23 x13_)] (res43 x24_) (outs43 x24_), CallOK Try.prog ann 42 [.agg (enc25 p0.fRight), .slice .sh (rows23 row1), .slice .sh (rows23 params2)] (res42 x18_) (outs42 x18_), CallOK Try.prog ann 42 [.agg (enc25 p0.fLeft), .slice .sh (rows23 row1), .slice .sh (rows23 params2)] (res42 x13_) (outs42 x13_), AV.bool (p0.fOp == 3) = .bool true, AV.bool (p0.fOp == 1) = .bool false]) (by kernel_rfl) ⟨ev64 n _ _ hx49_, ev45 n _ _ _ hx48_, ev44 n _ _ hx40_, congrArg AV.bool c4_, congrArg AV.bool c3_, ev43 n _ _ hx28_, congrArg AV.bool c2_, ev43 n _ _ hx24_, ev42 n _ _ _ _ hx18_, ev42 n _ _ _ _ hx13_, congrArg AV.bool c1_, congrArg AV.bool c0_, trivial⟩
              ·
                refine ite_elim h20_ (fun c7_ h23_ => ?_) (fun c7_ h23_ => ?_)
                ·
                  have c7_ := eq_of_beq c7_
                  subst c7_
                  refine bind_elim h23_ (fun x48_ hx48_ h24_ => ?_)
                  refine bind_elim h24_ (fun x49_ hx49_ h25_ => ?_)
                  have e_ := Option.some.inj h25_
                  subst e_
                  exact run_ret (S := sp19_4) (G := []) (sc := [(4, .eq (.bool false)), (1, .eq (.bool true)), (5, .call 42 (res42 x13_) (outs42 x13_)), (4, .call 42 (res42 x18_) (outs42 x18_)), (5, .call 43 (res43 x24_) (outs43 x24_)), (0, .eq (.bool false)), (2, .call 43 (res43 x28_) (outs43 x28_)), (0, .eq (.bool false)), (6, .eq (.bool false)), (3, .call 44 (res44 65) (outs44 65)), (7, .call 45 (res45 x48_) (outs45 x48_)), (0, .call 65 (res65 x49_) (outs65 x49_))]) (obs := [CallOK Try.prog ann 65 [.int .i64 x48_] (res65 x49_) (outs65 x49_), CallOK Try.prog ann 45 [.agg (enc23 x13_), .agg (enc23 x18_)] (res45 x48_) (outs45 x48_), CallOK Try.prog ann 44 [.int .i64 p0.fCmp] (res44 65) (outs44 65), AV.bool (x13_.fKind != x18_.fKind) = .bool false, AV.bool (!x28_) = .bool false, CallOK Try.prog ann 43 [.agg (enc23 x18_)] (res43 x28_) (outs43 x28_), AV.bool (!x24_) = .bool false, CallOK Try.prog ann 43 [.agg (enc23 x13_)] (res43 x24_) (outs43 x24_), CallOK Try.prog ann 42 [.agg (enc25 p0.fRight), .slice .sh (rows23 row1), .slice .sh (rows23 params2)] (res42 x18_) (outs42 x18_), CallOK Try.prog ann 42 [.agg (enc25 p0.fLeft), .slice .sh (rows23 row1), .slice .sh (rows23 params2)] (res42 x13_) (outs42 x13_), AV.bool (p0.fOp == 3) = .bool true, AV.bool (p0.fOp == 1) = .bool false]) (by kernel_rfl) ⟨ev65 n _ _ hx49_, ev45 n _ _ _ hx48_, ev44 n _ _ hx40_, congrArg AV.bool c4_, congrArg AV.bool c3_, ev43 n _ _ hx28_, congrArg AV.bool c2_, ev43 n _ _ hx24_, ev42 n _ _ _ _ hx18_, ev42 n _ _ _ _ hx13_, congrArg AV.bool c1_, congrArg AV.bool c0_, trivial⟩
                ·
                  refine ite_elim h23_ (fun c8_ h26_ => ?_) (fun c8_ h26_ => ?_)
                  ·
                    have c8_ := eq_of_beq c8_
                    subst c8_
                    refine bind_elim h26_ (fun x48_ hx48_ h27_ => ?_)
                    refine bind_elim h27_ (fun x49_ hx49_ h28_ => ?_)
                    have e_ := Option.some.inj h28_
                    subst e_
                    exact run_ret (S := sp19_4) (G := []) (sc := [(4, .eq (.bool false)), (1, .eq (.bool true)), (5, .call 42 (res42 x13_) (outs42 x13_)), (4, .call 42 (res42 x18_) (outs42 x18_)), (5, .call 43 (res43 x24_) (outs43 x24_)), (0, .eq (.bool false)), (2, .call 43 (res43 x28_) (outs43 x28_)), (0, .eq (.bool false)), (6, .eq (.bool false)), (3, .call 44 (res44 66) (outs44 66)), (7, .call 45 (res45 x48_) (outs45 x48_)), (0, .call 66 (res66 x49_) (outs66 x49_))]) (obs := [CallOK Try.prog ann 66 [.int .i64 x48_] (res66 x49_) (outs66 x49_), CallOK Try.prog ann 45 [.agg (enc23 x13_), .agg (enc23 x18_)] (res45 x48_) (outs45 x48_), CallOK Try.prog ann 44 [.int .i64 p0.fCmp] (res44 66) (outs44 66), AV.bool (x13_.fKind != x18_.fKind) = .bool false, AV.bool (!x28_) = .bool false, CallOK Try.prog ann 43 [.agg (enc23 x18_)] (res43 x28_) (outs43 x28_), AV.bool (!x24_) = .bool false, CallOK Try.prog ann 43 [.agg (enc23 x13_)] (res43 x24_) (outs43 x24_), CallOK Try.prog ann 42 [.agg (enc25 p0.fRight), .slice .sh (rows23 row1), .slice .sh (rows23 params2)] (res42 x18_) (outs42 x18_), CallOK Try.prog ann 42 [.agg (enc25 p0.fLeft), .slice .sh (rows23 row1), .slice .sh (rows23 params2)] (res42 x13_) (outs42 x13_), AV.bool (p0.fOp == 3) = .bool true, AV.bool (p0.fOp == 1) = .bool false]) (by kernel_rfl) ⟨ev66 n _ _ hx49_, ev45 n _ _ _ hx48_, ev44 n _ _ hx40_, congrArg AV.bool c4_, congrArg AV.bool c3_, ev43 n _ _ hx28_, congrArg AV.bool c2_, ev43 n _ _ hx24_, ev42 n _ _ _ _ hx18_, ev42 n _ _ _ _ hx13_, congrArg AV.bool c1_, congrArg AV.bool c0_, trivial⟩
                  ·
                    refine ite_elim h26_ (fun c9_ h29_ => ?_) (fun c9_ h29_ => ?_)
                    ·
                      have c9_ := eq_of_beq c9_
                      subst c9_
                      refine bind_elim h29_ (fun x48_ hx48_ h30_ => ?_)
                      refine bind_elim h30_ (fun x49_ hx49_ h31_ => ?_)
                      have e_ := Option.some.inj h31_
                      subst e_
                      exact run_ret (S := sp19_4) (G := []) (sc := [(4, .eq (.bool false)), (1, .eq (.bool true)), (5, .call 42 (res42 x13_) (outs42 x13_)), (4, .call 42 (res42 x18_) (outs42 x18_)), (5, .call 43 (res43 x24_) (outs43 x24_)), (0, .eq (.bool false)), (2, .call 43 (res43 x28_) (outs43 x28_)), (0, .eq (.bool false)), (6, .eq (.bool false)), (3, .call 44 (res44 67) (outs44 67)), (7, .call 45 (res45 x48_) (outs45 x48_)), (0, .call 67 (res67 x49_) (outs67 x49_))]) (obs := [CallOK Try.prog ann 67 [.int .i64 x48_] (res67 x49_) (outs67 x49_), CallOK Try.prog ann 45 [.agg (enc23 x13_), .agg (enc23 x18_)] (res45 x48_) (outs45 x48_), CallOK Try.prog ann 44 [.int .i64 p0.fCmp] (res44 67) (outs44 67), AV.bool (x13_.fKind != x18_.fKind) = .bool false, AV.bool (!x28_) = .bool false, CallOK Try.prog ann 43 [.agg (enc23 x18_)] (res43 x28_) (outs43 x28_), AV.bool (!x24_) = .bool false, CallOK Try.prog ann 43 [.agg (enc23 x13_)] (res43 x24_) (outs43 x24_), CallOK Try.prog ann 42 [.agg (enc25 p0.fRight), .slice .sh (rows23 row1), .slice .sh (rows23 params2)] (res42 x18_) (outs42 x18_), CallOK Try.prog ann 42 [.agg (enc25 p0.fLeft), .slice .sh (rows23 row1), .slice .sh (rows23 params2)] (res42 x13_) (outs42 x13_), AV.bool (p0.fOp == 3) = .bool true, AV.bool (p0.fOp == 1) = .bool false]) (by kernel_rfl) ⟨ev67 n _ _ hx49_, ev45 n _ _ _ hx48_, ev44 n _ _ hx40_, congrArg AV.bool c4_, congrArg AV.bool c3_, ev43 n _ _ hx28_, congrArg AV.bool c2_, ev43 n _ _ hx24_, ev42 n _ _ _ _ hx18_, ev42 n _ _ _ _ hx13_, congrArg AV.bool c1_, congrArg AV.bool c0_, trivial⟩
                    ·
                      refine ite_elim h29_ (fun c10_ h32_ => ?_) (fun c10_ h32_ => ?_)
                      ·
                        have c10_ := eq_of_beq c10_
                        subst c10_
                        refine bind_elim h32_ (fun x48_ hx48_ h33_ => ?_)
                        refine bind_elim h33_ (fun x49_ hx49_ h34_ => ?_)
                        have e_ := Option.some.inj h34_
                        subst e_
                        exact run_ret (S := sp19_4) (G := []) (sc := [(4, .eq (.bool false)), (1, .eq (.bool true)), (5, .call 42 (res42 x13_) (outs42 x13_)), (4, .call 42 (res42 x18_) (outs42 x18_)), (5, .call 43 (res43 x24_) (outs43 x24_)), (0, .eq (.bool false)), (2, .call 43 (res43 x28_) (outs43 x28_)), (0, .eq (.bool false)), (6, .eq (.bool false)), (3, .call 44 (res44 68) (outs44 68)), (7, .call 45 (res45 x48_) (outs45 x48_)), (0, .call 68 (res68 x49_) (outs68 x49_))]) (obs := [CallOK Try.prog ann 68 [.int .i64 x48_] (res68 x49_) (outs68 x49_), CallOK Try.prog ann 45 [.agg (enc23 x13_), .agg (enc23 x18_)] (res45 x48_) (outs45 x48_), CallOK Try.prog ann 44 [.int .i64 p0.fCmp] (res44 68) (outs44 68), AV.bool (x13_.fKind != x18_.fKind) = .bool false, AV.bool (!x28_) = .bool false, CallOK Try.prog ann 43 [.agg (enc23 x18_)] (res43 x28_) (outs43 x28_), AV.bool (!x24_) = .bool false, CallOK Try.prog ann 43 [.agg (enc23 x13_)] (res43 x24_) (outs43 x24_), CallOK Try.prog ann 42 [.agg (enc25 p0.fRight), .slice .sh (rows23 row1), .slice .sh (rows23 params2)] (res42 x18_) (outs42 x18_), CallOK Try.prog ann 42 [.agg (enc25 p0.fLeft), .slice .sh (rows23 row1), .slice .sh (rows23 params2)] (res42 x13_) (outs42 x13_), AV.bool (p0.fOp == 3) = .bool true, AV.bool (p0.fOp == 1) = .bool false]) (by kernel_rfl) ⟨ev68 n _ _ hx49_, ev45 n _ _ _ hx48_, ev44 n _ _ hx40_, congrArg AV.bool c4_, congrArg AV.bool c3_, ev43 n _ _ hx28_, congrArg AV.bool c2_, ev43 n _ _ hx24_, ev42 n _ _ _ _ hx18_, ev42 n _ _ _ _ hx13_, congrArg AV.bool c1_, congrArg AV.bool c0_, trivial⟩
                      ·
                        refine ite_elim h32_ (fun c11_ h35_ => ?_) (fun c11_ h35_ => ?_)
                        ·
                          have c11_ := eq_of_beq c11_
                          subst c11_
                          refine bind_elim h35_ (fun x48_ hx48_ h36_ => ?_)
                          refine bind_elim h36_ (fun x49_ hx49_ h37_ => ?_)
                          have e_ := Option.some.inj h37_
                          subst e_
                          exact run_ret (S := sp19_4) (G := []) (sc := [(4, .eq (.bool false)), (1, .eq (.bool true)), (5, .call 42 (res42 x13_) (outs42 x13_)), (4, .call 42 (res42 x18_) (outs42 x18_)), (5, .call 43 (res43 x24_) (outs43 x24_)), (0, .eq (.bool false)), (2, .call 43 (res43 x28_) (outs43 x28_)), (0, .eq (.bool false)), (6, .eq (.bool false)), (3, .call 44 (res44 69) (outs44 69)), (7, .call 45 (res45 x48_) (outs45 x48_)), (0, .call 69 (res69 x49_) (outs69 x49_))]) (obs := [CallOK Try.prog ann 69 [.int .i64 x48_] (res69 x49_) (outs69 x49_), CallOK Try.prog ann 45 [.agg (enc23 x13_), .agg (enc23 x18_)] (res45 x48_) (outs45 x48_), CallOK Try.prog ann 44 [.int .i64 p0.fCmp] (res44 69) (outs44 69), AV.bool (x13_.fKind != x18_.fKind) = .bool false, AV.bool (!x28_) = .bool false, CallOK Try.prog ann 43 [.agg (enc23 x18_)] (res43 x28_) (outs43 x28_), AV.bool (!x24_) = .bool false, CallOK Try.prog ann 43 [.agg (enc23 x13_)] (res43 x24_) (outs43 x24_), CallOK Try.prog ann 42 [.agg (enc25 p0.fRight), .slice .sh (rows23 row1), .slice .sh (rows23 params2)] (res42 x18_) (outs42 x18_), CallOK Try.prog ann 42 [.agg (enc25 p0.fLeft), .slice .sh (rows23 row1), .slice .sh (rows23 params2)] (res42 x13_) (outs42 x13_), AV.bool (p0.fOp == 3) = .bool true, AV.bool (p0.fOp == 1) = .bool false]) (by kernel_rfl) ⟨ev69 n _ _ hx49_, ev45 n _ _ _ hx48_, ev44 n _ _ hx40_, congrArg AV.bool c4_, congrArg AV.bool c3_, ev43 n _ _ hx28_, congrArg AV.bool c2_, ev43 n _ _ hx24_, ev42 n _ _ _ _ hx18_, ev42 n _ _ _ _ hx13_, congrArg AV.bool c1_, congrArg AV.bool c0_, trivial⟩
                        ·
                          cases h35_
    ·
      refine ite_elim h10_ (fun c2_ h38_ => ?_) (fun c2_ h38_ => ?_)
      ·
        exact run_at (S := sp19_4) (G := []) (sc := [(4, .eq (.bool false)), (1, .eq (.bool false)), (1, .eq (.bool true)), (3, .eq (.int .i64 (p0.fArgs.length : Int)))]) (obs := [AV.int .i64 ((rows28 p0.fArgs).length : Int) = .int .i64 (p0.fArgs.length : Int), AV.bool (p0.fOp == 4) = .bool true, AV.bool (p0.fOp == 3) = .bool false, AV.bool (p0.fOp == 1) = .bool false]) (by kernel_rfl) ⟨R27.lenOb p0.fArgs, congrArg AV.bool c2_, congrArg AV.bool c1_, congrArg AV.bool c0_, trivial⟩ (l19_0 s_19 hs_19 (B19_1 s_19 n) (b19_1 s_19 hs_19 n) n _ _ _ _ _ _ h38_)
      ·
        refine ite_elim h38_ (fun c3_ h39_ => ?_) (fun c3_ h39_ => ?_)
        ·
          exact run_at (S := sp19_4) (G := []) (sc := [(4, .eq (.bool false)), (1, .eq (.bool false)), (1, .eq (.bool false)), (1, .eq (.bool true)), (3, .eq (.int .i64 (p0.fArgs.length : Int)))]) (obs := [AV.int .i64 ((rows28 p0.fArgs).length : Int) = .int .i64 (p0.fArgs.length : Int), AV.bool (p0.fOp == 5) = .bool true, AV.bool (p0.fOp == 4) = .bool false, AV.bool (p0.fOp == 3) = .bool false, AV.bool (p0.fOp == 1) = .bool false]) (by kernel_rfl) ⟨R27.lenOb p0.fArgs, congrArg AV.bool c3_, congrArg AV.bool c2_, congrArg AV.bool c1_, congrArg AV.bool c0_, trivial⟩ (l19_2 s_19 hs_19 (B19_3 s_19 n) (b19_3 s_19 hs_19 n) n _ _ _ _ _ _ h39_)
        ·
          refine ite_elim h39_ (fun c4_ h40_ => ?_) (fun c4_ h40_ => ?_)
          ·
            refine ite_elim h40_ (fun c5_ h41_ => ?_) (fun c5_ h41_ => ?_)
            ·
              refine bind_elim h41_ (fun x22_ hx22_ h42_ => ?_)
              refine bind_elim h42_ (fun x26_ hx26_ h43_ => ?_)
              have e_ := Option.some.inj h43_
              subst e_
              exact run_ret (S := sp19_4) (G := []) (sc := [(4, .eq (.bool false)), (1, .eq (.bool false)), (1, .eq (.bool false)), (1, .eq (.bool false)), (1, .eq (.bool true)), (3, .eq (.int .i64 (p0.fArgs.length : Int))), (0, .eq (.bool true)), (3, .core ⟨[(95, .imm (enc28 x22_))], []⟩), (3, .call 19 (res19 x26_) (outs19 x26_))]) (obs := [CallOK Try.prog ann 19 [.agg (enc28 x22_), .slice .sh (rows23 row1), .slice .sh (rows23 params2)] (res19 x26_) (outs19 x26_), indexAddrA Try.prog an19 (some 95) 27 (.slice .sh (rows28 p0.fArgs)) (.int .i64 0) = some ⟨[(95, .imm (enc28 x22_))], []⟩, AV.bool (decide ((p0.fArgs.length : Int) > 0)) = .bool true, AV.int .i64 ((rows28 p0.fArgs).length : Int) = .int .i64 (p0.fArgs.length : Int), AV.bool (p0.fOp == 6) = .bool true, AV.bool (p0.fOp == 5) = .bool false, AV.bool (p0.fOp == 4) = .bool false, AV.bool (p0.fOp == 3) = .bool false, AV.bool (p0.fOp == 1) = .bool false]) (by kernel_rfl) ⟨hs_19 _ _ _ _ hx26_, R27.idxOb (A := an19) hx22_, congrArg AV.bool c5_, R27.lenOb p0.fArgs, congrArg AV.bool c4_, congrArg AV.bool c3_, congrArg AV.bool c2_, congrArg AV.bool c1_, congrArg AV.bool c0_, trivial⟩
            ·
              have e_ := Option.some.inj h41_
              subst e_
              exact run_ret (S := sp19_4) (G := []) (sc := [(4, .eq (.bool false)), (1, .eq (.bool false)), (1, .eq (.bool false)), (1, .eq (.bool false)), (1, .eq (.bool true)), (3, .eq (.int .i64 (p0.fArgs.length : Int))), (0, .eq (.bool false))]) (obs := [AV.bool (decide ((p0.fArgs.length : Int) > 0)) = .bool false, AV.int .i64 ((rows28 p0.fArgs).length : Int) = .int .i64 (p0.fArgs.length : Int), AV.bool (p0.fOp == 6) = .bool true, AV.bool (p0.fOp == 5) = .bool false, AV.bool (p0.fOp == 4) = .bool false, AV.bool (p0.fOp == 3) = .bool false, AV.bool (p0.fOp == 1) = .bool false]) (by kernel_rfl) ⟨congrArg AV.bool c5_, R27.lenOb p0.fArgs, congrArg AV.bool c4_, congrArg AV.bool c3_, congrArg AV.bool c2_, congrArg AV.bool c1_, congrArg AV.bool c0_, trivial⟩
          ·
            exact run_at (S := sp19_4) (G := []) (sc := [(4, .eq (.bool false)), (1, .eq (.bool false)), (1, .eq (.bool false)), (1, .eq (.bool false)), (1, .eq (.bool false))]) (obs := [AV.bool (p0.fOp == 6) = .bool false, AV.bool (p0.fOp == 5) = .bool false, AV.bool (p0.fOp == 4) = .bool false, AV.bool (p0.fOp == 3) = .bool false, AV.bool (p0.fOp == 1) = .bool false]) (by kernel_rfl) ⟨congrArg AV.bool c4_, congrArg AV.bool c3_, congrArg AV.bool c2_, congrArg AV.bool c1_, congrArg AV.bool c0_, trivial⟩ (b19_3 s_19 hs_19 n _ h40_)

def F19 : Nat → TPredicate → (List TValue) → (List TValue) → Option Bool
  | 0, _, _, _ => none
  | n + 1, p0, row1, params2 => B19_4 (F19 n) n p0 row1 params2
theorem ev19 : ∀ (n : Nat) (p0 : TPredicate) (row1 : (List TValue)) (params2 : (List TValue)) (r : Bool), F19 n p0 row1 params2 = some r → CallOK Try.prog ann 19 [.agg (enc28 p0), .slice .sh (rows23 row1), .slice .sh (rows23 params2)] (res19 r) (outs19 r)
  | 0, _, _, _, _, h => by simp [F19] at h
  | n + 1, p0, row1, params2, r, h => call_of_at (E := e19) (s := st19_4 p0 row1 params2) body19 Try.func19 (by kernel_rfl) (by kernel_rfl) (by kernel_rfl) (by kernel_rfl) (by kernel_rfl) (emptyOK_of (by kernel_rfl)) (by kernel_rfl) (b19_4 (F19 n) (ev19 n) n p0 row1 params2 r h)

/-- partsync/predicate.collect -/
noncomputable def e51 : Env := { P := Try.prog, ann := ann, f := 51, fn := Try.f51, ptrs := [], rets := [(4, .ex 3)] }
def st51_0 (list0 : (List Int)) (t16 : T93) (t17 : Int) (bp3 : TPredicate) (bo6 : TOperand) : LS := ⟨[(0, .ex 3 (rows3 list0)), (3, .loc 3 0), (6, .loc 6 0), (16, .agg (enc93 t16)), (17, .int .i64 t17)], [(3, (enc28 bp3)), (6, (enc25 bo6))]⟩
def st51_1 (list0 : (List Int)) (t16 : T93) (t17 : Int) (bp3 : TPredicate) : LS := ⟨[(0, .ex 3 (rows3 list0)), (3, .loc 3 0), (16, .agg (enc93 t16)), (17, .int .i64 t17)], [(3, (enc28 bp3))]⟩
def st51_2 (list0 : (List Int)) (t35 : (List TPredicate)) (t36 : Int) (t37 : Int) : LS := ⟨[(0, .ex 3 (rows3 list0)), (35, .slice .sh (rows28 t35)), (36, .int .i64 t36), (37, .int .i64 t37)], []⟩
def st51_3 (list0 : (List Int)) : LS := ⟨[(0, .ex 3 (rows3 list0))], []⟩
def st51_4 (list0 : (List Int)) (bp3 : TPredicate) : LS := ⟨[(0, .ex 3 (rows3 list0)), (3, .loc 3 0)], [(3, (enc28 bp3))]⟩
def st51_5 (list0 : (List Int)) (p1 : TPredicate) : LS := ⟨[(0, .ex 3 (rows3 list0)), (1, .agg (enc28 p1))], []⟩
def sp51_0 : Stops := [([0, 1, 0, 1, 0, 1], [(0, .ex 3), (3, .same), (16, .nrm), (17, .same)], [(3, [.same, .same, .same, .same, .same, .same, .same, .same, .same, .same, .same, .same, .nrm])])]
def B51_0 (s_51 : (List Int) → TPredicate → Option (List Int)) (k_1 : (List Int) → T93 → Int → TPredicate → Option (List Int)) (n : Nat) (list0 : (List Int)) (t16 : T93) (t17 : Int) (bp3 : TPredicate) (bo6 : TOperand) : Option (List Int) :=
  if bo6.fKind == 1 then
    if decide (bo6.fIndex ≥ 0) then
      (app list0 [bo6.fIndex]).bind fun x13_ =>
      k_1 x13_ t16 (w64 (t17 + 1)) bp3
    else
      k_1 list0 t16 (w64 (t17 + 1)) bp3
  else
    k_1 list0 t16 (w64 (t17 + 1)) bp3

theorem b51_0 (s_51 : (List Int) → TPredicate → Option (List Int)) (hs_51 : ∀ (a0_ : (List Int)) (a1_ : TPredicate) (r : (List Int)), s_51 a0_ a1_ = some r → CallOK Try.prog ann 51 [.ex 3 (rows3 a0_), .agg (enc28 a1_)] (res51 r) (outs51 r)) (k_1 : (List Int) → T93 → Int → TPredicate → Option (List Int)) (hk_1 : ∀ (list0 : (List Int)) (t16 : T93) (t17 : Int) (bp3 : TPredicate) (r : (List Int)), k_1 list0 t16 t17 bp3 = some r → At e51 [0, 1, 0, 1, 0, 1] (st51_1 list0 t16 t17 bp3) (res51 r) (outs51 r)) (n : Nat) (list0 : (List Int)) (t16 : T93) (t17 : Int) (bp3 : TPredicate) (bo6 : TOperand) (r : (List Int)) (h : B51_0 s_51 k_1 n list0 t16 t17 bp3 bo6 = some r) : At e51 [1, 0, 0, 1, 1, 0, 0, 1, 0, 1, 0, 1] (st51_0 list0 t16 t17 bp3 bo6) (res51 r) (outs51 r) := by
  unfold B51_0 at h
  refine ite_elim h (fun c0_ h1_ => ?_) (fun c0_ h1_ => ?_)
  ·
    refine ite_elim h1_ (fun c1_ h2_ => ?_) (fun c1_ h2_ => ?_)
    ·
      refine bind_elim h2_ (fun x13_ hx13_ h3_ => ?_)
      exact run_at (S := sp51_0) (G := []) (sc := [(2, .eq (.bool true)), (3, .eq (.bool true)), (5, .core ⟨[(32, .ex 3 (rows3 x13_)), (28, .undef)], []⟩)]) (obs := [appendA Try.prog an51 32 30 (.tmp 28) (.ex 3 (rows3 list0)) (.slice (.own 3) (rows3 [bo6.fIndex])) (fun _ => none) = some ⟨[(32, .ex 3 (rows3 x13_)), (28, .undef)], []⟩, AV.bool (decide (bo6.fIndex ≥ 0)) = .bool true, AV.bool (bo6.fKind == 1) = .bool true]) (by kernel_rfl) ⟨R30.appEx (A := an51) (by decide) hx13_, congrArg AV.bool c1_, congrArg AV.bool c0_, trivial⟩ (hk_1 _ _ _ _ _ h3_)
    ·
      exact run_at (S := sp51_0) (G := []) (sc := [(2, .eq (.bool true)), (3, .eq (.bool false))]) (obs := [AV.bool (decide (bo6.fIndex ≥ 0)) = .bool false, AV.bool (bo6.fKind == 1) = .bool true]) (by kernel_rfl) ⟨congrArg AV.bool c1_, congrArg AV.bool c0_, trivial⟩ (hk_1 _ _ _ _ _ h2_)
  ·
    exact run_at (S := sp51_0) (G := []) (sc := [(2, .eq (.bool false))]) (obs := [AV.bool (bo6.fKind == 1) = .bool false]) (by kernel_rfl) ⟨congrArg AV.bool c0_, trivial⟩ (hk_1 _ _ _ _ _ h1_)

def sp51_1 : Stops := [([1, 0, 0, 1, 1, 0, 0, 1, 0, 1, 0, 1], [(0, .ex 3), (3, .same), (6, .same), (16, .nrm), (17, .same)], [(3, [.same, .same, .same, .same, .same, .same, .same, .same, .same, .same, .same, .same, .nrm]), (6, [.same, .same, .same, .same, .same])]), ([1, 1], [(0, .ex 3), (3, .same)], [(3, [.same, .same, .same, .same, .same, .same, .same, .same, .same, .same, .same, .same, .nrm])])]
def B51_1 (s_51 : (List Int) → TPredicate → Option (List Int)) (k_4 : (List Int) → TPredicate → Option (List Int)) (back : (List Int) → T93 → Int → TPredicate → Option (List Int)) (n : Nat) (list0 : (List Int)) (t16 : T93) (t17 : Int) (bp3 : TPredicate) : Option (List Int) :=
  if decide (t17 < 2) then
    if t17 == 0 then
      B51_0 s_51 back n list0 t16 0 bp3 t16.f0
    else
      if t17 == 1 then
        B51_0 s_51 back n list0 t16 1 bp3 t16.f1
      else
        none
  else
    k_4 list0 bp3

theorem b51_1 (s_51 : (List Int) → TPredicate → Option (List Int)) (hs_51 : ∀ (a0_ : (List Int)) (a1_ : TPredicate) (r : (List Int)), s_51 a0_ a1_ = some r → CallOK Try.prog ann 51 [.ex 3 (rows3 a0_), .agg (enc28 a1_)] (res51 r) (outs51 r)) (k_4 : (List Int) → TPredicate → Option (List Int)) (hk_4 : ∀ (list0 : (List Int)) (bp3 : TPredicate) (r : (List Int)), k_4 list0 bp3 = some r → At e51 [1, 1] (st51_4 list0 bp3) (res51 r) (outs51 r)) (back : (List Int) → T93 → Int → TPredicate → Option (List Int)) (hback : ∀ (list0 : (List Int)) (t16 : T93) (t17 : Int) (bp3 : TPredicate) (r : (List Int)), back list0 t16 t17 bp3 = some r → At e51 [0, 1, 0, 1, 0, 1] (st51_1 list0 t16 t17 bp3) (res51 r) (outs51 r)) (n : Nat) (list0 : (List Int)) (t16 : T93) (t17 : Int) (bp3 : TPredicate) (r : (List Int)) (h : B51_1 s_51 k_4 back n list0 t16 t17 bp3 = some r) : At e51 [0, 1, 0, 1, 0, 1] (st51_1 list0 t16 t17 bp3) (res51 r) (outs51 r) := by
  unfold B51_1 at h
  refine ite_elim h (fun c0_ h4_ => ?_) (fun c0_ h4_ => ?_)
  ·
    refine ite_elim h4_ (fun c1_ h5_ => ?_) (fun c1_ h5_ => ?_)
    ·
      have c1_ := eq_of_beq c1_
      subst c1_
      exact run_at (S := sp51_1) (G := []) (sc := []) (obs := []) (by kernel_rfl) trivial (b51_0 s_51 hs_51 back hback n _ _ _ _ _ _ h5_)
    ·
      refine ite_elim h5_ (fun c2_ h6_ => ?_) (fun c2_ h6_ => ?_)
      ·
        have c2_ := eq_of_beq c2_
        subst c2_
        exact run_at (S := sp51_1) (G := []) (sc := []) (obs := []) (by kernel_rfl) trivial (b51_0 s_51 hs_51 back hback n _ _ _ _ _ _ h6_)
      ·
        cases h6_
  ·
    exact run_at (S := sp51_1) (G := []) (sc := [(0, .eq (.bool false))]) (obs := [AV.bool (decide (t17 < 2)) = .bool false]) (by kernel_rfl) ⟨congrArg AV.bool c0_, trivial⟩ (hk_4 _ _ _ h4_)

def L51_1 (s_51 : (List Int) → TPredicate → Option (List Int)) (k_4 : (List Int) → TPredicate → Option (List Int)) : Nat → (List Int) → T93 → Int → TPredicate → Option (List Int)
  | 0, _, _, _, _ => none
  | n + 1, list0, t16, t17, bp3 => B51_1 s_51 k_4 (L51_1 s_51 k_4 n) n list0 t16 t17 bp3
theorem l51_1 (s_51 : (List Int) → TPredicate → Option (List Int)) (hs_51 : ∀ (a0_ : (List Int)) (a1_ : TPredicate) (r : (List Int)), s_51 a0_ a1_ = some r → CallOK Try.prog ann 51 [.ex 3 (rows3 a0_), .agg (enc28 a1_)] (res51 r) (outs51 r)) (k_4 : (List Int) → TPredicate → Option (List Int)) (hk_4 : ∀ (list0 : (List Int)) (bp3 : TPredicate) (r : (List Int)), k_4 list0 bp3 = some r → At e51 [1, 1] (st51_4 list0 bp3) (res51 r) (outs51 r)) : ∀ (n : Nat) (list0 : (List Int)) (t16 : T93) (t17 : Int) (bp3 : TPredicate) (r : (List Int)), L51_1 s_51 k_4 n list0 t16 t17 bp3 = some r → At e51 [0, 1, 0, 1, 0, 1] (st51_1 list0 t16 t17 bp3) (res51 r) (outs51 r)
  | 0, _, _, _, _, _, h => by simp [L51_1] at h
  | n + 1, list0, t16, t17, bp3, r, h => b51_1 s_51 hs_51 k_4 hk_4 (L51_1 s_51 k_4 n) (l51_1 s_51 hs_51 k_4 hk_4 n) n list0 t16 t17 bp3 r h
def sp51_2 : Stops := [([0, 1, 0, 1, 1], [(0, .ex 3), (35, .nrm), (36, .same), (37, .same)], []), ([1, 1, 1], [(0, .ex 3)], [])]
def B51_2 (s_51 : (List Int) → TPredicate → Option (List Int)) (k_3 : (List Int) → Option (List Int)) (back : (List Int) → (List TPredicate) → Int → Int → Option (List Int)) (n : Nat) (list0 : (List Int)) (t35 : (List TPredicate)) (t36 : Int) (t37 : Int) : Option (List Int) :=
  if decide (t37 < t36) then
    (idx t35 t37).bind fun x2_ =>
    (s_51 list0 x2_).bind fun x8_ =>
    back x8_ t35 t36 (w64 (t37 + 1))
  else
    k_3 list0

theorem b51_2 (s_51 : (List Int) → TPredicate → Option (List Int)) (hs_51 : ∀ (a0_ : (List Int)) (a1_ : TPredicate) (r : (List Int)), s_51 a0_ a1_ = some r → CallOK Try.prog ann 51 [.ex 3 (rows3 a0_), .agg (enc28 a1_)] (res51 r) (outs51 r)) (k_3 : (List Int) → Option (List Int)) (hk_3 : ∀ (list0 : (List Int)) (r : (List Int)), k_3 list0 = some r → At e51 [1, 1, 1] (st51_3 list0) (res51 r) (outs51 r)) (back : (List Int) → (List TPredicate) → Int → Int → Option (List Int)) (hback : ∀ (list0 : (List Int)) (t35 : (List TPredicate)) (t36 : Int) (t37 : Int) (r : (List Int)), back list0 t35 t36 t37 = some r → At e51 [0, 1, 0, 1, 1] (st51_2 list0 t35 t36 t37) (res51 r) (outs51 r)) (n : Nat) (list0 : (List Int)) (t35 : (List TPredicate)) (t36 : Int) (t37 : Int) (r : (List Int)) (h : B51_2 s_51 k_3 back n list0 t35 t36 t37 = some r) : At e51 [0, 1, 0, 1, 1] (st51_2 list0 t35 t36 t37) (res51 r) (outs51 r) := by
  unfold B51_2 at h
  refine ite_elim h (fun c0_ h7_ => ?_) (fun c0_ h7_ => ?_)
  ·
    refine bind_elim h7_ (fun x2_ hx2_ h8_ => ?_)
    refine bind_elim h8_ (fun x8_ hx8_ h9_ => ?_)
    exact run_at (S := sp51_2) (G := []) (sc := [(0, .eq (.bool true)), (0, .core ⟨[(39, .imm (enc28 x2_))], []⟩), (5, .call 51 (res51 x8_) (outs51 x8_))]) (obs := [CallOK Try.prog ann 51 [.ex 3 (rows3 list0), .agg (enc28 x2_)] (res51 x8_) (outs51 x8_), indexAddrA Try.prog an51 (some 39) 27 (.slice .sh (rows28 t35)) (.int .i64 t37) = some ⟨[(39, .imm (enc28 x2_))], []⟩, AV.bool (decide (t37 < t36)) = .bool true]) (by kernel_rfl) ⟨hs_51 _ _ _ hx8_, R27.idxOb (A := an51) hx2_, congrArg AV.bool c0_, trivial⟩ (hback _ _ _ _ _ h9_)
  ·
    exact run_at (S := sp51_2) (G := []) (sc := [(0, .eq (.bool false))]) (obs := [AV.bool (decide (t37 < t36)) = .bool false]) (by kernel_rfl) ⟨congrArg AV.bool c0_, trivial⟩ (hk_3 _ _ h7_)

def L51_2 (s_51 : (List Int) → TPredicate → Option (List Int)) (k_3 : (List Int) → Option (List Int)) : Nat → (List Int) → (List TPredicate) → Int → Int → Option (List Int)
  | 0, _, _, _, _ => none
  | n + 1, list0, t35, t36, t37 => B51_2 s_51 k_3 (L51_2 s_51 k_3 n) n list0 t35 t36 t37
theorem l51_2 (s_51 : (List Int) → TPredicate → Option (List Int)) (hs_51 : ∀ (a0_ : (List Int)) (a1_ : TPredicate) (r : (List Int)), s_51 a0_ a1_ = some r → CallOK Try.prog ann 51 [.ex 3 (rows3 a0_), .agg (enc28 a1_)] (res51 r) (outs51 r)) (k_3 : (List Int) → Option (List Int)) (hk_3 : ∀ (list0 : (List Int)) (r : (List Int)), k_3 list0 = some r → At e51 [1, 1, 1] (st51_3 list0) (res51 r) (outs51 r)) : ∀ (n : Nat) (list0 : (List Int)) (t35 : (List TPredicate)) (t36 : Int) (t37 : Int) (r : (List Int)), L51_2 s_51 k_3 n list0 t35 t36 t37 = some r → At e51 [0, 1, 0, 1, 1] (st51_2 list0 t35 t36 t37) (res51 r) (outs51 r)
  | 0, _, _, _, _, _, h => by simp [L51_2] at h
  | n + 1, list0, t35, t36, t37, r, h => b51_2 s_51 hs_51 k_3 hk_3 (L51_2 s_51 k_3 n) (l51_2 s_51 hs_51 k_3 hk_3 n) n list0 t35 t36 t37 r h
def sp51_3 : Stops := []
def B51_3 (s_51 : (List Int) → TPredicate → Option (List Int)) (n : Nat) (list0 : (List Int)) : Option (List Int) :=
  some list0

theorem b51_3 (s_51 : (List Int) → TPredicate → Option (List Int)) (hs_51 : ∀ (a0_ : (List Int)) (a1_ : TPredicate) (r : (List Int)), s_51 a0_ a1_ = some r → CallOK Try.prog ann 51 [.ex 3 (rows3 a0_), .agg (enc28 a1_)] (res51 r) (outs51 r)) (n : Nat) (list0 : (List Int)) (r : (List Int)) (h : B51_3 s_51 n list0 = some r) : At e51 [1, 1, 1] (st51_3 list0) (res51 r) (outs51 r) := by
  unfold B51_3 at h
  have e_ := Option.some.inj h
  subst e_
  exact run_ret (S := sp51_3) (G := []) (sc := []) (obs := []) (by kernel_rfl) trivial

def sp51_4 : Stops := [([0, 1, 0, 1, 1], [(0, .ex 3), (35, .nrm), (36, .same), (37, .same)], [])]
def B51_4 (s_51 : (List Int) → TPredicate → Option (List Int)) (n : Nat) (list0 : (List Int)) (bp3 : TPredicate) : Option (List Int) :=
  L51_2 s_51 (B51_3 s_51 n) n list0 bp3.fArgs (bp3.fArgs.length : Int) 0

theorem b51_4 (s_51 : (List Int) → TPredicate → Option (List Int)) (hs_51 : ∀ (a0_ : (List Int)) (a1_ : TPredicate) (r : (List Int)), s_51 a0_ a1_ = some r → CallOK Try.prog ann 51 [.ex 3 (rows3 a0_), .agg (enc28 a1_)] (res51 r) (outs51 r)) (n : Nat) (list0 : (List Int)) (bp3 : TPredicate) (r : (List Int)) (h : B51_4 s_51 n list0 bp3 = some r) : At e51 [1, 1] (st51_4 list0 bp3) (res51 r) (outs51 r) := by
  unfold B51_4 at h
  exact run_at (S := sp51_4) (G := []) (sc := [(2, .eq (.int .i64 (bp3.fArgs.length : Int)))]) (obs := [AV.int .i64 ((rows28 bp3.fArgs).length : Int) = .int .i64 (bp3.fArgs.length : Int)]) (by kernel_rfl) ⟨R27.lenOb bp3.fArgs, trivial⟩ (l51_2 s_51 hs_51 (B51_3 s_51 n) (b51_3 s_51 hs_51 n) n _ _ _ _ _ h)

def sp51_5 : Stops := [([0, 1, 0, 1, 0, 1], [(0, .ex 3), (3, .same), (16, .nrm), (17, .same)], [(3, [.same, .same, .same, .same, .same, .same, .same, .same, .same, .same, .same, .same, .nrm])]), ([1, 1], [(0, .ex 3), (3, .same)], [(3, [.same, .same, .same, .same, .same, .same, .same, .same, .same, .same, .same, .same, .nrm])])]
def B51_5 (s_51 : (List Int) → TPredicate → Option (List Int)) (n : Nat) (list0 : (List Int)) (p1 : TPredicate) : Option (List Int) :=
  if p1.fOp == 3 then
    L51_1 s_51 (B51_4 s_51 n) n list0 (T93.mk p1.fLeft p1.fRight) 0 p1
  else
    B51_4 s_51 n list0 p1

theorem b51_5 (s_51 : (List Int) → TPredicate → Option (List Int)) (hs_51 : ∀ (a0_ : (List Int)) (a1_ : TPredicate) (r : (List Int)), s_51 a0_ a1_ = some r → CallOK Try.prog ann 51 [.ex 3 (rows3 a0_), .agg (enc28 a1_)] (res51 r) (outs51 r)) (n : Nat) (list0 : (List Int)) (p1 : TPredicate) (r : (List Int)) (h : B51_5 s_51 n list0 p1 = some r) : At e51 [] (st51_5 list0 p1) (res51 r) (outs51 r) := by
  unfold B51_5 at h
  refine ite_elim h (fun c0_ h10_ => ?_) (fun c0_ h10_ => ?_)
  ·
    exact run_at (S := sp51_5) (G := []) (sc := [(4, .eq (.bool true))]) (obs := [AV.bool (p1.fOp == 3) = .bool true]) (by kernel_rfl) ⟨congrArg AV.bool c0_, trivial⟩ (l51_1 s_51 hs_51 (B51_4 s_51 n) (b51_4 s_51 hs_51 n) n _ _ _ _ _ h10_)
  ·
    exact run_at (S := sp51_5) (G := []) (sc := [(4, .eq (.bool false))]) (obs := [AV.bool (p1.fOp == 3) = .bool false]) (by kernel_rfl) ⟨congrArg AV.bool c0_, trivial⟩ (b51_4 s_51 hs_51 n _ _ _ h10_)

def F51 : Nat → (List Int) → TPredicate → Option (List Int)
  | 0, _, _ => none
  | n + 1, list0, p1 => B51_5 (F51 n) n list0 p1
theorem ev51 : ∀ (n : Nat) (list0 : (List Int)) (p1 : TPredicate) (r : (List Int)), F51 n list0 p1 = some r → CallOK Try.prog ann 51 [.ex 3 (rows3 list0), .agg (enc28 p1)] (res51 r) (outs51 r)
  | 0, _, _, _, h => by simp [F51] at h
  | n + 1, list0, p1, r, h => call_of_at (E := e51) (s := st51_5 list0 p1) body51 Try.func51 (by kernel_rfl) (by kernel_rfl) (by kernel_rfl) (by kernel_rfl) (by kernel_rfl) (emptyOK_of (by kernel_rfl)) (by kernel_rfl) (b51_5 (F51 n) (ev51 n) n list0 p1 r h)

end Go.Proofs.Ytalbakjfbgkjjaa
