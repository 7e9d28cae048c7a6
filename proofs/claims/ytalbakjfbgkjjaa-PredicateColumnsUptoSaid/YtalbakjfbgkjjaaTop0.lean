/- Functions of the program as plain functions, and that the program answers as they do; written by a program (comp.py). -/
import Derived.Test.YtalbakjfbgkjjaaFun7
set_option maxRecDepth 100000
set_option linter.all false
namespace Go.Proofs.Ytalbakjfbgkjjaa
open Go.Abs

/-- partsync/predicate.Columns -/
noncomputable def e25 : Env := { P := Try.prog, ann := ann, f := 25, fn := Try.f25, ptrs := [], rets := [(2, .nrm)] }
def st25_0 (p0 : TPredicate) : LS := ⟨[(0, .agg (enc28 p0))], []⟩
def sp25_0 : Stops := []
def B25_0 (n : Nat) (p0 : TPredicate) : Option (List Int) :=
  (F51 n [] p0).bind fun x4_ =>
  (F52 n x4_).bind fun x7_ =>
  (F53 n x7_).bind fun x9_ =>
  (cutN x9_.2 x9_.1).bind fun y11_ =>
  some y11_

theorem b25_0 (n : Nat) (p0 : TPredicate) (r : (List Int)) (h : B25_0 n p0 = some r) : At e25 [] (st25_0 p0) (res25 r) (outs25 r) := by
  unfold B25_0 at h
  refine bind_elim h (fun x4_ hx4_ h1_ => ?_)
  refine bind_elim h1_ (fun x7_ hx7_ h2_ => ?_)
  refine bind_elim h2_ (fun x9_ hx9_ h3_ => ?_)
  refine bind_elim h3_ (fun y11_ hy11_ h4_ => ?_)
  have e_ := Option.some.inj h4_
  subst e_
  exact run_ret (S := sp25_0) (G := [([1, 1, 1, 1], [.frz { K := 10, e := 3, rows := (rows3 x9_.2), ts := [(2, (rows3 y11_))], cs := [] }])]) (sc := [(3, .call 51 (res51 x4_) (outs51 x4_)), (2, .call 52 (res52 x7_) (outs52 x7_)), (1, .call 53 (res53 x9_) (outs53 x9_))]) (obs := [some (flatS (rows3 x9_.2)) = some (flatS (rows3 x9_.2)), ∀ r ∈ (rows3 x9_.2), r.length = Program.cellsOf Try.prog 3, okView (rows3 x9_.2) (.ms 10 3 0 x9_.1) (rows3 y11_), CallOK Try.prog ann 53 [.msp 3 0 ((rows3 x4_).length) (List.map AV.norm1 (flatS (rows3 x7_)))] (res53 x9_) (outs53 x9_), CallOK Try.prog ann 52 [.msp 3 0 ((rows3 x4_).length) (List.map AV.norm1 (flatS (rows3 x4_)))] (res52 x7_) (outs52 x7_), CallOK Try.prog ann 51 [.ex 3 [], .agg (enc28 p0)] (res51 x4_) (outs51 x4_)]) (by kernel_rfl) ⟨rfl, R30.rows_len _, R30.viewN hy11_, callOK_msp (((len52 hx7_).trans (R30.rlen _).symm).symm) (ev53 n _ _ hx9_), callOK_msp ((R30.rlen _).symm.symm) (ev52 n _ _ hx7_), ev51 n _ _ _ hx4_, trivial⟩

def F25 (n : Nat) (p0 : TPredicate) : Option (List Int) := B25_0 n p0
theorem ev25 (n : Nat) (p0 : TPredicate) (r : (List Int)) (h : F25 n p0 = some r) : CallOK Try.prog ann 25 [.agg (enc28 p0)] (res25 r) (outs25 r) :=
  call_of_at (E := e25) (s := st25_0 p0) body25 Try.func25 (by kernel_rfl) (by kernel_rfl) (by kernel_rfl) (by kernel_rfl) (by kernel_rfl) (emptyOK_of (by kernel_rfl)) (by kernel_rfl) (b25_0 n p0 r h)

/-- partsync/partsynclaw05.begun -/
noncomputable def e14 : Env := { P := Try.prog, ann := ann, f := 14, fn := Try.f14, ptrs := [], rets := [(0, .same)] }
def st14_0  : LS := ⟨[], []⟩
def sp14_0 : Stops := []
def B14_0 (n : Nat)  : Option Bool :=
  (F19 n (TPredicate.mk 3 3 (TOperand.mk 1 0 (TValue.mk 0 0 ByteArray.empty)) (TOperand.mk 3 0 (TValue.mk 4 5 ByteArray.empty)) []) [(TValue.mk 4 3 ByteArray.empty)] []).bind fun x19_ =>
  if x19_ then
    (F19 n (TPredicate.mk 3 3 (TOperand.mk 1 0 (TValue.mk 0 0 ByteArray.empty)) (TOperand.mk 3 0 (TValue.mk 4 5 ByteArray.empty)) []) [(TValue.mk 2 0 ByteArray.empty)] []).bind fun x23_ =>
    if !x23_ then
      (F19 n (TPredicate.mk 6 0 (TOperand.mk 0 0 (TValue.mk 0 0 ByteArray.empty)) (TOperand.mk 0 0 (TValue.mk 0 0 ByteArray.empty)) [(TPredicate.mk 3 3 (TOperand.mk 1 0 (TValue.mk 0 0 ByteArray.empty)) (TOperand.mk 3 0 (TValue.mk 4 5 ByteArray.empty)) [])]) [(TValue.mk 2 0 ByteArray.empty)] []).bind fun x29_ =>
      if x29_ then
        (F25 n (TPredicate.mk 6 0 (TOperand.mk 0 0 (TValue.mk 0 0 ByteArray.empty)) (TOperand.mk 0 0 (TValue.mk 0 0 ByteArray.empty)) [(TPredicate.mk 3 3 (TOperand.mk 1 0 (TValue.mk 0 0 ByteArray.empty)) (TOperand.mk 3 0 (TValue.mk 4 5 ByteArray.empty)) [])])).bind fun x33_ =>
        if (x33_.length : Int) == 1 then
          (F15 n [] [] (TPredicate.mk 3 3 (TOperand.mk 1 0 (TValue.mk 0 0 ByteArray.empty)) (TOperand.mk 3 0 (TValue.mk 4 5 ByteArray.empty)) [])).bind fun x39_ =>
          some (x39_ == 50)
        else
          some false
      else
        some false
    else
      some false
  else
    some false

theorem b14_0 (n : Nat)  (r : Bool) (h : B14_0 n = some r) : At e14 [] (st14_0) (res14 r) (outs14 r) := by
  unfold B14_0 at h
  refine bind_elim h (fun x19_ hx19_ h1_ => ?_)
  refine ite_elim h1_ (fun c0_ h2_ => ?_) (fun c0_ h2_ => ?_)
  ·
    subst c0_
    refine bind_elim h2_ (fun x23_ hx23_ h3_ => ?_)
    refine ite_elim h3_ (fun c1_ h4_ => ?_) (fun c1_ h4_ => ?_)
    ·
      refine bind_elim h4_ (fun x29_ hx29_ h5_ => ?_)
      refine ite_elim h5_ (fun c2_ h6_ => ?_) (fun c2_ h6_ => ?_)
      ·
        subst c2_
        refine bind_elim h6_ (fun x33_ hx33_ h7_ => ?_)
        refine ite_elim h7_ (fun c3_ h8_ => ?_) (fun c3_ h8_ => ?_)
        ·
          refine bind_elim h8_ (fun x39_ hx39_ h9_ => ?_)
          have e_ := Option.some.inj h9_
          subst e_
          exact run_ret (S := sp14_0) (G := []) (sc := [(8, .eq (.slice (.own 29) (rows28 [(TPredicate.mk 3 3 (TOperand.mk 1 0 (TValue.mk 0 0 ByteArray.empty)) (TOperand.mk 3 0 (TValue.mk 4 5 ByteArray.empty)) [])]))), (9, .call 19 (res19 true) (outs19 true)), (3, .call 19 (res19 x23_) (outs19 x23_)), (0, .eq (.bool true)), (4, .call 19 (res19 true) (outs19 true)), (3, .call 25 (res25 x33_) (outs25 x33_)), (0, .eq (.int .i64 (x33_.length : Int))), (0, .eq (.bool true)), (3, .call 15 (res15 x39_) (outs15 x39_))]) (obs := [CallOK Try.prog ann 15 [.slice .sh [], .slice .sh [], .agg [.int .i64 3, .int .i64 3, .int .i64 1, .int .i64 0, .int .i64 0, .int .i64 0, .str ByteArray.empty, .int .i64 3, .int .i64 0, .int .i64 4, .int .i64 5, .str ByteArray.empty, .slice .sh []]] (res15 x39_) (outs15 x39_), AV.bool ((x33_.length : Int) == 1) = .bool true, AV.int .i64 ((rows3 x33_).length : Int) = .int .i64 (x33_.length : Int), CallOK Try.prog ann 25 [.agg [.int .i64 6, .int .i64 0, .int .i64 0, .int .i64 0, .int .i64 0, .int .i64 0, .str ByteArray.empty, .int .i64 0, .int .i64 0, .int .i64 0, .int .i64 0, .str ByteArray.empty, .slice .sh (rows28 [(TPredicate.mk 3 3 (TOperand.mk 1 0 (TValue.mk 0 0 ByteArray.empty)) (TOperand.mk 3 0 (TValue.mk 4 5 ByteArray.empty)) [])])]] (res25 x33_) (outs25 x33_), CallOK Try.prog ann 19 [.agg [.int .i64 6, .int .i64 0, .int .i64 0, .int .i64 0, .int .i64 0, .int .i64 0, .str ByteArray.empty, .int .i64 0, .int .i64 0, .int .i64 0, .int .i64 0, .str ByteArray.empty, .slice .sh (rows28 [(TPredicate.mk 3 3 (TOperand.mk 1 0 (TValue.mk 0 0 ByteArray.empty)) (TOperand.mk 3 0 (TValue.mk 4 5 ByteArray.empty)) [])])], .slice .sh (rows23 [(TValue.mk 2 0 ByteArray.empty)]), .slice .sh []] (res19 true) (outs19 true), AV.bool (!x23_) = .bool true, CallOK Try.prog ann 19 [.agg [.int .i64 3, .int .i64 3, .int .i64 1, .int .i64 0, .int .i64 0, .int .i64 0, .str ByteArray.empty, .int .i64 3, .int .i64 0, .int .i64 4, .int .i64 5, .str ByteArray.empty, .slice .sh []], .slice .sh (rows23 [(TValue.mk 2 0 ByteArray.empty)]), .slice .sh []] (res19 x23_) (outs19 x23_), CallOK Try.prog ann 19 [.agg [.int .i64 3, .int .i64 3, .int .i64 1, .int .i64 0, .int .i64 0, .int .i64 0, .str ByteArray.empty, .int .i64 3, .int .i64 0, .int .i64 4, .int .i64 5, .str ByteArray.empty, .slice .sh []], .slice .sh (rows23 [(TValue.mk 4 3 ByteArray.empty)]), .slice .sh []] (res19 true) (outs19 true), AV.slice (.own 29) ([(TPredicate.mk 3 3 (TOperand.mk 1 0 (TValue.mk 0 0 ByteArray.empty)) (TOperand.mk 3 0 (TValue.mk 4 5 ByteArray.empty)) [])].map enc28) = .slice (.own 29) (rows28 [(TPredicate.mk 3 3 (TOperand.mk 1 0 (TValue.mk 0 0 ByteArray.empty)) (TOperand.mk 3 0 (TValue.mk 4 5 ByteArray.empty)) [])])]) (by kernel_rfl) ⟨ev15 n _ _ _ _ hx39_, congrArg AV.bool c3_, R30.lenOb x33_, ev25 n _ _ hx33_, ev19 n _ _ _ _ hx29_, congrArg AV.bool c1_, ev19 n _ _ _ _ hx23_, ev19 n _ _ _ _ hx19_, R27.build1 [(TPredicate.mk 3 3 (TOperand.mk 1 0 (TValue.mk 0 0 ByteArray.empty)) (TOperand.mk 3 0 (TValue.mk 4 5 ByteArray.empty)) [])], trivial⟩
        ·
          have e_ := Option.some.inj h8_
          subst e_
          exact run_ret (S := sp14_0) (G := []) (sc := [(8, .eq (.slice (.own 29) (rows28 [(TPredicate.mk 3 3 (TOperand.mk 1 0 (TValue.mk 0 0 ByteArray.empty)) (TOperand.mk 3 0 (TValue.mk 4 5 ByteArray.empty)) [])]))), (9, .call 19 (res19 true) (outs19 true)), (3, .call 19 (res19 x23_) (outs19 x23_)), (0, .eq (.bool true)), (4, .call 19 (res19 true) (outs19 true)), (3, .call 25 (res25 x33_) (outs25 x33_)), (0, .eq (.int .i64 (x33_.length : Int))), (0, .eq (.bool false))]) (obs := [AV.bool ((x33_.length : Int) == 1) = .bool false, AV.int .i64 ((rows3 x33_).length : Int) = .int .i64 (x33_.length : Int), CallOK Try.prog ann 25 [.agg [.int .i64 6, .int .i64 0, .int .i64 0, .int .i64 0, .int .i64 0, .int .i64 0, .str ByteArray.empty, .int .i64 0, .int .i64 0, .int .i64 0, .int .i64 0, .str ByteArray.empty, .slice .sh (rows28 [(TPredicate.mk 3 3 (TOperand.mk 1 0 (TValue.mk 0 0 ByteArray.empty)) (TOperand.mk 3 0 (TValue.mk 4 5 ByteArray.empty)) [])])]] (res25 x33_) (outs25 x33_), CallOK Try.prog ann 19 [.agg [.int .i64 6, .int .i64 0, .int .i64 0, .int .i64 0, .int .i64 0, .int .i64 0, .str ByteArray.empty, .int .i64 0, .int .i64 0, .int .i64 0, .int .i64 0, .str ByteArray.empty, .slice .sh (rows28 [(TPredicate.mk 3 3 (TOperand.mk 1 0 (TValue.mk 0 0 ByteArray.empty)) (TOperand.mk 3 0 (TValue.mk 4 5 ByteArray.empty)) [])])], .slice .sh (rows23 [(TValue.mk 2 0 ByteArray.empty)]), .slice .sh []] (res19 true) (outs19 true), AV.bool (!x23_) = .bool true, CallOK Try.prog ann 19 [.agg [.int .i64 3, .int .i64 3, .int .i64 1, .int .i64 0, .int .i64 0, .int .i64 0, .str ByteArray.empty, .int .i64 3, .int .i64 0, .int .i64 4, .int .i64 5, .str ByteArray.empty, .slice .sh []], .slice .sh (rows23 [(TValue.mk 2 0 ByteArray.empty)]), .slice .sh []] (res19 x23_) (outs19 x23_), CallOK Try.prog ann 19 [.agg [.int .i64 3, .int .i64 3, .int .i64 1, .int .i64 0, .int .i64 0, .int .i64 0, .str ByteArray.empty, .int .i64 3, .int .i64 0, .int .i64 4, .int .i64 5, .str ByteArray.empty, .slice .sh []], .slice .sh (rows23 [(TValue.mk 4 3 ByteArray.empty)]), .slice .sh []] (res19 true) (outs19 true), AV.slice (.own 29) ([(TPredicate.mk 3 3 (TOperand.mk 1 0 (TValue.mk 0 0 ByteArray.empty)) (TOperand.mk 3 0 (TValue.mk 4 5 ByteArray.empty)) [])].map enc28) = .slice (.own 29) (rows28 [(TPredicate.mk 3 3 (TOperand.mk 1 0 (TValue.mk 0 0 ByteArray.empty)) (TOperand.mk 3 0 (TValue.mk 4 5 ByteArray.empty)) [])])]) (by kernel_rfl) ⟨congrArg AV.bool c3_, R30.lenOb x33_, ev25 n _ _ hx33_, ev19 n _ _ _ _ hx29_, congrArg AV.bool c1_, ev19 n _ _ _ _ hx23_, ev19 n _ _ _ _ hx19_, R27.build1 [(TPredicate.mk 3 3 (TOperand.mk 1 0 (TValue.mk 0 0 ByteArray.empty)) (TOperand.mk 3 0 (TValue.mk 4 5 ByteArray.empty)) [])], trivial⟩
      ·
        subst c2_
        have e_ := Option.some.inj h6_
        subst e_
        exact run_ret (S := sp14_0) (G := []) (sc := [(8, .eq (.slice (.own 29) (rows28 [(TPredicate.mk 3 3 (TOperand.mk 1 0 (TValue.mk 0 0 ByteArray.empty)) (TOperand.mk 3 0 (TValue.mk 4 5 ByteArray.empty)) [])]))), (9, .call 19 (res19 true) (outs19 true)), (3, .call 19 (res19 x23_) (outs19 x23_)), (0, .eq (.bool true)), (4, .call 19 (res19 false) (outs19 false))]) (obs := [CallOK Try.prog ann 19 [.agg [.int .i64 6, .int .i64 0, .int .i64 0, .int .i64 0, .int .i64 0, .int .i64 0, .str ByteArray.empty, .int .i64 0, .int .i64 0, .int .i64 0, .int .i64 0, .str ByteArray.empty, .slice .sh (rows28 [(TPredicate.mk 3 3 (TOperand.mk 1 0 (TValue.mk 0 0 ByteArray.empty)) (TOperand.mk 3 0 (TValue.mk 4 5 ByteArray.empty)) [])])], .slice .sh (rows23 [(TValue.mk 2 0 ByteArray.empty)]), .slice .sh []] (res19 false) (outs19 false), AV.bool (!x23_) = .bool true, CallOK Try.prog ann 19 [.agg [.int .i64 3, .int .i64 3, .int .i64 1, .int .i64 0, .int .i64 0, .int .i64 0, .str ByteArray.empty, .int .i64 3, .int .i64 0, .int .i64 4, .int .i64 5, .str ByteArray.empty, .slice .sh []], .slice .sh (rows23 [(TValue.mk 2 0 ByteArray.empty)]), .slice .sh []] (res19 x23_) (outs19 x23_), CallOK Try.prog ann 19 [.agg [.int .i64 3, .int .i64 3, .int .i64 1, .int .i64 0, .int .i64 0, .int .i64 0, .str ByteArray.empty, .int .i64 3, .int .i64 0, .int .i64 4, .int .i64 5, .str ByteArray.empty, .slice .sh []], .slice .sh (rows23 [(TValue.mk 4 3 ByteArray.empty)]), .slice .sh []] (res19 true) (outs19 true), AV.slice (.own 29) ([(TPredicate.mk 3 3 (TOperand.mk 1 0 (TValue.mk 0 0 ByteArray.empty)) (TOperand.mk 3 0 (TValue.mk 4 5 ByteArray.empty)) [])].map enc28) = .slice (.own 29) (rows28 [(TPredicate.mk 3 3 (TOperand.mk 1 0 (TValue.mk 0 0 ByteArray.empty)) (TOperand.mk 3 0 (TValue.mk 4 5 ByteArray.empty)) [])])]) (by kernel_rfl) ⟨ev19 n _ _ _ _ hx29_, congrArg AV.bool c1_, ev19 n _ _ _ _ hx23_, ev19 n _ _ _ _ hx19_, R27.build1 [(TPredicate.mk 3 3 (TOperand.mk 1 0 (TValue.mk 0 0 ByteArray.empty)) (TOperand.mk 3 0 (TValue.mk 4 5 ByteArray.empty)) [])], trivial⟩
    ·
      have e_ := Option.some.inj h4_
      subst e_
      exact run_ret (S := sp14_0) (G := []) (sc := [(8, .eq (.slice (.own 29) (rows28 [(TPredicate.mk 3 3 (TOperand.mk 1 0 (TValue.mk 0 0 ByteArray.empty)) (TOperand.mk 3 0 (TValue.mk 4 5 ByteArray.empty)) [])]))), (9, .call 19 (res19 true) (outs19 true)), (3, .call 19 (res19 x23_) (outs19 x23_)), (0, .eq (.bool false))]) (obs := [AV.bool (!x23_) = .bool false, CallOK Try.prog ann 19 [.agg [.int .i64 3, .int .i64 3, .int .i64 1, .int .i64 0, .int .i64 0, .int .i64 0, .str ByteArray.empty, .int .i64 3, .int .i64 0, .int .i64 4, .int .i64 5, .str ByteArray.empty, .slice .sh []], .slice .sh (rows23 [(TValue.mk 2 0 ByteArray.empty)]), .slice .sh []] (res19 x23_) (outs19 x23_), CallOK Try.prog ann 19 [.agg [.int .i64 3, .int .i64 3, .int .i64 1, .int .i64 0, .int .i64 0, .int .i64 0, .str ByteArray.empty, .int .i64 3, .int .i64 0, .int .i64 4, .int .i64 5, .str ByteArray.empty, .slice .sh []], .slice .sh (rows23 [(TValue.mk 4 3 ByteArray.empty)]), .slice .sh []] (res19 true) (outs19 true), AV.slice (.own 29) ([(TPredicate.mk 3 3 (TOperand.mk 1 0 (TValue.mk 0 0 ByteArray.empty)) (TOperand.mk 3 0 (TValue.mk 4 5 ByteArray.empty)) [])].map enc28) = .slice (.own 29) (rows28 [(TPredicate.mk 3 3 (TOperand.mk 1 0 (TValue.mk 0 0 ByteArray.empty)) (TOperand.mk 3 0 (TValue.mk 4 5 ByteArray.empty)) [])])]) (by kernel_rfl) ⟨congrArg AV.bool c1_, ev19 n _ _ _ _ hx23_, ev19 n _ _ _ _ hx19_, R27.build1 [(TPredicate.mk 3 3 (TOperand.mk 1 0 (TValue.mk 0 0 ByteArray.empty)) (TOperand.mk 3 0 (TValue.mk 4 5 ByteArray.empty)) [])], trivial⟩
  ·
    subst c0_
    have e_ := Option.some.inj h2_
    subst e_
    exact run_ret (S := sp14_0) (G := []) (sc := [(8, .eq (.slice (.own 29) (rows28 [(TPredicate.mk 3 3 (TOperand.mk 1 0 (TValue.mk 0 0 ByteArray.empty)) (TOperand.mk 3 0 (TValue.mk 4 5 ByteArray.empty)) [])]))), (9, .call 19 (res19 false) (outs19 false))]) (obs := [CallOK Try.prog ann 19 [.agg [.int .i64 3, .int .i64 3, .int .i64 1, .int .i64 0, .int .i64 0, .int .i64 0, .str ByteArray.empty, .int .i64 3, .int .i64 0, .int .i64 4, .int .i64 5, .str ByteArray.empty, .slice .sh []], .slice .sh (rows23 [(TValue.mk 4 3 ByteArray.empty)]), .slice .sh []] (res19 false) (outs19 false), AV.slice (.own 29) ([(TPredicate.mk 3 3 (TOperand.mk 1 0 (TValue.mk 0 0 ByteArray.empty)) (TOperand.mk 3 0 (TValue.mk 4 5 ByteArray.empty)) [])].map enc28) = .slice (.own 29) (rows28 [(TPredicate.mk 3 3 (TOperand.mk 1 0 (TValue.mk 0 0 ByteArray.empty)) (TOperand.mk 3 0 (TValue.mk 4 5 ByteArray.empty)) [])])]) (by kernel_rfl) ⟨ev19 n _ _ _ _ hx19_, R27.build1 [(TPredicate.mk 3 3 (TOperand.mk 1 0 (TValue.mk 0 0 ByteArray.empty)) (TOperand.mk 3 0 (TValue.mk 4 5 ByteArray.empty)) [])], trivial⟩

def F14 (n : Nat)  : Option Bool := B14_0 n
theorem ev14 (n : Nat)  (r : Bool) (h : F14 n = some r) : CallOK Try.prog ann 14 [] (res14 r) (outs14 r) :=
  call_of_at (E := e14) (s := st14_0) body14 Try.func14 (by kernel_rfl) (by kernel_rfl) (by kernel_rfl) (by kernel_rfl) (by kernel_rfl) (emptyOK_of (by kernel_rfl)) (by kernel_rfl) (b14_0 n r h)

end Go.Proofs.Ytalbakjfbgkjjaa
