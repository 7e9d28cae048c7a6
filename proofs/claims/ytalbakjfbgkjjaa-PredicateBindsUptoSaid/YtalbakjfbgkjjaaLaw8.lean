/- A law as a plain function, and that the program answers as it does; written by a program (comp.py). -/
import Derived.Test.YtalbakjfbgkjjaaTop0
set_option maxRecDepth 100000
set_option linter.all false
namespace Go.Proofs.Ytalbakjfbgkjjaa
open Go.Abs

/-- partsync/partsynclaw05.PredicateBinds -/
noncomputable def e8 : Env := { P := Try.prog, ann := ann, f := 8, fn := Try.f8, ptrs := [], rets := [(8, .same)] }
def st8_0 (codes0 : (List Int)) (raw1 : TPredicate) (params2 : (List TValue)) (others3 : (List TValue)) : LS := ⟨[(0, .slice .sh (rows5 codes0)), (1, .agg (enc28 raw1)), (2, .slice .sh (rows23 params2)), (3, .slice .sh (rows23 others3))], []⟩
def sp8_0 : Stops := []
def B8_0 (n : Nat) (codes0 : (List Int)) (raw1 : TPredicate) (params2 : (List TValue)) (others3 : (List TValue)) : Option Bool :=
  (F10 n codes0 160).bind fun x4_ =>
  (F11 n x4_ 4).bind fun x7_ =>
  (F11 n x7_.2 3).bind fun x9_ =>
  (F12 n x9_.2 x7_.1 x9_.1 3).bind fun x15_ =>
  (F17 n x15_.2 x7_.1 0 3).bind fun x20_ =>
  (F18 n x20_.2 x9_.1).bind fun x23_ =>
  (F28 n x15_.1 x23_.1).bind fun x28_ =>
  (F14 n ).bind fun x31_ =>
  if x31_ then
    (F15 n x7_.1 [] x28_).bind fun x35_ =>
    if x35_ == 0 then
      (F19 n x28_ x20_.1 others3).bind fun x42_ =>
      (F19 n x15_.1 x20_.1 x23_.1).bind fun x46_ =>
      if x42_ == x46_ then
        (F28 n raw1 params2).bind fun x52_ =>
        (F30 n raw1 params2).bind fun x55_ =>
        (F29 n x52_ x55_).bind fun x56_ =>
        if x56_ then
          (F30 n x15_.1 x23_.1).bind fun x62_ =>
          (F29 n x28_ x62_).bind fun x63_ =>
          some x63_
        else
          some false
      else
        some false
    else
      some false
  else
    some false

theorem b8_0 (n : Nat) (codes0 : (List Int)) (raw1 : TPredicate) (params2 : (List TValue)) (others3 : (List TValue)) (r : Bool) (h : B8_0 n codes0 raw1 params2 others3 = some r) : At e8 [] (st8_0 codes0 raw1 params2 others3) (res8 r) (outs8 r) := by
  unfold B8_0 at h
  refine bind_elim h (fun x4_ hx4_ h1_ => ?_)
  refine bind_elim h1_ (fun x7_ hx7_ h2_ => ?_)
  refine bind_elim h2_ (fun x9_ hx9_ h3_ => ?_)
  refine bind_elim h3_ (fun x15_ hx15_ h4_ => ?_)
  refine bind_elim h4_ (fun x20_ hx20_ h5_ => ?_)
  refine bind_elim h5_ (fun x23_ hx23_ h6_ => ?_)
  refine bind_elim h6_ (fun x28_ hx28_ h7_ => ?_)
  refine bind_elim h7_ (fun x31_ hx31_ h8_ => ?_)
  refine ite_elim h8_ (fun c0_ h9_ => ?_) (fun c0_ h9_ => ?_)
  ·
    subst c0_
    refine bind_elim h9_ (fun x35_ hx35_ h10_ => ?_)
    refine ite_elim h10_ (fun c1_ h11_ => ?_) (fun c1_ h11_ => ?_)
    ·
      refine bind_elim h11_ (fun x42_ hx42_ h12_ => ?_)
      refine bind_elim h12_ (fun x46_ hx46_ h13_ => ?_)
      refine ite_elim h13_ (fun c2_ h14_ => ?_) (fun c2_ h14_ => ?_)
      ·
        refine bind_elim h14_ (fun x52_ hx52_ h15_ => ?_)
        refine bind_elim h15_ (fun x55_ hx55_ h16_ => ?_)
        refine bind_elim h16_ (fun x56_ hx56_ h17_ => ?_)
        refine ite_elim h17_ (fun c3_ h18_ => ?_) (fun c3_ h18_ => ?_)
        ·
          subst c3_
          refine bind_elim h18_ (fun x62_ hx62_ h19_ => ?_)
          refine bind_elim h19_ (fun x63_ hx63_ h20_ => ?_)
          have e_ := Option.some.inj h20_
          subst e_
          exact run_ret (S := sp8_0) (sc := [(3, .call 10 (res10 x4_) (outs10 x4_)), (2, .call 11 (res11 x7_) (outs11 x7_)), (1, .call 11 (res11 x9_) (outs11 x9_)), (5, .call 12 (res12 x15_) (outs12 x15_)), (4, .call 17 (res17 x20_) (outs17 x20_)), (2, .call 18 (res18 x23_) (outs18 x23_)), (4, .call 28 (res28 x28_) (outs28 x28_)), (2, .call 14 (res14 true) (outs14 true)), (3, .call 15 (res15 x35_) (outs15 x35_)), (0, .eq (.bool true)), (5, .call 19 (res19 x42_) (outs19 x42_)), (3, .call 19 (res19 x46_) (outs19 x46_)), (0, .eq (.bool true)), (4, .call 28 (res28 x52_) (outs28 x52_)), (2, .call 30 (res30 x55_) (outs30 x55_)), (0, .call 29 (res29 true) (outs29 true)), (5, .call 30 (res30 x62_) (outs30 x62_)), (0, .call 29 (res29 x63_) (outs29 x63_))]) (obs := [CallOK Try.prog ann 29 [.agg (enc28 x28_), .agg (enc28 x62_)] (res29 x63_) (outs29 x63_), CallOK Try.prog ann 30 [.agg (enc28 x15_.1), .slice .sh (rows23 x23_.1)] (res30 x62_) (outs30 x62_), CallOK Try.prog ann 29 [.agg (enc28 x52_), .agg (enc28 x55_)] (res29 true) (outs29 true), CallOK Try.prog ann 30 [.agg (enc28 raw1), .slice .sh (rows23 params2)] (res30 x55_) (outs30 x55_), CallOK Try.prog ann 28 [.agg (enc28 raw1), .slice .sh (rows23 params2)] (res28 x52_) (outs28 x52_), AV.bool (x42_ == x46_) = .bool true, CallOK Try.prog ann 19 [.agg (enc28 x15_.1), .slice .sh (rows23 x20_.1), .slice .sh (rows23 x23_.1)] (res19 x46_) (outs19 x46_), CallOK Try.prog ann 19 [.agg (enc28 x28_), .slice .sh (rows23 x20_.1), .slice .sh (rows23 others3)] (res19 x42_) (outs19 x42_), AV.bool (x35_ == 0) = .bool true, CallOK Try.prog ann 15 [.slice .sh (rows3 x7_.1), .slice .sh [], .agg (enc28 x28_)] (res15 x35_) (outs15 x35_), CallOK Try.prog ann 14 [] (res14 true) (outs14 true), CallOK Try.prog ann 28 [.agg (enc28 x15_.1), .slice .sh (rows23 x23_.1)] (res28 x28_) (outs28 x28_), CallOK Try.prog ann 18 [.ptr (enc57 x20_.2), .slice .sh (rows3 x9_.1)] (res18 x23_) (outs18 x23_), CallOK Try.prog ann 17 [.ptr (enc57 x15_.2), .slice .sh (rows3 x7_.1), .int .i64 0, .int .i64 3] (res17 x20_) (outs17 x20_), CallOK Try.prog ann 12 [.ptr (enc57 x9_.2), .slice .sh (rows3 x7_.1), .slice .sh (rows3 x9_.1), .int .i64 3] (res12 x15_) (outs12 x15_), CallOK Try.prog ann 11 [.ptr (enc57 x7_.2), .int .i64 3] (res11 x9_) (outs11 x9_), CallOK Try.prog ann 11 [.ptr (enc57 x4_), .int .i64 4] (res11 x7_) (outs11 x7_), CallOK Try.prog ann 10 [.slice .sh (rows5 codes0), .int .i64 160] (res10 x4_) (outs10 x4_)]) (by kernel_rfl) ⟨ev29 n _ _ _ hx63_, ev30 n _ _ _ hx62_, ev29 n _ _ _ hx56_, ev30 n _ _ _ hx55_, ev28 n _ _ _ hx52_, congrArg AV.bool c2_, ev19 n _ _ _ _ hx46_, ev19 n _ _ _ _ hx42_, congrArg AV.bool c1_, ev15 n _ _ _ _ hx35_, ev14 n  _ hx31_, ev28 n _ _ _ hx28_, ev18 n _ _ _ hx23_, ev17 n _ _ _ _ _ hx20_, ev12 n _ _ _ _ _ hx15_, ev11 n _ _ _ hx9_, ev11 n _ _ _ hx7_, ev10 n _ _ _ hx4_, trivial⟩
        ·
          subst c3_
          have e_ := Option.some.inj h18_
          subst e_
          exact run_ret (S := sp8_0) (sc := [(3, .call 10 (res10 x4_) (outs10 x4_)), (2, .call 11 (res11 x7_) (outs11 x7_)), (1, .call 11 (res11 x9_) (outs11 x9_)), (5, .call 12 (res12 x15_) (outs12 x15_)), (4, .call 17 (res17 x20_) (outs17 x20_)), (2, .call 18 (res18 x23_) (outs18 x23_)), (4, .call 28 (res28 x28_) (outs28 x28_)), (2, .call 14 (res14 true) (outs14 true)), (3, .call 15 (res15 x35_) (outs15 x35_)), (0, .eq (.bool true)), (5, .call 19 (res19 x42_) (outs19 x42_)), (3, .call 19 (res19 x46_) (outs19 x46_)), (0, .eq (.bool true)), (4, .call 28 (res28 x52_) (outs28 x52_)), (2, .call 30 (res30 x55_) (outs30 x55_)), (0, .call 29 (res29 false) (outs29 false))]) (obs := [CallOK Try.prog ann 29 [.agg (enc28 x52_), .agg (enc28 x55_)] (res29 false) (outs29 false), CallOK Try.prog ann 30 [.agg (enc28 raw1), .slice .sh (rows23 params2)] (res30 x55_) (outs30 x55_), CallOK Try.prog ann 28 [.agg (enc28 raw1), .slice .sh (rows23 params2)] (res28 x52_) (outs28 x52_), AV.bool (x42_ == x46_) = .bool true, CallOK Try.prog ann 19 [.agg (enc28 x15_.1), .slice .sh (rows23 x20_.1), .slice .sh (rows23 x23_.1)] (res19 x46_) (outs19 x46_), CallOK Try.prog ann 19 [.agg (enc28 x28_), .slice .sh (rows23 x20_.1), .slice .sh (rows23 others3)] (res19 x42_) (outs19 x42_), AV.bool (x35_ == 0) = .bool true, CallOK Try.prog ann 15 [.slice .sh (rows3 x7_.1), .slice .sh [], .agg (enc28 x28_)] (res15 x35_) (outs15 x35_), CallOK Try.prog ann 14 [] (res14 true) (outs14 true), CallOK Try.prog ann 28 [.agg (enc28 x15_.1), .slice .sh (rows23 x23_.1)] (res28 x28_) (outs28 x28_), CallOK Try.prog ann 18 [.ptr (enc57 x20_.2), .slice .sh (rows3 x9_.1)] (res18 x23_) (outs18 x23_), CallOK Try.prog ann 17 [.ptr (enc57 x15_.2), .slice .sh (rows3 x7_.1), .int .i64 0, .int .i64 3] (res17 x20_) (outs17 x20_), CallOK Try.prog ann 12 [.ptr (enc57 x9_.2), .slice .sh (rows3 x7_.1), .slice .sh (rows3 x9_.1), .int .i64 3] (res12 x15_) (outs12 x15_), CallOK Try.prog ann 11 [.ptr (enc57 x7_.2), .int .i64 3] (res11 x9_) (outs11 x9_), CallOK Try.prog ann 11 [.ptr (enc57 x4_), .int .i64 4] (res11 x7_) (outs11 x7_), CallOK Try.prog ann 10 [.slice .sh (rows5 codes0), .int .i64 160] (res10 x4_) (outs10 x4_)]) (by kernel_rfl) ⟨ev29 n _ _ _ hx56_, ev30 n _ _ _ hx55_, ev28 n _ _ _ hx52_, congrArg AV.bool c2_, ev19 n _ _ _ _ hx46_, ev19 n _ _ _ _ hx42_, congrArg AV.bool c1_, ev15 n _ _ _ _ hx35_, ev14 n  _ hx31_, ev28 n _ _ _ hx28_, ev18 n _ _ _ hx23_, ev17 n _ _ _ _ _ hx20_, ev12 n _ _ _ _ _ hx15_, ev11 n _ _ _ hx9_, ev11 n _ _ _ hx7_, ev10 n _ _ _ hx4_, trivial⟩
      ·
        have e_ := Option.some.inj h14_
        subst e_
        exact run_ret (S := sp8_0) (sc := [(3, .call 10 (res10 x4_) (outs10 x4_)), (2, .call 11 (res11 x7_) (outs11 x7_)), (1, .call 11 (res11 x9_) (outs11 x9_)), (5, .call 12 (res12 x15_) (outs12 x15_)), (4, .call 17 (res17 x20_) (outs17 x20_)), (2, .call 18 (res18 x23_) (outs18 x23_)), (4, .call 28 (res28 x28_) (outs28 x28_)), (2, .call 14 (res14 true) (outs14 true)), (3, .call 15 (res15 x35_) (outs15 x35_)), (0, .eq (.bool true)), (5, .call 19 (res19 x42_) (outs19 x42_)), (3, .call 19 (res19 x46_) (outs19 x46_)), (0, .eq (.bool false))]) (obs := [AV.bool (x42_ == x46_) = .bool false, CallOK Try.prog ann 19 [.agg (enc28 x15_.1), .slice .sh (rows23 x20_.1), .slice .sh (rows23 x23_.1)] (res19 x46_) (outs19 x46_), CallOK Try.prog ann 19 [.agg (enc28 x28_), .slice .sh (rows23 x20_.1), .slice .sh (rows23 others3)] (res19 x42_) (outs19 x42_), AV.bool (x35_ == 0) = .bool true, CallOK Try.prog ann 15 [.slice .sh (rows3 x7_.1), .slice .sh [], .agg (enc28 x28_)] (res15 x35_) (outs15 x35_), CallOK Try.prog ann 14 [] (res14 true) (outs14 true), CallOK Try.prog ann 28 [.agg (enc28 x15_.1), .slice .sh (rows23 x23_.1)] (res28 x28_) (outs28 x28_), CallOK Try.prog ann 18 [.ptr (enc57 x20_.2), .slice .sh (rows3 x9_.1)] (res18 x23_) (outs18 x23_), CallOK Try.prog ann 17 [.ptr (enc57 x15_.2), .slice .sh (rows3 x7_.1), .int .i64 0, .int .i64 3] (res17 x20_) (outs17 x20_), CallOK Try.prog ann 12 [.ptr (enc57 x9_.2), .slice .sh (rows3 x7_.1), .slice .sh (rows3 x9_.1), .int .i64 3] (res12 x15_) (outs12 x15_), CallOK Try.prog ann 11 [.ptr (enc57 x7_.2), .int .i64 3] (res11 x9_) (outs11 x9_), CallOK Try.prog ann 11 [.ptr (enc57 x4_), .int .i64 4] (res11 x7_) (outs11 x7_), CallOK Try.prog ann 10 [.slice .sh (rows5 codes0), .int .i64 160] (res10 x4_) (outs10 x4_)]) (by kernel_rfl) ⟨congrArg AV.bool c2_, ev19 n _ _ _ _ hx46_, ev19 n _ _ _ _ hx42_, congrArg AV.bool c1_, ev15 n _ _ _ _ hx35_, ev14 n  _ hx31_, ev28 n _ _ _ hx28_, ev18 n _ _ _ hx23_, ev17 n _ _ _ _ _ hx20_, ev12 n _ _ _ _ _ hx15_, ev11 n _ _ _ hx9_, ev11 n _ _ _ hx7_, ev10 n _ _ _ hx4_, trivial⟩
    ·
      have e_ := Option.some.inj h11_
      subst e_
      exact run_ret (S := sp8_0) (sc := [(3, .call 10 (res10 x4_) (outs10 x4_)), (2, .call 11 (res11 x7_) (outs11 x7_)), (1, .call 11 (res11 x9_) (outs11 x9_)), (5, .call 12 (res12 x15_) (outs12 x15_)), (4, .call 17 (res17 x20_) (outs17 x20_)), (2, .call 18 (res18 x23_) (outs18 x23_)), (4, .call 28 (res28 x28_) (outs28 x28_)), (2, .call 14 (res14 true) (outs14 true)), (3, .call 15 (res15 x35_) (outs15 x35_)), (0, .eq (.bool false))]) (obs := [AV.bool (x35_ == 0) = .bool false, CallOK Try.prog ann 15 [.slice .sh (rows3 x7_.1), .slice .sh [], .agg (enc28 x28_)] (res15 x35_) (outs15 x35_), CallOK Try.prog ann 14 [] (res14 true) (outs14 true), CallOK Try.prog ann 28 [.agg (enc28 x15_.1), .slice .sh (rows23 x23_.1)] (res28 x28_) (outs28 x28_), CallOK Try.prog ann 18 [.ptr (enc57 x20_.2), .slice .sh (rows3 x9_.1)] (res18 x23_) (outs18 x23_), CallOK Try.prog ann 17 [.ptr (enc57 x15_.2), .slice .sh (rows3 x7_.1), .int .i64 0, .int .i64 3] (res17 x20_) (outs17 x20_), CallOK Try.prog ann 12 [.ptr (enc57 x9_.2), .slice .sh (rows3 x7_.1), .slice .sh (rows3 x9_.1), .int .i64 3] (res12 x15_) (outs12 x15_), CallOK Try.prog ann 11 [.ptr (enc57 x7_.2), .int .i64 3] (res11 x9_) (outs11 x9_), CallOK Try.prog ann 11 [.ptr (enc57 x4_), .int .i64 4] (res11 x7_) (outs11 x7_), CallOK Try.prog ann 10 [.slice .sh (rows5 codes0), .int .i64 160] (res10 x4_) (outs10 x4_)]) (by kernel_rfl) ⟨congrArg AV.bool c1_, ev15 n _ _ _ _ hx35_, ev14 n  _ hx31_, ev28 n _ _ _ hx28_, ev18 n _ _ _ hx23_, ev17 n _ _ _ _ _ hx20_, ev12 n _ _ _ _ _ hx15_, ev11 n _ _ _ hx9_, ev11 n _ _ _ hx7_, ev10 n _ _ _ hx4_, trivial⟩
  ·
    subst c0_
    have e_ := Option.some.inj h9_
    subst e_
    exact run_ret (S := sp8_0) (sc := [(3, .call 10 (res10 x4_) (outs10 x4_)), (2, .call 11 (res11 x7_) (outs11 x7_)), (1, .call 11 (res11 x9_) (outs11 x9_)), (5, .call 12 (res12 x15_) (outs12 x15_)), (4, .call 17 (res17 x20_) (outs17 x20_)), (2, .call 18 (res18 x23_) (outs18 x23_)), (4, .call 28 (res28 x28_) (outs28 x28_)), (2, .call 14 (res14 false) (outs14 false))]) (obs := [CallOK Try.prog ann 14 [] (res14 false) (outs14 false), CallOK Try.prog ann 28 [.agg (enc28 x15_.1), .slice .sh (rows23 x23_.1)] (res28 x28_) (outs28 x28_), CallOK Try.prog ann 18 [.ptr (enc57 x20_.2), .slice .sh (rows3 x9_.1)] (res18 x23_) (outs18 x23_), CallOK Try.prog ann 17 [.ptr (enc57 x15_.2), .slice .sh (rows3 x7_.1), .int .i64 0, .int .i64 3] (res17 x20_) (outs17 x20_), CallOK Try.prog ann 12 [.ptr (enc57 x9_.2), .slice .sh (rows3 x7_.1), .slice .sh (rows3 x9_.1), .int .i64 3] (res12 x15_) (outs12 x15_), CallOK Try.prog ann 11 [.ptr (enc57 x7_.2), .int .i64 3] (res11 x9_) (outs11 x9_), CallOK Try.prog ann 11 [.ptr (enc57 x4_), .int .i64 4] (res11 x7_) (outs11 x7_), CallOK Try.prog ann 10 [.slice .sh (rows5 codes0), .int .i64 160] (res10 x4_) (outs10 x4_)]) (by kernel_rfl) ⟨ev14 n  _ hx31_, ev28 n _ _ _ hx28_, ev18 n _ _ _ hx23_, ev17 n _ _ _ _ _ hx20_, ev12 n _ _ _ _ _ hx15_, ev11 n _ _ _ hx9_, ev11 n _ _ _ hx7_, ev10 n _ _ _ hx4_, trivial⟩

def F8 (n : Nat) (codes0 : (List Int)) (raw1 : TPredicate) (params2 : (List TValue)) (others3 : (List TValue)) : Option Bool := B8_0 n codes0 raw1 params2 others3
theorem ev8 (n : Nat) (codes0 : (List Int)) (raw1 : TPredicate) (params2 : (List TValue)) (others3 : (List TValue)) (r : Bool) (h : F8 n codes0 raw1 params2 others3 = some r) : CallOK Try.prog ann 8 [.slice .sh (rows5 codes0), .agg (enc28 raw1), .slice .sh (rows23 params2), .slice .sh (rows23 others3)] (res8 r) (outs8 r) :=
  call_of_at (E := e8) (s := st8_0 codes0 raw1 params2 others3) body8 Try.func8 (by kernel_rfl) (by kernel_rfl) (by kernel_rfl) (by kernel_rfl) (by kernel_rfl) (by kernel_rfl) (b8_0 n codes0 raw1 params2 others3 r h)

end Go.Proofs.Ytalbakjfbgkjjaa
