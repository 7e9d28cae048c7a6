/- A law as a plain function, and that the program answers as it does; written by a program (comp.py). -/
import Derived.Test.YtalbakjfbgkjjaaTop0
set_option maxRecDepth 100000
set_option linter.all false
namespace Go.Proofs.Ytalbakjfbgkjjaa
open Go.Abs

/-- partsync/partsynclaw05.PredicateChecks -/
noncomputable def e3 : Env := { P := Try.prog, ann := ann, f := 3, fn := Try.f3, ptrs := [], rets := [(6, .same)] }
def st3_0 (codes0 : (List Int)) (raw1 : TPredicate) (odd2 : (List Int)) : LS := ⟨[(0, .slice .sh (rows5 codes0)), (1, .agg (enc28 raw1)), (2, .slice .sh (rows3 odd2))], []⟩
def sp3_0 : Stops := []
def B3_0 (n : Nat) (codes0 : (List Int)) (raw1 : TPredicate) (odd2 : (List Int)) : Option Bool :=
  (F10 n codes0 120).bind fun x4_ =>
  (F11 n x4_ 4).bind fun x7_ =>
  (F11 n x7_.2 2).bind fun x9_ =>
  (F12 n x9_.2 x7_.1 x9_.1 3).bind fun x15_ =>
  (F13 n x15_.2 x15_.1).bind fun x20_ =>
  (F14 n ).bind fun x23_ =>
  if x23_ then
    (F15 n x7_.1 x9_.1 x15_.1).bind fun x28_ =>
    if x28_ == 0 then
      (F15 n x7_.1 x9_.1 x20_.1).bind fun x35_ =>
      (F16 n x7_.1 x9_.1 x20_.1).bind fun x39_ =>
      if x35_ == x39_ then
        (F15 n x7_.1 x9_.1 raw1).bind fun x46_ =>
        (F16 n x7_.1 x9_.1 raw1).bind fun x50_ =>
        if x46_ == x50_ then
          (F15 n x7_.1 [] x15_.1).bind fun x56_ =>
          (F16 n x7_.1 [] x15_.1).bind fun x59_ =>
          if x56_ == x59_ then
            (F15 n odd2 x9_.1 x15_.1).bind fun x66_ =>
            (F16 n odd2 x9_.1 x15_.1).bind fun x70_ =>
            if x66_ == x70_ then
              (F15 n x7_.1 odd2 x15_.1).bind fun x77_ =>
              (F16 n x7_.1 odd2 x15_.1).bind fun x81_ =>
              some (x77_ == x81_)
            else
              some false
          else
            some false
        else
          some false
      else
        some false
    else
      some false
  else
    some false

theorem b3_0 (n : Nat) (codes0 : (List Int)) (raw1 : TPredicate) (odd2 : (List Int)) (r : Bool) (h : B3_0 n codes0 raw1 odd2 = some r) : At e3 [] (st3_0 codes0 raw1 odd2) (res3 r) (outs3 r) := by
  unfold B3_0 at h
  refine bind_elim h (fun x4_ hx4_ h1_ => ?_)
  refine bind_elim h1_ (fun x7_ hx7_ h2_ => ?_)
  refine bind_elim h2_ (fun x9_ hx9_ h3_ => ?_)
  refine bind_elim h3_ (fun x15_ hx15_ h4_ => ?_)
  refine bind_elim h4_ (fun x20_ hx20_ h5_ => ?_)
  refine bind_elim h5_ (fun x23_ hx23_ h6_ => ?_)
  refine ite_elim h6_ (fun c0_ h7_ => ?_) (fun c0_ h7_ => ?_)
  ·
    subst c0_
    refine bind_elim h7_ (fun x28_ hx28_ h8_ => ?_)
    refine ite_elim h8_ (fun c1_ h9_ => ?_) (fun c1_ h9_ => ?_)
    ·
      refine bind_elim h9_ (fun x35_ hx35_ h10_ => ?_)
      refine bind_elim h10_ (fun x39_ hx39_ h11_ => ?_)
      refine ite_elim h11_ (fun c2_ h12_ => ?_) (fun c2_ h12_ => ?_)
      ·
        refine bind_elim h12_ (fun x46_ hx46_ h13_ => ?_)
        refine bind_elim h13_ (fun x50_ hx50_ h14_ => ?_)
        refine ite_elim h14_ (fun c3_ h15_ => ?_) (fun c3_ h15_ => ?_)
        ·
          refine bind_elim h15_ (fun x56_ hx56_ h16_ => ?_)
          refine bind_elim h16_ (fun x59_ hx59_ h17_ => ?_)
          refine ite_elim h17_ (fun c4_ h18_ => ?_) (fun c4_ h18_ => ?_)
          ·
            refine bind_elim h18_ (fun x66_ hx66_ h19_ => ?_)
            refine bind_elim h19_ (fun x70_ hx70_ h20_ => ?_)
            refine ite_elim h20_ (fun c5_ h21_ => ?_) (fun c5_ h21_ => ?_)
            ·
              refine bind_elim h21_ (fun x77_ hx77_ h22_ => ?_)
              refine bind_elim h22_ (fun x81_ hx81_ h23_ => ?_)
              have e_ := Option.some.inj h23_
              subst e_
              exact run_ret (S := sp3_0) (G := []) (sc := [(3, .call 10 (res10 x4_) (outs10 x4_)), (2, .call 11 (res11 x7_) (outs11 x7_)), (1, .call 11 (res11 x9_) (outs11 x9_)), (5, .call 12 (res12 x15_) (outs12 x15_)), (4, .call 13 (res13 x20_) (outs13 x20_)), (2, .call 14 (res14 true) (outs14 true)), (4, .call 15 (res15 x28_) (outs15 x28_)), (0, .eq (.bool true)), (5, .call 15 (res15 x35_) (outs15 x35_)), (3, .call 16 (res16 x39_) (outs16 x39_)), (0, .eq (.bool true)), (5, .call 15 (res15 x46_) (outs15 x46_)), (3, .call 16 (res16 x50_) (outs16 x50_)), (0, .eq (.bool true)), (4, .call 15 (res15 x56_) (outs15 x56_)), (2, .call 16 (res16 x59_) (outs16 x59_)), (0, .eq (.bool true)), (5, .call 15 (res15 x66_) (outs15 x66_)), (3, .call 16 (res16 x70_) (outs16 x70_)), (0, .eq (.bool true)), (5, .call 15 (res15 x77_) (outs15 x77_)), (3, .call 16 (res16 x81_) (outs16 x81_))]) (obs := [CallOK Try.prog ann 16 [.slice .sh (rows3 x7_.1), .slice .sh (rows3 odd2), .agg (enc28 x15_.1)] (res16 x81_) (outs16 x81_), CallOK Try.prog ann 15 [.slice .sh (rows3 x7_.1), .slice .sh (rows3 odd2), .agg (enc28 x15_.1)] (res15 x77_) (outs15 x77_), AV.bool (x66_ == x70_) = .bool true, CallOK Try.prog ann 16 [.slice .sh (rows3 odd2), .slice .sh (rows3 x9_.1), .agg (enc28 x15_.1)] (res16 x70_) (outs16 x70_), CallOK Try.prog ann 15 [.slice .sh (rows3 odd2), .slice .sh (rows3 x9_.1), .agg (enc28 x15_.1)] (res15 x66_) (outs15 x66_), AV.bool (x56_ == x59_) = .bool true, CallOK Try.prog ann 16 [.slice .sh (rows3 x7_.1), .slice .sh [], .agg (enc28 x15_.1)] (res16 x59_) (outs16 x59_), CallOK Try.prog ann 15 [.slice .sh (rows3 x7_.1), .slice .sh [], .agg (enc28 x15_.1)] (res15 x56_) (outs15 x56_), AV.bool (x46_ == x50_) = .bool true, CallOK Try.prog ann 16 [.slice .sh (rows3 x7_.1), .slice .sh (rows3 x9_.1), .agg (enc28 raw1)] (res16 x50_) (outs16 x50_), CallOK Try.prog ann 15 [.slice .sh (rows3 x7_.1), .slice .sh (rows3 x9_.1), .agg (enc28 raw1)] (res15 x46_) (outs15 x46_), AV.bool (x35_ == x39_) = .bool true, CallOK Try.prog ann 16 [.slice .sh (rows3 x7_.1), .slice .sh (rows3 x9_.1), .agg (enc28 x20_.1)] (res16 x39_) (outs16 x39_), CallOK Try.prog ann 15 [.slice .sh (rows3 x7_.1), .slice .sh (rows3 x9_.1), .agg (enc28 x20_.1)] (res15 x35_) (outs15 x35_), AV.bool (x28_ == 0) = .bool true, CallOK Try.prog ann 15 [.slice .sh (rows3 x7_.1), .slice .sh (rows3 x9_.1), .agg (enc28 x15_.1)] (res15 x28_) (outs15 x28_), CallOK Try.prog ann 14 [] (res14 true) (outs14 true), CallOK Try.prog ann 13 [.ptr (enc57 x15_.2), .agg (enc28 x15_.1)] (res13 x20_) (outs13 x20_), CallOK Try.prog ann 12 [.ptr (enc57 x9_.2), .slice .sh (rows3 x7_.1), .slice .sh (rows3 x9_.1), .int .i64 3] (res12 x15_) (outs12 x15_), CallOK Try.prog ann 11 [.ptr (enc57 x7_.2), .int .i64 2] (res11 x9_) (outs11 x9_), CallOK Try.prog ann 11 [.ptr (enc57 x4_), .int .i64 4] (res11 x7_) (outs11 x7_), CallOK Try.prog ann 10 [.slice .sh (rows5 codes0), .int .i64 120] (res10 x4_) (outs10 x4_)]) (by kernel_rfl) ⟨ev16 n _ _ _ _ hx81_, ev15 n _ _ _ _ hx77_, congrArg AV.bool c5_, ev16 n _ _ _ _ hx70_, ev15 n _ _ _ _ hx66_, congrArg AV.bool c4_, ev16 n _ _ _ _ hx59_, ev15 n _ _ _ _ hx56_, congrArg AV.bool c3_, ev16 n _ _ _ _ hx50_, ev15 n _ _ _ _ hx46_, congrArg AV.bool c2_, ev16 n _ _ _ _ hx39_, ev15 n _ _ _ _ hx35_, congrArg AV.bool c1_, ev15 n _ _ _ _ hx28_, ev14 n  _ hx23_, ev13 n _ _ _ hx20_, ev12 n _ _ _ _ _ hx15_, ev11 n _ _ _ hx9_, ev11 n _ _ _ hx7_, ev10 n _ _ _ hx4_, trivial⟩
            ·
              have e_ := Option.some.inj h21_
              subst e_
              exact run_ret (S := sp3_0) (G := []) (sc := [(3, .call 10 (res10 x4_) (outs10 x4_)), (2, .call 11 (res11 x7_) (outs11 x7_)), (1, .call 11 (res11 x9_) (outs11 x9_)), (5, .call 12 (res12 x15_) (outs12 x15_)), (4, .call 13 (res13 x20_) (outs13 x20_)), (2, .call 14 (res14 true) (outs14 true)), (4, .call 15 (res15 x28_) (outs15 x28_)), (0, .eq (.bool true)), (5, .call 15 (res15 x35_) (outs15 x35_)), (3, .call 16 (res16 x39_) (outs16 x39_)), (0, .eq (.bool true)), (5, .call 15 (res15 x46_) (outs15 x46_)), (3, .call 16 (res16 x50_) (outs16 x50_)), (0, .eq (.bool true)), (4, .call 15 (res15 x56_) (outs15 x56_)), (2, .call 16 (res16 x59_) (outs16 x59_)), (0, .eq (.bool true)), (5, .call 15 (res15 x66_) (outs15 x66_)), (3, .call 16 (res16 x70_) (outs16 x70_)), (0, .eq (.bool false))]) (obs := [AV.bool (x66_ == x70_) = .bool false, CallOK Try.prog ann 16 [.slice .sh (rows3 odd2), .slice .sh (rows3 x9_.1), .agg (enc28 x15_.1)] (res16 x70_) (outs16 x70_), CallOK Try.prog ann 15 [.slice .sh (rows3 odd2), .slice .sh (rows3 x9_.1), .agg (enc28 x15_.1)] (res15 x66_) (outs15 x66_), AV.bool (x56_ == x59_) = .bool true, CallOK Try.prog ann 16 [.slice .sh (rows3 x7_.1), .slice .sh [], .agg (enc28 x15_.1)] (res16 x59_) (outs16 x59_), CallOK Try.prog ann 15 [.slice .sh (rows3 x7_.1), .slice .sh [], .agg (enc28 x15_.1)] (res15 x56_) (outs15 x56_), AV.bool (x46_ == x50_) = .bool true, CallOK Try.prog ann 16 [.slice .sh (rows3 x7_.1), .slice .sh (rows3 x9_.1), .agg (enc28 raw1)] (res16 x50_) (outs16 x50_), CallOK Try.prog ann 15 [.slice .sh (rows3 x7_.1), .slice .sh (rows3 x9_.1), .agg (enc28 raw1)] (res15 x46_) (outs15 x46_), AV.bool (x35_ == x39_) = .bool true, CallOK Try.prog ann 16 [.slice .sh (rows3 x7_.1), .slice .sh (rows3 x9_.1), .agg (enc28 x20_.1)] (res16 x39_) (outs16 x39_), CallOK Try.prog ann 15 [.slice .sh (rows3 x7_.1), .slice .sh (rows3 x9_.1), .agg (enc28 x20_.1)] (res15 x35_) (outs15 x35_), AV.bool (x28_ == 0) = .bool true, CallOK Try.prog ann 15 [.slice .sh (rows3 x7_.1), .slice .sh (rows3 x9_.1), .agg (enc28 x15_.1)] (res15 x28_) (outs15 x28_), CallOK Try.prog ann 14 [] (res14 true) (outs14 true), CallOK Try.prog ann 13 [.ptr (enc57 x15_.2), .agg (enc28 x15_.1)] (res13 x20_) (outs13 x20_), CallOK Try.prog ann 12 [.ptr (enc57 x9_.2), .slice .sh (rows3 x7_.1), .slice .sh (rows3 x9_.1), .int .i64 3] (res12 x15_) (outs12 x15_), CallOK Try.prog ann 11 [.ptr (enc57 x7_.2), .int .i64 2] (res11 x9_) (outs11 x9_), CallOK Try.prog ann 11 [.ptr (enc57 x4_), .int .i64 4] (res11 x7_) (outs11 x7_), CallOK Try.prog ann 10 [.slice .sh (rows5 codes0), .int .i64 120] (res10 x4_) (outs10 x4_)]) (by kernel_rfl) ⟨congrArg AV.bool c5_, ev16 n _ _ _ _ hx70_, ev15 n _ _ _ _ hx66_, congrArg AV.bool c4_, ev16 n _ _ _ _ hx59_, ev15 n _ _ _ _ hx56_, congrArg AV.bool c3_, ev16 n _ _ _ _ hx50_, ev15 n _ _ _ _ hx46_, congrArg AV.bool c2_, ev16 n _ _ _ _ hx39_, ev15 n _ _ _ _ hx35_, congrArg AV.bool c1_, ev15 n _ _ _ _ hx28_, ev14 n  _ hx23_, ev13 n _ _ _ hx20_, ev12 n _ _ _ _ _ hx15_, ev11 n _ _ _ hx9_, ev11 n _ _ _ hx7_, ev10 n _ _ _ hx4_, trivial⟩
          ·
            have e_ := Option.some.inj h18_
            subst e_
            exact run_ret (S := sp3_0) (G := []) (sc := [(3, .call 10 (res10 x4_) (outs10 x4_)), (2, .call 11 (res11 x7_) (outs11 x7_)), (1, .call 11 (res11 x9_) (outs11 x9_)), (5, .call 12 (res12 x15_) (outs12 x15_)), (4, .call 13 (res13 x20_) (outs13 x20_)), (2, .call 14 (res14 true) (outs14 true)), (4, .call 15 (res15 x28_) (outs15 x28_)), (0, .eq (.bool true)), (5, .call 15 (res15 x35_) (outs15 x35_)), (3, .call 16 (res16 x39_) (outs16 x39_)), (0, .eq (.bool true)), (5, .call 15 (res15 x46_) (outs15 x46_)), (3, .call 16 (res16 x50_) (outs16 x50_)), (0, .eq (.bool true)), (4, .call 15 (res15 x56_) (outs15 x56_)), (2, .call 16 (res16 x59_) (outs16 x59_)), (0, .eq (.bool false))]) (obs := [AV.bool (x56_ == x59_) = .bool false, CallOK Try.prog ann 16 [.slice .sh (rows3 x7_.1), .slice .sh [], .agg (enc28 x15_.1)] (res16 x59_) (outs16 x59_), CallOK Try.prog ann 15 [.slice .sh (rows3 x7_.1), .slice .sh [], .agg (enc28 x15_.1)] (res15 x56_) (outs15 x56_), AV.bool (x46_ == x50_) = .bool true, CallOK Try.prog ann 16 [.slice .sh (rows3 x7_.1), .slice .sh (rows3 x9_.1), .agg (enc28 raw1)] (res16 x50_) (outs16 x50_), CallOK Try.prog ann 15 [.slice .sh (rows3 x7_.1), .slice .sh (rows3 x9_.1), .agg (enc28 raw1)] (res15 x46_) (outs15 x46_), AV.bool (x35_ == x39_) = .bool true, CallOK Try.prog ann 16 [.slice .sh (rows3 x7_.1), .slice .sh (rows3 x9_.1), .agg (enc28 x20_.1)] (res16 x39_) (outs16 x39_), CallOK Try.prog ann 15 [.slice .sh (rows3 x7_.1), .slice .sh (rows3 x9_.1), .agg (enc28 x20_.1)] (res15 x35_) (outs15 x35_), AV.bool (x28_ == 0) = .bool true, CallOK Try.prog ann 15 [.slice .sh (rows3 x7_.1), .slice .sh (rows3 x9_.1), .agg (enc28 x15_.1)] (res15 x28_) (outs15 x28_), CallOK Try.prog ann 14 [] (res14 true) (outs14 true), CallOK Try.prog ann 13 [.ptr (enc57 x15_.2), .agg (enc28 x15_.1)] (res13 x20_) (outs13 x20_), CallOK Try.prog ann 12 [.ptr (enc57 x9_.2), .slice .sh (rows3 x7_.1), .slice .sh (rows3 x9_.1), .int .i64 3] (res12 x15_) (outs12 x15_), CallOK Try.prog ann 11 [.ptr (enc57 x7_.2), .int .i64 2] (res11 x9_) (outs11 x9_), CallOK Try.prog ann 11 [.ptr (enc57 x4_), .int .i64 4] (res11 x7_) (outs11 x7_), CallOK Try.prog ann 10 [.slice .sh (rows5 codes0), .int .i64 120] (res10 x4_) (outs10 x4_)]) (by kernel_rfl) ⟨congrArg AV.bool c4_, ev16 n _ _ _ _ hx59_, ev15 n _ _ _ _ hx56_, congrArg AV.bool c3_, ev16 n _ _ _ _ hx50_, ev15 n _ _ _ _ hx46_, congrArg AV.bool c2_, ev16 n _ _ _ _ hx39_, ev15 n _ _ _ _ hx35_, congrArg AV.bool c1_, ev15 n _ _ _ _ hx28_, ev14 n  _ hx23_, ev13 n _ _ _ hx20_, ev12 n _ _ _ _ _ hx15_, ev11 n _ _ _ hx9_, ev11 n _ _ _ hx7_, ev10 n _ _ _ hx4_, trivial⟩
        ·
          have e_ := Option.some.inj h15_
          subst e_
          exact run_ret (S := sp3_0) (G := []) (sc := [(3, .call 10 (res10 x4_) (outs10 x4_)), (2, .call 11 (res11 x7_) (outs11 x7_)), (1, .call 11 (res11 x9_) (outs11 x9_)), (5, .call 12 (res12 x15_) (outs12 x15_)), (4, .call 13 (res13 x20_) (outs13 x20_)), (2, .call 14 (res14 true) (outs14 true)), (4, .call 15 (res15 x28_) (outs15 x28_)), (0, .eq (.bool true)), (5, .call 15 (res15 x35_) (outs15 x35_)), (3, .call 16 (res16 x39_) (outs16 x39_)), (0, .eq (.bool true)), (5, .call 15 (res15 x46_) (outs15 x46_)), (3, .call 16 (res16 x50_) (outs16 x50_)), (0, .eq (.bool false))]) (obs := [AV.bool (x46_ == x50_) = .bool false, CallOK Try.prog ann 16 [.slice .sh (rows3 x7_.1), .slice .sh (rows3 x9_.1), .agg (enc28 raw1)] (res16 x50_) (outs16 x50_), CallOK Try.prog ann 15 [.slice .sh (rows3 x7_.1), .slice .sh (rows3 x9_.1), .agg (enc28 raw1)] (res15 x46_) (outs15 x46_), AV.bool (x35_ == x39_) = .bool true, CallOK Try.prog ann 16 [.slice .sh (rows3 x7_.1), .slice .sh (rows3 x9_.1), .agg (enc28 x20_.1)] (res16 x39_) (outs16 x39_), CallOK Try.prog ann 15 [.slice .sh (rows3 x7_.1), .slice .sh (rows3 x9_.1), .agg (enc28 x20_.1)] (res15 x35_) (outs15 x35_), AV.bool (x28_ == 0) = .bool true, CallOK Try.prog ann 15 [.slice .sh (rows3 x7_.1), .slice .sh (rows3 x9_.1), .agg (enc28 x15_.1)] (res15 x28_) (outs15 x28_), CallOK Try.prog ann 14 [] (res14 true) (outs14 true), CallOK Try.prog ann 13 [.ptr (enc57 x15_.2), .agg (enc28 x15_.1)] (res13 x20_) (outs13 x20_), CallOK Try.prog ann 12 [.ptr (enc57 x9_.2), .slice .sh (rows3 x7_.1), .slice .sh (rows3 x9_.1), .int .i64 3] (res12 x15_) (outs12 x15_), CallOK Try.prog ann 11 [.ptr (enc57 x7_.2), .int .i64 2] (res11 x9_) (outs11 x9_), CallOK Try.prog ann 11 [.ptr (enc57 x4_), .int .i64 4] (res11 x7_) (outs11 x7_), CallOK Try.prog ann 10 [.slice .sh (rows5 codes0), .int .i64 120] (res10 x4_) (outs10 x4_)]) (by kernel_rfl) ⟨congrArg AV.bool c3_, ev16 n _ _ _ _ hx50_, ev15 n _ _ _ _ hx46_, congrArg AV.bool c2_, ev16 n _ _ _ _ hx39_, ev15 n _ _ _ _ hx35_, congrArg AV.bool c1_, ev15 n _ _ _ _ hx28_, ev14 n  _ hx23_, ev13 n _ _ _ hx20_, ev12 n _ _ _ _ _ hx15_, ev11 n _ _ _ hx9_, ev11 n _ _ _ hx7_, ev10 n _ _ _ hx4_, trivial⟩
      ·
        have e_ := Option.some.inj h12_
        subst e_
        exact run_ret (S := sp3_0) (G := []) (sc := [(3, .call 10 (res10 x4_) (outs10 x4_)), (2, .call 11 (res11 x7_) (outs11 x7_)), (1, .call 11 (res11 x9_) (outs11 x9_)), (5, .call 12 (res12 x15_) (outs12 x15_)), (4, .call 13 (res13 x20_) (outs13 x20_)), (2, .call 14 (res14 true) (outs14 true)), (4, .call 15 (res15 x28_) (outs15 x28_)), (0, .eq (.bool true)), (5, .call 15 (res15 x35_) (outs15 x35_)), (3, .call 16 (res16 x39_) (outs16 x39_)), (0, .eq (.bool false))]) (obs := [AV.bool (x35_ == x39_) = .bool false, CallOK Try.prog ann 16 [.slice .sh (rows3 x7_.1), .slice .sh (rows3 x9_.1), .agg (enc28 x20_.1)] (res16 x39_) (outs16 x39_), CallOK Try.prog ann 15 [.slice .sh (rows3 x7_.1), .slice .sh (rows3 x9_.1), .agg (enc28 x20_.1)] (res15 x35_) (outs15 x35_), AV.bool (x28_ == 0) = .bool true, CallOK Try.prog ann 15 [.slice .sh (rows3 x7_.1), .slice .sh (rows3 x9_.1), .agg (enc28 x15_.1)] (res15 x28_) (outs15 x28_), CallOK Try.prog ann 14 [] (res14 true) (outs14 true), CallOK Try.prog ann 13 [.ptr (enc57 x15_.2), .agg (enc28 x15_.1)] (res13 x20_) (outs13 x20_), CallOK Try.prog ann 12 [.ptr (enc57 x9_.2), .slice .sh (rows3 x7_.1), .slice .sh (rows3 x9_.1), .int .i64 3] (res12 x15_) (outs12 x15_), CallOK Try.prog ann 11 [.ptr (enc57 x7_.2), .int .i64 2] (res11 x9_) (outs11 x9_), CallOK Try.prog ann 11 [.ptr (enc57 x4_), .int .i64 4] (res11 x7_) (outs11 x7_), CallOK Try.prog ann 10 [.slice .sh (rows5 codes0), .int .i64 120] (res10 x4_) (outs10 x4_)]) (by kernel_rfl) ⟨congrArg AV.bool c2_, ev16 n _ _ _ _ hx39_, ev15 n _ _ _ _ hx35_, congrArg AV.bool c1_, ev15 n _ _ _ _ hx28_, ev14 n  _ hx23_, ev13 n _ _ _ hx20_, ev12 n _ _ _ _ _ hx15_, ev11 n _ _ _ hx9_, ev11 n _ _ _ hx7_, ev10 n _ _ _ hx4_, trivial⟩
    ·
      have e_ := Option.some.inj h9_
      subst e_
      exact run_ret (S := sp3_0) (G := []) (sc := [(3, .call 10 (res10 x4_) (outs10 x4_)), (2, .call 11 (res11 x7_) (outs11 x7_)), (1, .call 11 (res11 x9_) (outs11 x9_)), (5, .call 12 (res12 x15_) (outs12 x15_)), (4, .call 13 (res13 x20_) (outs13 x20_)), (2, .call 14 (res14 true) (outs14 true)), (4, .call 15 (res15 x28_) (outs15 x28_)), (0, .eq (.bool false))]) (obs := [AV.bool (x28_ == 0) = .bool false, CallOK Try.prog ann 15 [.slice .sh (rows3 x7_.1), .slice .sh (rows3 x9_.1), .agg (enc28 x15_.1)] (res15 x28_) (outs15 x28_), CallOK Try.prog ann 14 [] (res14 true) (outs14 true), CallOK Try.prog ann 13 [.ptr (enc57 x15_.2), .agg (enc28 x15_.1)] (res13 x20_) (outs13 x20_), CallOK Try.prog ann 12 [.ptr (enc57 x9_.2), .slice .sh (rows3 x7_.1), .slice .sh (rows3 x9_.1), .int .i64 3] (res12 x15_) (outs12 x15_), CallOK Try.prog ann 11 [.ptr (enc57 x7_.2), .int .i64 2] (res11 x9_) (outs11 x9_), CallOK Try.prog ann 11 [.ptr (enc57 x4_), .int .i64 4] (res11 x7_) (outs11 x7_), CallOK Try.prog ann 10 [.slice .sh (rows5 codes0), .int .i64 120] (res10 x4_) (outs10 x4_)]) (by kernel_rfl) ⟨congrArg AV.bool c1_, ev15 n _ _ _ _ hx28_, ev14 n  _ hx23_, ev13 n _ _ _ hx20_, ev12 n _ _ _ _ _ hx15_, ev11 n _ _ _ hx9_, ev11 n _ _ _ hx7_, ev10 n _ _ _ hx4_, trivial⟩
  ·
    subst c0_
    have e_ := Option.some.inj h7_
    subst e_
    exact run_ret (S := sp3_0) (G := []) (sc := [(3, .call 10 (res10 x4_) (outs10 x4_)), (2, .call 11 (res11 x7_) (outs11 x7_)), (1, .call 11 (res11 x9_) (outs11 x9_)), (5, .call 12 (res12 x15_) (outs12 x15_)), (4, .call 13 (res13 x20_) (outs13 x20_)), (2, .call 14 (res14 false) (outs14 false))]) (obs := [CallOK Try.prog ann 14 [] (res14 false) (outs14 false), CallOK Try.prog ann 13 [.ptr (enc57 x15_.2), .agg (enc28 x15_.1)] (res13 x20_) (outs13 x20_), CallOK Try.prog ann 12 [.ptr (enc57 x9_.2), .slice .sh (rows3 x7_.1), .slice .sh (rows3 x9_.1), .int .i64 3] (res12 x15_) (outs12 x15_), CallOK Try.prog ann 11 [.ptr (enc57 x7_.2), .int .i64 2] (res11 x9_) (outs11 x9_), CallOK Try.prog ann 11 [.ptr (enc57 x4_), .int .i64 4] (res11 x7_) (outs11 x7_), CallOK Try.prog ann 10 [.slice .sh (rows5 codes0), .int .i64 120] (res10 x4_) (outs10 x4_)]) (by kernel_rfl) ⟨ev14 n  _ hx23_, ev13 n _ _ _ hx20_, ev12 n _ _ _ _ _ hx15_, ev11 n _ _ _ hx9_, ev11 n _ _ _ hx7_, ev10 n _ _ _ hx4_, trivial⟩

def F3 (n : Nat) (codes0 : (List Int)) (raw1 : TPredicate) (odd2 : (List Int)) : Option Bool := B3_0 n codes0 raw1 odd2
theorem ev3 (n : Nat) (codes0 : (List Int)) (raw1 : TPredicate) (odd2 : (List Int)) (r : Bool) (h : F3 n codes0 raw1 odd2 = some r) : CallOK Try.prog ann 3 [.slice .sh (rows5 codes0), .agg (enc28 raw1), .slice .sh (rows3 odd2)] (res3 r) (outs3 r) :=
  call_of_at (E := e3) (s := st3_0 codes0 raw1 odd2) body3 Try.func3 (by kernel_rfl) (by kernel_rfl) (by kernel_rfl) (by kernel_rfl) (by kernel_rfl) (emptyOK_of (by kernel_rfl)) (by kernel_rfl) (b3_0 n codes0 raw1 odd2 r h)

end Go.Proofs.Ytalbakjfbgkjjaa
