/- A law as a plain function, and that the program answers as it does; written by a program (comp.py). -/
import Derived.Test.YtalbakjfbgkjjaaTop0
set_option maxRecDepth 100000
set_option linter.all false
namespace Go.Proofs.Ytalbakjfbgkjjaa
open Go.Abs

/-- partsync/partsynclaw05.PredicateEquals -/
noncomputable def e9 : Env := { P := Try.prog, ann := ann, f := 9, fn := Try.f9, ptrs := [], rets := [(4, .same)] }
def st9_0 (codes0 : (List Int)) (raw1 : TPredicate) : LS := ⟨[(0, .slice .sh (rows5 codes0)), (1, .agg (enc28 raw1))], []⟩
def sp9_0 : Stops := []
def B9_0 (n : Nat) (codes0 : (List Int)) (raw1 : TPredicate) : Option Bool :=
  (F10 n codes0 160).bind fun x4_ =>
  (F11 n x4_ 4).bind fun x7_ =>
  (F12 n x7_.2 x7_.1 [] 3).bind fun x11_ =>
  (F13 n x11_.2 x11_.1).bind fun x16_ =>
  (F14 n ).bind fun x19_ =>
  if x19_ then
    (F30 n x11_.1 []).bind fun x23_ =>
    (F31 n x11_.1 x23_).bind fun x24_ =>
    if x24_ then
      (F31 n x11_.1 x16_.1).bind fun x29_ =>
      (F29 n x11_.1 x16_.1).bind fun x32_ =>
      if x29_ == x32_ then
        (F31 n raw1 x11_.1).bind fun x38_ =>
        (F29 n raw1 x11_.1).bind fun x41_ =>
        if x38_ == x41_ then
          (F31 n raw1 raw1).bind fun x47_ =>
          some x47_
        else
          some false
      else
        some false
    else
      some false
  else
    some false

theorem b9_0 (n : Nat) (codes0 : (List Int)) (raw1 : TPredicate) (r : Bool) (h : B9_0 n codes0 raw1 = some r) : At e9 [] (st9_0 codes0 raw1) (res9 r) (outs9 r) := by
  unfold B9_0 at h
  refine bind_elim h (fun x4_ hx4_ h1_ => ?_)
  refine bind_elim h1_ (fun x7_ hx7_ h2_ => ?_)
  refine bind_elim h2_ (fun x11_ hx11_ h3_ => ?_)
  refine bind_elim h3_ (fun x16_ hx16_ h4_ => ?_)
  refine bind_elim h4_ (fun x19_ hx19_ h5_ => ?_)
  refine ite_elim h5_ (fun c0_ h6_ => ?_) (fun c0_ h6_ => ?_)
  ·
    subst c0_
    refine bind_elim h6_ (fun x23_ hx23_ h7_ => ?_)
    refine bind_elim h7_ (fun x24_ hx24_ h8_ => ?_)
    refine ite_elim h8_ (fun c1_ h9_ => ?_) (fun c1_ h9_ => ?_)
    ·
      subst c1_
      refine bind_elim h9_ (fun x29_ hx29_ h10_ => ?_)
      refine bind_elim h10_ (fun x32_ hx32_ h11_ => ?_)
      refine ite_elim h11_ (fun c2_ h12_ => ?_) (fun c2_ h12_ => ?_)
      ·
        refine bind_elim h12_ (fun x38_ hx38_ h13_ => ?_)
        refine bind_elim h13_ (fun x41_ hx41_ h14_ => ?_)
        refine ite_elim h14_ (fun c3_ h15_ => ?_) (fun c3_ h15_ => ?_)
        ·
          refine bind_elim h15_ (fun x47_ hx47_ h16_ => ?_)
          have e_ := Option.some.inj h16_
          subst e_
          exact run_ret (S := sp9_0) (G := []) (sc := [(3, .call 10 (res10 x4_) (outs10 x4_)), (2, .call 11 (res11 x7_) (outs11 x7_)), (3, .call 12 (res12 x11_) (outs12 x11_)), (4, .call 13 (res13 x16_) (outs13 x16_)), (2, .call 14 (res14 true) (outs14 true)), (3, .call 30 (res30 x23_) (outs30 x23_)), (0, .call 31 (res31 true) (outs31 true)), (4, .call 31 (res31 x29_) (outs31 x29_)), (2, .call 29 (res29 x32_) (outs29 x32_)), (0, .eq (.bool true)), (4, .call 31 (res31 x38_) (outs31 x38_)), (2, .call 29 (res29 x41_) (outs29 x41_)), (0, .eq (.bool true)), (4, .call 31 (res31 x47_) (outs31 x47_))]) (obs := [CallOK Try.prog ann 31 [.agg (enc28 raw1), .agg (enc28 raw1)] (res31 x47_) (outs31 x47_), AV.bool (x38_ == x41_) = .bool true, CallOK Try.prog ann 29 [.agg (enc28 raw1), .agg (enc28 x11_.1)] (res29 x41_) (outs29 x41_), CallOK Try.prog ann 31 [.agg (enc28 raw1), .agg (enc28 x11_.1)] (res31 x38_) (outs31 x38_), AV.bool (x29_ == x32_) = .bool true, CallOK Try.prog ann 29 [.agg (enc28 x11_.1), .agg (enc28 x16_.1)] (res29 x32_) (outs29 x32_), CallOK Try.prog ann 31 [.agg (enc28 x11_.1), .agg (enc28 x16_.1)] (res31 x29_) (outs31 x29_), CallOK Try.prog ann 31 [.agg (enc28 x11_.1), .agg (enc28 x23_)] (res31 true) (outs31 true), CallOK Try.prog ann 30 [.agg (enc28 x11_.1), .slice .sh []] (res30 x23_) (outs30 x23_), CallOK Try.prog ann 14 [] (res14 true) (outs14 true), CallOK Try.prog ann 13 [.ptr (enc57 x11_.2), .agg (enc28 x11_.1)] (res13 x16_) (outs13 x16_), CallOK Try.prog ann 12 [.ptr (enc57 x7_.2), .slice .sh (rows3 x7_.1), .slice .sh [], .int .i64 3] (res12 x11_) (outs12 x11_), CallOK Try.prog ann 11 [.ptr (enc57 x4_), .int .i64 4] (res11 x7_) (outs11 x7_), CallOK Try.prog ann 10 [.slice .sh (rows5 codes0), .int .i64 160] (res10 x4_) (outs10 x4_)]) (by kernel_rfl) ⟨ev31 n _ _ _ hx47_, congrArg AV.bool c3_, ev29 n _ _ _ hx41_, ev31 n _ _ _ hx38_, congrArg AV.bool c2_, ev29 n _ _ _ hx32_, ev31 n _ _ _ hx29_, ev31 n _ _ _ hx24_, ev30 n _ _ _ hx23_, ev14 n  _ hx19_, ev13 n _ _ _ hx16_, ev12 n _ _ _ _ _ hx11_, ev11 n _ _ _ hx7_, ev10 n _ _ _ hx4_, trivial⟩
        ·
          have e_ := Option.some.inj h15_
          subst e_
          exact run_ret (S := sp9_0) (G := []) (sc := [(3, .call 10 (res10 x4_) (outs10 x4_)), (2, .call 11 (res11 x7_) (outs11 x7_)), (3, .call 12 (res12 x11_) (outs12 x11_)), (4, .call 13 (res13 x16_) (outs13 x16_)), (2, .call 14 (res14 true) (outs14 true)), (3, .call 30 (res30 x23_) (outs30 x23_)), (0, .call 31 (res31 true) (outs31 true)), (4, .call 31 (res31 x29_) (outs31 x29_)), (2, .call 29 (res29 x32_) (outs29 x32_)), (0, .eq (.bool true)), (4, .call 31 (res31 x38_) (outs31 x38_)), (2, .call 29 (res29 x41_) (outs29 x41_)), (0, .eq (.bool false))]) (obs := [AV.bool (x38_ == x41_) = .bool false, CallOK Try.prog ann 29 [.agg (enc28 raw1), .agg (enc28 x11_.1)] (res29 x41_) (outs29 x41_), CallOK Try.prog ann 31 [.agg (enc28 raw1), .agg (enc28 x11_.1)] (res31 x38_) (outs31 x38_), AV.bool (x29_ == x32_) = .bool true, CallOK Try.prog ann 29 [.agg (enc28 x11_.1), .agg (enc28 x16_.1)] (res29 x32_) (outs29 x32_), CallOK Try.prog ann 31 [.agg (enc28 x11_.1), .agg (enc28 x16_.1)] (res31 x29_) (outs31 x29_), CallOK Try.prog ann 31 [.agg (enc28 x11_.1), .agg (enc28 x23_)] (res31 true) (outs31 true), CallOK Try.prog ann 30 [.agg (enc28 x11_.1), .slice .sh []] (res30 x23_) (outs30 x23_), CallOK Try.prog ann 14 [] (res14 true) (outs14 true), CallOK Try.prog ann 13 [.ptr (enc57 x11_.2), .agg (enc28 x11_.1)] (res13 x16_) (outs13 x16_), CallOK Try.prog ann 12 [.ptr (enc57 x7_.2), .slice .sh (rows3 x7_.1), .slice .sh [], .int .i64 3] (res12 x11_) (outs12 x11_), CallOK Try.prog ann 11 [.ptr (enc57 x4_), .int .i64 4] (res11 x7_) (outs11 x7_), CallOK Try.prog ann 10 [.slice .sh (rows5 codes0), .int .i64 160] (res10 x4_) (outs10 x4_)]) (by kernel_rfl) ⟨congrArg AV.bool c3_, ev29 n _ _ _ hx41_, ev31 n _ _ _ hx38_, congrArg AV.bool c2_, ev29 n _ _ _ hx32_, ev31 n _ _ _ hx29_, ev31 n _ _ _ hx24_, ev30 n _ _ _ hx23_, ev14 n  _ hx19_, ev13 n _ _ _ hx16_, ev12 n _ _ _ _ _ hx11_, ev11 n _ _ _ hx7_, ev10 n _ _ _ hx4_, trivial⟩
      ·
        have e_ := Option.some.inj h12_
        subst e_
        exact run_ret (S := sp9_0) (G := []) (sc := [(3, .call 10 (res10 x4_) (outs10 x4_)), (2, .call 11 (res11 x7_) (outs11 x7_)), (3, .call 12 (res12 x11_) (outs12 x11_)), (4, .call 13 (res13 x16_) (outs13 x16_)), (2, .call 14 (res14 true) (outs14 true)), (3, .call 30 (res30 x23_) (outs30 x23_)), (0, .call 31 (res31 true) (outs31 true)), (4, .call 31 (res31 x29_) (outs31 x29_)), (2, .call 29 (res29 x32_) (outs29 x32_)), (0, .eq (.bool false))]) (obs := [AV.bool (x29_ == x32_) = .bool false, CallOK Try.prog ann 29 [.agg (enc28 x11_.1), .agg (enc28 x16_.1)] (res29 x32_) (outs29 x32_), CallOK Try.prog ann 31 [.agg (enc28 x11_.1), .agg (enc28 x16_.1)] (res31 x29_) (outs31 x29_), CallOK Try.prog ann 31 [.agg (enc28 x11_.1), .agg (enc28 x23_)] (res31 true) (outs31 true), CallOK Try.prog ann 30 [.agg (enc28 x11_.1), .slice .sh []] (res30 x23_) (outs30 x23_), CallOK Try.prog ann 14 [] (res14 true) (outs14 true), CallOK Try.prog ann 13 [.ptr (enc57 x11_.2), .agg (enc28 x11_.1)] (res13 x16_) (outs13 x16_), CallOK Try.prog ann 12 [.ptr (enc57 x7_.2), .slice .sh (rows3 x7_.1), .slice .sh [], .int .i64 3] (res12 x11_) (outs12 x11_), CallOK Try.prog ann 11 [.ptr (enc57 x4_), .int .i64 4] (res11 x7_) (outs11 x7_), CallOK Try.prog ann 10 [.slice .sh (rows5 codes0), .int .i64 160] (res10 x4_) (outs10 x4_)]) (by kernel_rfl) ⟨congrArg AV.bool c2_, ev29 n _ _ _ hx32_, ev31 n _ _ _ hx29_, ev31 n _ _ _ hx24_, ev30 n _ _ _ hx23_, ev14 n  _ hx19_, ev13 n _ _ _ hx16_, ev12 n _ _ _ _ _ hx11_, ev11 n _ _ _ hx7_, ev10 n _ _ _ hx4_, trivial⟩
    ·
      subst c1_
      have e_ := Option.some.inj h9_
      subst e_
      exact run_ret (S := sp9_0) (G := []) (sc := [(3, .call 10 (res10 x4_) (outs10 x4_)), (2, .call 11 (res11 x7_) (outs11 x7_)), (3, .call 12 (res12 x11_) (outs12 x11_)), (4, .call 13 (res13 x16_) (outs13 x16_)), (2, .call 14 (res14 true) (outs14 true)), (3, .call 30 (res30 x23_) (outs30 x23_)), (0, .call 31 (res31 false) (outs31 false))]) (obs := [CallOK Try.prog ann 31 [.agg (enc28 x11_.1), .agg (enc28 x23_)] (res31 false) (outs31 false), CallOK Try.prog ann 30 [.agg (enc28 x11_.1), .slice .sh []] (res30 x23_) (outs30 x23_), CallOK Try.prog ann 14 [] (res14 true) (outs14 true), CallOK Try.prog ann 13 [.ptr (enc57 x11_.2), .agg (enc28 x11_.1)] (res13 x16_) (outs13 x16_), CallOK Try.prog ann 12 [.ptr (enc57 x7_.2), .slice .sh (rows3 x7_.1), .slice .sh [], .int .i64 3] (res12 x11_) (outs12 x11_), CallOK Try.prog ann 11 [.ptr (enc57 x4_), .int .i64 4] (res11 x7_) (outs11 x7_), CallOK Try.prog ann 10 [.slice .sh (rows5 codes0), .int .i64 160] (res10 x4_) (outs10 x4_)]) (by kernel_rfl) ⟨ev31 n _ _ _ hx24_, ev30 n _ _ _ hx23_, ev14 n  _ hx19_, ev13 n _ _ _ hx16_, ev12 n _ _ _ _ _ hx11_, ev11 n _ _ _ hx7_, ev10 n _ _ _ hx4_, trivial⟩
  ·
    subst c0_
    have e_ := Option.some.inj h6_
    subst e_
    exact run_ret (S := sp9_0) (G := []) (sc := [(3, .call 10 (res10 x4_) (outs10 x4_)), (2, .call 11 (res11 x7_) (outs11 x7_)), (3, .call 12 (res12 x11_) (outs12 x11_)), (4, .call 13 (res13 x16_) (outs13 x16_)), (2, .call 14 (res14 false) (outs14 false))]) (obs := [CallOK Try.prog ann 14 [] (res14 false) (outs14 false), CallOK Try.prog ann 13 [.ptr (enc57 x11_.2), .agg (enc28 x11_.1)] (res13 x16_) (outs13 x16_), CallOK Try.prog ann 12 [.ptr (enc57 x7_.2), .slice .sh (rows3 x7_.1), .slice .sh [], .int .i64 3] (res12 x11_) (outs12 x11_), CallOK Try.prog ann 11 [.ptr (enc57 x4_), .int .i64 4] (res11 x7_) (outs11 x7_), CallOK Try.prog ann 10 [.slice .sh (rows5 codes0), .int .i64 160] (res10 x4_) (outs10 x4_)]) (by kernel_rfl) ⟨ev14 n  _ hx19_, ev13 n _ _ _ hx16_, ev12 n _ _ _ _ _ hx11_, ev11 n _ _ _ hx7_, ev10 n _ _ _ hx4_, trivial⟩

def F9 (n : Nat) (codes0 : (List Int)) (raw1 : TPredicate) : Option Bool := B9_0 n codes0 raw1
theorem ev9 (n : Nat) (codes0 : (List Int)) (raw1 : TPredicate) (r : Bool) (h : F9 n codes0 raw1 = some r) : CallOK Try.prog ann 9 [.slice .sh (rows5 codes0), .agg (enc28 raw1)] (res9 r) (outs9 r) :=
  call_of_at (E := e9) (s := st9_0 codes0 raw1) body9 Try.func9 (by kernel_rfl) (by kernel_rfl) (by kernel_rfl) (by kernel_rfl) (by kernel_rfl) (emptyOK_of (by kernel_rfl)) (by kernel_rfl) (b9_0 n codes0 raw1 r h)

end Go.Proofs.Ytalbakjfbgkjjaa
