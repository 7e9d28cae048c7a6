/- A law as a plain function, and that the program answers as it does; written by a program (comp.py). -/
import Derived.Test.YtalbakjfbgkjjaaTop0
set_option maxRecDepth 100000
set_option linter.all false
namespace Go.Proofs.Ytalbakjfbgkjjaa
open Go.Abs

/-- partsync/partsynclaw05.PredicateCompares -/
noncomputable def e6 : Env := { P := Try.prog, ann := ann, f := 6, fn := Try.f6, ptrs := [], rets := [(2, .same)] }
def st6_0 (real7 : Bool) (n8 : Int) (cmp9 : Int) (x11 : Bool) (t46 : Bool) (t47 : Bool) (ba5 : TValue) (bb6 : TValue) : LS := ⟨[(5, .loc 5 0), (6, .loc 6 0), (7, .bool real7), (8, .int .i64 n8), (9, .int .i64 cmp9), (11, .bool x11), (46, .bool t46), (47, .bool t47), (50, .bool false)], [(5, (enc23 ba5)), (6, (enc23 bb6))]⟩
def st6_1 (real7 : Bool) (n8 : Int) (cmp9 : Int) (ba5 : TValue) (bb6 : TValue) : LS := ⟨[(5, .loc 5 0), (6, .loc 6 0), (7, .bool real7), (8, .int .i64 n8), (9, .int .i64 cmp9)], [(5, (enc23 ba5)), (6, (enc23 bb6))]⟩
def st6_2 (real7 : Bool) (n8 : Int) : LS := ⟨[(7, .bool real7), (8, .int .i64 n8)], []⟩
def st6_3 (codes0 : (List Int)) : LS := ⟨[(0, .slice .sh (rows5 codes0))], []⟩
def sp6_0 : Stops := [([0, 1, 0, 1, 1, 1, 1, 1, 1], [(5, .same), (6, .same), (7, .same), (8, .same), (9, .same)], [(5, [.same, .same, .same]), (6, [.same, .same, .same])])]
def B6_0 (k_1 : Bool → Int → Int → TValue → TValue → Option Bool) (n : Nat) (real7 : Bool) (n8 : Int) (cmp9 : Int) (x11 : Bool) (t46 : Bool) (t47 : Bool) (ba5 : TValue) (bb6 : TValue) : Option Bool :=
  if x11 then
    k_1 real7 (w64 (n8 + 1)) (w64 (cmp9 + 1)) ba5 bb6
  else
    k_1 real7 n8 (w64 (cmp9 + 1)) ba5 bb6

theorem b6_0 (k_1 : Bool → Int → Int → TValue → TValue → Option Bool) (hk_1 : ∀ (real7 : Bool) (n8 : Int) (cmp9 : Int) (ba5 : TValue) (bb6 : TValue) (r : Bool), k_1 real7 n8 cmp9 ba5 bb6 = some r → At e6 [0, 1, 0, 1, 1, 1, 1, 1, 1] (st6_1 real7 n8 cmp9 ba5 bb6) (res6 r) (outs6 r)) (n : Nat) (real7 : Bool) (n8 : Int) (cmp9 : Int) (x11 : Bool) (t46 : Bool) (t47 : Bool) (ba5 : TValue) (bb6 : TValue) (r : Bool) (h : B6_0 k_1 n real7 n8 cmp9 x11 t46 t47 ba5 bb6 = some r) : At e6 [1, 1, 1, 0, 0, 1, 0, 0, 1, 0, 1, 1, 1, 1, 1, 1] (st6_0 real7 n8 cmp9 x11 t46 t47 ba5 bb6) (res6 r) (outs6 r) := by
  unfold B6_0 at h
  refine ite_elim h (fun c0_ h1_ => ?_) (fun c0_ h1_ => ?_)
  ·
    subst c0_
    exact run_at (S := sp6_0) (sc := []) (obs := []) (by kernel_rfl) trivial (hk_1 _ _ _ _ _ _ h1_)
  ·
    subst c0_
    exact run_at (S := sp6_0) (sc := []) (obs := []) (by kernel_rfl) trivial (hk_1 _ _ _ _ _ _ h1_)

def sp6_1 : Stops := [([1, 1, 1, 0, 0, 1, 0, 0, 1, 0, 1, 1, 1, 1, 1, 1], [(5, .same), (6, .same), (7, .same), (8, .same), (9, .same), (11, .same), (46, .same), (47, .same), (50, .same)], [(5, [.same, .same, .same]), (6, [.same, .same, .same])]), ([1, 1, 1, 1, 1, 1, 1], [(7, .same), (8, .same)], [])]
def B6_1 (k_2 : Bool → Int → Option Bool) (back : Bool → Int → Int → TValue → TValue → Option Bool) (n : Nat) (real7 : Bool) (n8 : Int) (cmp9 : Int) (ba5 : TValue) (bb6 : TValue) : Option Bool :=
  if decide (cmp9 ≤ 6) then
    (F19 n (TPredicate.mk 3 cmp9 (TOperand.mk 1 0 (TValue.mk 0 0 ByteArray.empty)) (TOperand.mk 1 1 (TValue.mk 0 0 ByteArray.empty)) []) [ba5, bb6] []).bind fun x13_ =>
    (F24 n cmp9 ba5 bb6).bind fun x19_ =>
    if !(x13_ == x19_) then
      some false
    else
      if x13_ then
        if !(true == x19_) then
          some false
        else
          if !real7 then
            some false
          else
            B6_0 back n real7 n8 cmp9 true true true ba5 bb6
      else
        if !(false == x19_) then
          some false
        else
          B6_0 back n real7 n8 cmp9 false false false ba5 bb6
  else
    k_2 real7 n8

theorem b6_1 (k_2 : Bool → Int → Option Bool) (hk_2 : ∀ (real7 : Bool) (n8 : Int) (r : Bool), k_2 real7 n8 = some r → At e6 [1, 1, 1, 1, 1, 1, 1] (st6_2 real7 n8) (res6 r) (outs6 r)) (back : Bool → Int → Int → TValue → TValue → Option Bool) (hback : ∀ (real7 : Bool) (n8 : Int) (cmp9 : Int) (ba5 : TValue) (bb6 : TValue) (r : Bool), back real7 n8 cmp9 ba5 bb6 = some r → At e6 [0, 1, 0, 1, 1, 1, 1, 1, 1] (st6_1 real7 n8 cmp9 ba5 bb6) (res6 r) (outs6 r)) (n : Nat) (real7 : Bool) (n8 : Int) (cmp9 : Int) (ba5 : TValue) (bb6 : TValue) (r : Bool) (h : B6_1 k_2 back n real7 n8 cmp9 ba5 bb6 = some r) : At e6 [0, 1, 0, 1, 1, 1, 1, 1, 1] (st6_1 real7 n8 cmp9 ba5 bb6) (res6 r) (outs6 r) := by
  unfold B6_1 at h
  refine ite_elim h (fun c0_ h2_ => ?_) (fun c0_ h2_ => ?_)
  ·
    refine bind_elim h2_ (fun x13_ hx13_ h3_ => ?_)
    refine bind_elim h3_ (fun x19_ hx19_ h4_ => ?_)
    refine ite_elim h4_ (fun c1_ h5_ => ?_) (fun c1_ h5_ => ?_)
    ·
      have e_ := Option.some.inj h5_
      subst e_
      exact run_ret (S := sp6_1) (sc := [(1, .eq (.bool true)), (10, .call 19 (res19 x13_) (outs19 x13_)), (5, .call 24 (res24 x19_) (outs24 x19_)), (0, .eq (.bool true))]) (obs := [AV.bool (!(x13_ == x19_)) = .bool true, CallOK Try.prog ann 24 [.int .i64 cmp9, .agg (enc23 ba5), .agg (enc23 bb6)] (res24 x19_) (outs24 x19_), CallOK Try.prog ann 19 [.agg [.int .i64 3, .int .i64 cmp9, .int .i64 1, .int .i64 0, .int .i64 0, .int .i64 0, .str ByteArray.empty, .int .i64 1, .int .i64 1, .int .i64 0, .int .i64 0, .str ByteArray.empty, .slice .sh []], .slice .sh (rows23 [ba5, bb6]), .slice .sh []] (res19 x13_) (outs19 x13_), AV.bool (decide (cmp9 ≤ 6)) = .bool true]) (by kernel_rfl) ⟨congrArg AV.bool c1_, ev24 n _ _ _ _ hx19_, ev19 n _ _ _ _ hx13_, congrArg AV.bool c0_, trivial⟩
    ·
      refine ite_elim h5_ (fun c2_ h6_ => ?_) (fun c2_ h6_ => ?_)
      ·
        subst c2_
        refine ite_elim h6_ (fun c3_ h7_ => ?_) (fun c3_ h7_ => ?_)
        ·
          have e_ := Option.some.inj h7_
          subst e_
          exact run_ret (S := sp6_1) (sc := [(1, .eq (.bool true)), (10, .call 19 (res19 true) (outs19 true)), (5, .call 24 (res24 x19_) (outs24 x19_)), (0, .eq (.bool true))]) (obs := [AV.bool (!(true == x19_)) = .bool true, CallOK Try.prog ann 24 [.int .i64 cmp9, .agg (enc23 ba5), .agg (enc23 bb6)] (res24 x19_) (outs24 x19_), CallOK Try.prog ann 19 [.agg [.int .i64 3, .int .i64 cmp9, .int .i64 1, .int .i64 0, .int .i64 0, .int .i64 0, .str ByteArray.empty, .int .i64 1, .int .i64 1, .int .i64 0, .int .i64 0, .str ByteArray.empty, .slice .sh []], .slice .sh (rows23 [ba5, bb6]), .slice .sh []] (res19 true) (outs19 true), AV.bool (decide (cmp9 ≤ 6)) = .bool true]) (by kernel_rfl) ⟨congrArg AV.bool c3_, ev24 n _ _ _ _ hx19_, ev19 n _ _ _ _ hx13_, congrArg AV.bool c0_, trivial⟩
        ·
          refine ite_elim h7_ (fun c4_ h8_ => ?_) (fun c4_ h8_ => ?_)
          ·
            have e_ := Option.some.inj h8_
            subst e_
            exact run_ret (S := sp6_1) (sc := [(1, .eq (.bool true)), (10, .call 19 (res19 true) (outs19 true)), (5, .call 24 (res24 x19_) (outs24 x19_)), (0, .eq (.bool false)), (4, .eq (.bool true))]) (obs := [AV.bool (!real7) = .bool true, AV.bool (!(true == x19_)) = .bool false, CallOK Try.prog ann 24 [.int .i64 cmp9, .agg (enc23 ba5), .agg (enc23 bb6)] (res24 x19_) (outs24 x19_), CallOK Try.prog ann 19 [.agg [.int .i64 3, .int .i64 cmp9, .int .i64 1, .int .i64 0, .int .i64 0, .int .i64 0, .str ByteArray.empty, .int .i64 1, .int .i64 1, .int .i64 0, .int .i64 0, .str ByteArray.empty, .slice .sh []], .slice .sh (rows23 [ba5, bb6]), .slice .sh []] (res19 true) (outs19 true), AV.bool (decide (cmp9 ≤ 6)) = .bool true]) (by kernel_rfl) ⟨congrArg AV.bool c4_, congrArg AV.bool c3_, ev24 n _ _ _ _ hx19_, ev19 n _ _ _ _ hx13_, congrArg AV.bool c0_, trivial⟩
          ·
            exact run_at (S := sp6_1) (sc := [(1, .eq (.bool true)), (10, .call 19 (res19 true) (outs19 true)), (5, .call 24 (res24 x19_) (outs24 x19_)), (0, .eq (.bool false)), (4, .eq (.bool false))]) (obs := [AV.bool (!real7) = .bool false, AV.bool (!(true == x19_)) = .bool false, CallOK Try.prog ann 24 [.int .i64 cmp9, .agg (enc23 ba5), .agg (enc23 bb6)] (res24 x19_) (outs24 x19_), CallOK Try.prog ann 19 [.agg [.int .i64 3, .int .i64 cmp9, .int .i64 1, .int .i64 0, .int .i64 0, .int .i64 0, .str ByteArray.empty, .int .i64 1, .int .i64 1, .int .i64 0, .int .i64 0, .str ByteArray.empty, .slice .sh []], .slice .sh (rows23 [ba5, bb6]), .slice .sh []] (res19 true) (outs19 true), AV.bool (decide (cmp9 ≤ 6)) = .bool true]) (by kernel_rfl) ⟨congrArg AV.bool c4_, congrArg AV.bool c3_, ev24 n _ _ _ _ hx19_, ev19 n _ _ _ _ hx13_, congrArg AV.bool c0_, trivial⟩ (b6_0 back hback n _ _ _ _ _ _ _ _ _ h8_)
      ·
        subst c2_
        refine ite_elim h6_ (fun c3_ h9_ => ?_) (fun c3_ h9_ => ?_)
        ·
          have e_ := Option.some.inj h9_
          subst e_
          exact run_ret (S := sp6_1) (sc := [(1, .eq (.bool true)), (10, .call 19 (res19 false) (outs19 false)), (5, .call 24 (res24 x19_) (outs24 x19_)), (0, .eq (.bool true))]) (obs := [AV.bool (!(false == x19_)) = .bool true, CallOK Try.prog ann 24 [.int .i64 cmp9, .agg (enc23 ba5), .agg (enc23 bb6)] (res24 x19_) (outs24 x19_), CallOK Try.prog ann 19 [.agg [.int .i64 3, .int .i64 cmp9, .int .i64 1, .int .i64 0, .int .i64 0, .int .i64 0, .str ByteArray.empty, .int .i64 1, .int .i64 1, .int .i64 0, .int .i64 0, .str ByteArray.empty, .slice .sh []], .slice .sh (rows23 [ba5, bb6]), .slice .sh []] (res19 false) (outs19 false), AV.bool (decide (cmp9 ≤ 6)) = .bool true]) (by kernel_rfl) ⟨congrArg AV.bool c3_, ev24 n _ _ _ _ hx19_, ev19 n _ _ _ _ hx13_, congrArg AV.bool c0_, trivial⟩
        ·
          exact run_at (S := sp6_1) (sc := [(1, .eq (.bool true)), (10, .call 19 (res19 false) (outs19 false)), (5, .call 24 (res24 x19_) (outs24 x19_)), (0, .eq (.bool false))]) (obs := [AV.bool (!(false == x19_)) = .bool false, CallOK Try.prog ann 24 [.int .i64 cmp9, .agg (enc23 ba5), .agg (enc23 bb6)] (res24 x19_) (outs24 x19_), CallOK Try.prog ann 19 [.agg [.int .i64 3, .int .i64 cmp9, .int .i64 1, .int .i64 0, .int .i64 0, .int .i64 0, .str ByteArray.empty, .int .i64 1, .int .i64 1, .int .i64 0, .int .i64 0, .str ByteArray.empty, .slice .sh []], .slice .sh (rows23 [ba5, bb6]), .slice .sh []] (res19 false) (outs19 false), AV.bool (decide (cmp9 ≤ 6)) = .bool true]) (by kernel_rfl) ⟨congrArg AV.bool c3_, ev24 n _ _ _ _ hx19_, ev19 n _ _ _ _ hx13_, congrArg AV.bool c0_, trivial⟩ (b6_0 back hback n _ _ _ _ _ _ _ _ _ h9_)
  ·
    exact run_at (S := sp6_1) (sc := [(1, .eq (.bool false))]) (obs := [AV.bool (decide (cmp9 ≤ 6)) = .bool false]) (by kernel_rfl) ⟨congrArg AV.bool c0_, trivial⟩ (hk_2 _ _ _ h2_)

def L6_1 (k_2 : Bool → Int → Option Bool) : Nat → Bool → Int → Int → TValue → TValue → Option Bool
  | 0, _, _, _, _, _ => none
  | n + 1, real7, n8, cmp9, ba5, bb6 => B6_1 k_2 (L6_1 k_2 n) n real7 n8 cmp9 ba5 bb6
theorem l6_1 (k_2 : Bool → Int → Option Bool) (hk_2 : ∀ (real7 : Bool) (n8 : Int) (r : Bool), k_2 real7 n8 = some r → At e6 [1, 1, 1, 1, 1, 1, 1] (st6_2 real7 n8) (res6 r) (outs6 r)) : ∀ (n : Nat) (real7 : Bool) (n8 : Int) (cmp9 : Int) (ba5 : TValue) (bb6 : TValue) (r : Bool), L6_1 k_2 n real7 n8 cmp9 ba5 bb6 = some r → At e6 [0, 1, 0, 1, 1, 1, 1, 1, 1] (st6_1 real7 n8 cmp9 ba5 bb6) (res6 r) (outs6 r)
  | 0, _, _, _, _, _, _, h => by simp [L6_1] at h
  | n + 1, real7, n8, cmp9, ba5, bb6, r, h => b6_1 k_2 hk_2 (L6_1 k_2 n) (l6_1 k_2 hk_2 n) n real7 n8 cmp9 ba5 bb6 r h
def sp6_2 : Stops := []
def B6_2 (n : Nat) (real7 : Bool) (n8 : Int) : Option Bool :=
  (F14 n ).bind fun x1_ =>
  if x1_ then
    if real7 then
      if n8 == 3 then
        some true
      else
        some false
    else
      some (n8 == 0)
  else
    some false

theorem b6_2 (n : Nat) (real7 : Bool) (n8 : Int) (r : Bool) (h : B6_2 n real7 n8 = some r) : At e6 [1, 1, 1, 1, 1, 1, 1] (st6_2 real7 n8) (res6 r) (outs6 r) := by
  unfold B6_2 at h
  refine bind_elim h (fun x1_ hx1_ h10_ => ?_)
  refine ite_elim h10_ (fun c0_ h11_ => ?_) (fun c0_ h11_ => ?_)
  ·
    subst c0_
    refine ite_elim h11_ (fun c1_ h12_ => ?_) (fun c1_ h12_ => ?_)
    ·
      subst c1_
      refine ite_elim h12_ (fun c2_ h13_ => ?_) (fun c2_ h13_ => ?_)
      ·
        have e_ := Option.some.inj h13_
        subst e_
        exact run_ret (S := sp6_2) (sc := [(0, .call 14 (res14 true) (outs14 true)), (4, .eq (.bool true))]) (obs := [AV.bool (n8 == 3) = .bool true, CallOK Try.prog ann 14 [] (res14 true) (outs14 true)]) (by kernel_rfl) ⟨congrArg AV.bool c2_, ev14 n  _ hx1_, trivial⟩
      ·
        have e_ := Option.some.inj h13_
        subst e_
        exact run_ret (S := sp6_2) (sc := [(0, .call 14 (res14 true) (outs14 true)), (4, .eq (.bool false))]) (obs := [AV.bool (n8 == 3) = .bool false, CallOK Try.prog ann 14 [] (res14 true) (outs14 true)]) (by kernel_rfl) ⟨congrArg AV.bool c2_, ev14 n  _ hx1_, trivial⟩
    ·
      subst c1_
      have e_ := Option.some.inj h12_
      subst e_
      exact run_ret (S := sp6_2) (sc := [(0, .call 14 (res14 true) (outs14 true))]) (obs := [CallOK Try.prog ann 14 [] (res14 true) (outs14 true)]) (by kernel_rfl) ⟨ev14 n  _ hx1_, trivial⟩
  ·
    subst c0_
    have e_ := Option.some.inj h11_
    subst e_
    exact run_ret (S := sp6_2) (sc := [(0, .call 14 (res14 false) (outs14 false))]) (obs := [CallOK Try.prog ann 14 [] (res14 false) (outs14 false)]) (by kernel_rfl) ⟨ev14 n  _ hx1_, trivial⟩

def sp6_3 : Stops := [([0, 1, 0, 1, 1, 1, 1, 1, 1], [(5, .same), (6, .same), (7, .same), (8, .same), (9, .same)], [(5, [.same, .same, .same]), (6, [.same, .same, .same])])]
def B6_3 (n : Nat) (codes0 : (List Int)) : Option Bool :=
  (F10 n codes0 90).bind fun x3_ =>
  (F21 n x3_ 3).bind fun x6_ =>
  (F22 n x6_.2 (w64 (3 + x6_.1))).bind fun x11_ =>
  (F23 n x11_.2).bind fun x13_ =>
  L6_1 (B6_2 n) n (x13_.1.fKind == (w64 (3 + x6_.1))) 0 1 x11_.1 x13_.1

theorem b6_3 (n : Nat) (codes0 : (List Int)) (r : Bool) (h : B6_3 n codes0 = some r) : At e6 [] (st6_3 codes0) (res6 r) (outs6 r) := by
  unfold B6_3 at h
  refine bind_elim h (fun x3_ hx3_ h14_ => ?_)
  refine bind_elim h14_ (fun x6_ hx6_ h15_ => ?_)
  refine bind_elim h15_ (fun x11_ hx11_ h16_ => ?_)
  refine bind_elim h16_ (fun x13_ hx13_ h17_ => ?_)
  exact run_at (S := sp6_3) (sc := [(2, .call 10 (res10 x3_) (outs10 x3_)), (2, .call 21 (res21 x6_) (outs21 x6_)), (4, .call 22 (res22 x11_) (outs22 x11_)), (1, .call 23 (res23 x13_) (outs23 x13_))]) (obs := [CallOK Try.prog ann 23 [.ptr (enc57 x11_.2)] (res23 x13_) (outs23 x13_), CallOK Try.prog ann 22 [.ptr (enc57 x6_.2), .int .i64 (w64 (3 + x6_.1))] (res22 x11_) (outs22 x11_), CallOK Try.prog ann 21 [.ptr (enc57 x3_), .int .i64 3] (res21 x6_) (outs21 x6_), CallOK Try.prog ann 10 [.slice .sh (rows5 codes0), .int .i64 90] (res10 x3_) (outs10 x3_)]) (by kernel_rfl) ⟨ev23 n _ _ hx13_, ev22 n _ _ _ hx11_, ev21 n _ _ _ hx6_, ev10 n _ _ _ hx3_, trivial⟩ (l6_1 (B6_2 n) (b6_2 n) n _ _ _ _ _ _ h17_)

def F6 (n : Nat) (codes0 : (List Int)) : Option Bool := B6_3 n codes0
theorem ev6 (n : Nat) (codes0 : (List Int)) (r : Bool) (h : F6 n codes0 = some r) : CallOK Try.prog ann 6 [.slice .sh (rows5 codes0)] (res6 r) (outs6 r) :=
  call_of_at (E := e6) (s := st6_3 codes0) body6 Try.func6 (by kernel_rfl) (by kernel_rfl) (by kernel_rfl) (by kernel_rfl) (by kernel_rfl) (by kernel_rfl) (b6_3 n codes0 r h)

end Go.Proofs.Ytalbakjfbgkjjaa
