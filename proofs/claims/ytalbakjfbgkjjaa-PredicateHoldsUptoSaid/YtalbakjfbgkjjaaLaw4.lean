/- A law as a plain function, and that the program answers as it does; written by a program (comp.py). -/
import Derived.Test.YtalbakjfbgkjjaaTop0
set_option maxRecDepth 100000
set_option linter.all false
namespace Go.Proofs.Ytalbakjfbgkjjaa
open Go.Abs

/-- partsync/partsynclaw05.PredicateHolds -/
noncomputable def e4 : Env := { P := Try.prog, ann := ann, f := 4, fn := Try.f4, ptrs := [], rets := [(8, .same)] }
def st4_0 (row2 : (List TValue)) (params3 : (List TValue)) (r13 : (List TValue)) (v14 : (List TValue)) (t38 : (List TPredicate)) (t39 : Int) (t40 : Int) : LS := ⟨[(2, .slice .sh (rows23 row2)), (3, .slice .sh (rows23 params3)), (13, .slice (.own 24) (rows23 r13)), (14, .slice (.own 24) (rows23 v14)), (38, .slice (.own 29) (rows28 t38)), (39, .int .i64 t39), (40, .int .i64 t40)], []⟩
def st4_1  : LS := ⟨[], []⟩
def st4_2 (codes0 : (List Int)) (raw1 : TPredicate) (row2 : (List TValue)) (params3 : (List TValue)) : LS := ⟨[(0, .slice .sh (rows5 codes0)), (1, .agg (enc28 raw1)), (2, .slice .sh (rows23 row2)), (3, .slice .sh (rows23 params3))], []⟩
def sp4_0 : Stops := [([0, 1, 0, 1, 1, 1, 1, 1], [(2, .nrm), (3, .nrm), (13, .own 24), (14, .own 24), (38, .own 29), (39, .same), (40, .same)], []), ([1, 1, 1, 1, 1, 1], [], [])]
def B4_0 (k_1 : Option Bool) (back : (List TValue) → (List TValue) → (List TValue) → (List TValue) → (List TPredicate) → Int → Int → Option Bool) (n : Nat) (row2 : (List TValue)) (params3 : (List TValue)) (r13 : (List TValue)) (v14 : (List TValue)) (t38 : (List TPredicate)) (t39 : Int) (t40 : Int) : Option Bool :=
  if decide (t40 < t39) then
    (idx t38 t40).bind fun x2_ =>
    (F19 n x2_ r13 v14).bind fun x9_ =>
    (F20 n x2_ r13 v14).bind fun x13_ =>
    if !(x9_ == x13_) then
      some false
    else
      (F19 n x2_ row2 v14).bind fun x19_ =>
      (F20 n x2_ row2 v14).bind fun x23_ =>
      if !(x19_ == x23_) then
        some false
      else
        (F19 n x2_ r13 params3).bind fun x30_ =>
        (F20 n x2_ r13 params3).bind fun x34_ =>
        if !(x30_ == x34_) then
          some false
        else
          back row2 params3 r13 v14 t38 t39 (w64 (t40 + 1))
  else
    k_1

theorem b4_0 (k_1 : Option Bool) (hk_1 : ∀  (r : Bool), k_1 = some r → At e4 [1, 1, 1, 1, 1, 1] (st4_1) (res4 r) (outs4 r)) (back : (List TValue) → (List TValue) → (List TValue) → (List TValue) → (List TPredicate) → Int → Int → Option Bool) (hback : ∀ (row2 : (List TValue)) (params3 : (List TValue)) (r13 : (List TValue)) (v14 : (List TValue)) (t38 : (List TPredicate)) (t39 : Int) (t40 : Int) (r : Bool), back row2 params3 r13 v14 t38 t39 t40 = some r → At e4 [0, 1, 0, 1, 1, 1, 1, 1] (st4_0 row2 params3 r13 v14 t38 t39 t40) (res4 r) (outs4 r)) (n : Nat) (row2 : (List TValue)) (params3 : (List TValue)) (r13 : (List TValue)) (v14 : (List TValue)) (t38 : (List TPredicate)) (t39 : Int) (t40 : Int) (r : Bool) (h : B4_0 k_1 back n row2 params3 r13 v14 t38 t39 t40 = some r) : At e4 [0, 1, 0, 1, 1, 1, 1, 1] (st4_0 row2 params3 r13 v14 t38 t39 t40) (res4 r) (outs4 r) := by
  unfold B4_0 at h
  refine ite_elim h (fun c0_ h1_ => ?_) (fun c0_ h1_ => ?_)
  ·
    refine bind_elim h1_ (fun x2_ hx2_ h2_ => ?_)
    refine bind_elim h2_ (fun x9_ hx9_ h3_ => ?_)
    refine bind_elim h3_ (fun x13_ hx13_ h4_ => ?_)
    refine ite_elim h4_ (fun c1_ h5_ => ?_) (fun c1_ h5_ => ?_)
    ·
      have e_ := Option.some.inj h5_
      subst e_
      exact run_ret (S := sp4_0) (G := []) (sc := [(0, .eq (.bool true)), (0, .core ⟨[(42, .imm (enc28 x2_))], []⟩), (6, .call 19 (res19 x9_) (outs19 x9_)), (3, .call 20 (res20 x13_) (outs20 x13_)), (0, .eq (.bool true))]) (obs := [AV.bool (!(x9_ == x13_)) = .bool true, CallOK Try.prog ann 20 [.agg (enc28 x2_), .slice .sh (rows23 r13), .slice .sh (rows23 v14)] (res20 x13_) (outs20 x13_), CallOK Try.prog ann 19 [.agg (enc28 x2_), .slice .sh (rows23 r13), .slice .sh (rows23 v14)] (res19 x9_) (outs19 x9_), indexAddrA Try.prog an4 (some 42) 27 (.slice (.own 29) (rows28 t38)) (.int .i64 t40) = some ⟨[(42, .imm (enc28 x2_))], []⟩, AV.bool (decide (t40 < t39)) = .bool true]) (by kernel_rfl) ⟨congrArg AV.bool c1_, ev20 n _ _ _ _ hx13_, ev19 n _ _ _ _ hx9_, R27.idxOb (A := an4) hx2_, congrArg AV.bool c0_, trivial⟩
    ·
      refine bind_elim h5_ (fun x19_ hx19_ h6_ => ?_)
      refine bind_elim h6_ (fun x23_ hx23_ h7_ => ?_)
      refine ite_elim h7_ (fun c2_ h8_ => ?_) (fun c2_ h8_ => ?_)
      ·
        have e_ := Option.some.inj h8_
        subst e_
        exact run_ret (S := sp4_0) (G := []) (sc := [(0, .eq (.bool true)), (0, .core ⟨[(42, .imm (enc28 x2_))], []⟩), (6, .call 19 (res19 x9_) (outs19 x9_)), (3, .call 20 (res20 x13_) (outs20 x13_)), (0, .eq (.bool false)), (4, .call 19 (res19 x19_) (outs19 x19_)), (3, .call 20 (res20 x23_) (outs20 x23_)), (0, .eq (.bool true))]) (obs := [AV.bool (!(x19_ == x23_)) = .bool true, CallOK Try.prog ann 20 [.agg (enc28 x2_), .slice .sh (rows23 row2), .slice .sh (rows23 v14)] (res20 x23_) (outs20 x23_), CallOK Try.prog ann 19 [.agg (enc28 x2_), .slice .sh (rows23 row2), .slice .sh (rows23 v14)] (res19 x19_) (outs19 x19_), AV.bool (!(x9_ == x13_)) = .bool false, CallOK Try.prog ann 20 [.agg (enc28 x2_), .slice .sh (rows23 r13), .slice .sh (rows23 v14)] (res20 x13_) (outs20 x13_), CallOK Try.prog ann 19 [.agg (enc28 x2_), .slice .sh (rows23 r13), .slice .sh (rows23 v14)] (res19 x9_) (outs19 x9_), indexAddrA Try.prog an4 (some 42) 27 (.slice (.own 29) (rows28 t38)) (.int .i64 t40) = some ⟨[(42, .imm (enc28 x2_))], []⟩, AV.bool (decide (t40 < t39)) = .bool true]) (by kernel_rfl) ⟨congrArg AV.bool c2_, ev20 n _ _ _ _ hx23_, ev19 n _ _ _ _ hx19_, congrArg AV.bool c1_, ev20 n _ _ _ _ hx13_, ev19 n _ _ _ _ hx9_, R27.idxOb (A := an4) hx2_, congrArg AV.bool c0_, trivial⟩
      ·
        refine bind_elim h8_ (fun x30_ hx30_ h9_ => ?_)
        refine bind_elim h9_ (fun x34_ hx34_ h10_ => ?_)
        refine ite_elim h10_ (fun c3_ h11_ => ?_) (fun c3_ h11_ => ?_)
        ·
          have e_ := Option.some.inj h11_
          subst e_
          exact run_ret (S := sp4_0) (G := []) (sc := [(0, .eq (.bool true)), (0, .core ⟨[(42, .imm (enc28 x2_))], []⟩), (6, .call 19 (res19 x9_) (outs19 x9_)), (3, .call 20 (res20 x13_) (outs20 x13_)), (0, .eq (.bool false)), (4, .call 19 (res19 x19_) (outs19 x19_)), (3, .call 20 (res20 x23_) (outs20 x23_)), (0, .eq (.bool false)), (5, .call 19 (res19 x30_) (outs19 x30_)), (3, .call 20 (res20 x34_) (outs20 x34_)), (0, .eq (.bool true))]) (obs := [AV.bool (!(x30_ == x34_)) = .bool true, CallOK Try.prog ann 20 [.agg (enc28 x2_), .slice .sh (rows23 r13), .slice .sh (rows23 params3)] (res20 x34_) (outs20 x34_), CallOK Try.prog ann 19 [.agg (enc28 x2_), .slice .sh (rows23 r13), .slice .sh (rows23 params3)] (res19 x30_) (outs19 x30_), AV.bool (!(x19_ == x23_)) = .bool false, CallOK Try.prog ann 20 [.agg (enc28 x2_), .slice .sh (rows23 row2), .slice .sh (rows23 v14)] (res20 x23_) (outs20 x23_), CallOK Try.prog ann 19 [.agg (enc28 x2_), .slice .sh (rows23 row2), .slice .sh (rows23 v14)] (res19 x19_) (outs19 x19_), AV.bool (!(x9_ == x13_)) = .bool false, CallOK Try.prog ann 20 [.agg (enc28 x2_), .slice .sh (rows23 r13), .slice .sh (rows23 v14)] (res20 x13_) (outs20 x13_), CallOK Try.prog ann 19 [.agg (enc28 x2_), .slice .sh (rows23 r13), .slice .sh (rows23 v14)] (res19 x9_) (outs19 x9_), indexAddrA Try.prog an4 (some 42) 27 (.slice (.own 29) (rows28 t38)) (.int .i64 t40) = some ⟨[(42, .imm (enc28 x2_))], []⟩, AV.bool (decide (t40 < t39)) = .bool true]) (by kernel_rfl) ⟨congrArg AV.bool c3_, ev20 n _ _ _ _ hx34_, ev19 n _ _ _ _ hx30_, congrArg AV.bool c2_, ev20 n _ _ _ _ hx23_, ev19 n _ _ _ _ hx19_, congrArg AV.bool c1_, ev20 n _ _ _ _ hx13_, ev19 n _ _ _ _ hx9_, R27.idxOb (A := an4) hx2_, congrArg AV.bool c0_, trivial⟩
        ·
          exact run_at (S := sp4_0) (G := []) (sc := [(0, .eq (.bool true)), (0, .core ⟨[(42, .imm (enc28 x2_))], []⟩), (6, .call 19 (res19 x9_) (outs19 x9_)), (3, .call 20 (res20 x13_) (outs20 x13_)), (0, .eq (.bool false)), (4, .call 19 (res19 x19_) (outs19 x19_)), (3, .call 20 (res20 x23_) (outs20 x23_)), (0, .eq (.bool false)), (5, .call 19 (res19 x30_) (outs19 x30_)), (3, .call 20 (res20 x34_) (outs20 x34_)), (0, .eq (.bool false))]) (obs := [AV.bool (!(x30_ == x34_)) = .bool false, CallOK Try.prog ann 20 [.agg (enc28 x2_), .slice .sh (rows23 r13), .slice .sh (rows23 params3)] (res20 x34_) (outs20 x34_), CallOK Try.prog ann 19 [.agg (enc28 x2_), .slice .sh (rows23 r13), .slice .sh (rows23 params3)] (res19 x30_) (outs19 x30_), AV.bool (!(x19_ == x23_)) = .bool false, CallOK Try.prog ann 20 [.agg (enc28 x2_), .slice .sh (rows23 row2), .slice .sh (rows23 v14)] (res20 x23_) (outs20 x23_), CallOK Try.prog ann 19 [.agg (enc28 x2_), .slice .sh (rows23 row2), .slice .sh (rows23 v14)] (res19 x19_) (outs19 x19_), AV.bool (!(x9_ == x13_)) = .bool false, CallOK Try.prog ann 20 [.agg (enc28 x2_), .slice .sh (rows23 r13), .slice .sh (rows23 v14)] (res20 x13_) (outs20 x13_), CallOK Try.prog ann 19 [.agg (enc28 x2_), .slice .sh (rows23 r13), .slice .sh (rows23 v14)] (res19 x9_) (outs19 x9_), indexAddrA Try.prog an4 (some 42) 27 (.slice (.own 29) (rows28 t38)) (.int .i64 t40) = some ⟨[(42, .imm (enc28 x2_))], []⟩, AV.bool (decide (t40 < t39)) = .bool true]) (by kernel_rfl) ⟨congrArg AV.bool c3_, ev20 n _ _ _ _ hx34_, ev19 n _ _ _ _ hx30_, congrArg AV.bool c2_, ev20 n _ _ _ _ hx23_, ev19 n _ _ _ _ hx19_, congrArg AV.bool c1_, ev20 n _ _ _ _ hx13_, ev19 n _ _ _ _ hx9_, R27.idxOb (A := an4) hx2_, congrArg AV.bool c0_, trivial⟩ (hback _ _ _ _ _ _ _ _ h11_)
  ·
    exact run_at (S := sp4_0) (G := []) (sc := [(0, .eq (.bool false))]) (obs := [AV.bool (decide (t40 < t39)) = .bool false]) (by kernel_rfl) ⟨congrArg AV.bool c0_, trivial⟩ (hk_1 _ h1_)

def L4_0 (k_1 : Option Bool) : Nat → (List TValue) → (List TValue) → (List TValue) → (List TValue) → (List TPredicate) → Int → Int → Option Bool
  | 0, _, _, _, _, _, _, _ => none
  | n + 1, row2, params3, r13, v14, t38, t39, t40 => B4_0 k_1 (L4_0 k_1 n) n row2 params3 r13 v14 t38 t39 t40
theorem l4_0 (k_1 : Option Bool) (hk_1 : ∀  (r : Bool), k_1 = some r → At e4 [1, 1, 1, 1, 1, 1] (st4_1) (res4 r) (outs4 r)) : ∀ (n : Nat) (row2 : (List TValue)) (params3 : (List TValue)) (r13 : (List TValue)) (v14 : (List TValue)) (t38 : (List TPredicate)) (t39 : Int) (t40 : Int) (r : Bool), L4_0 k_1 n row2 params3 r13 v14 t38 t39 t40 = some r → At e4 [0, 1, 0, 1, 1, 1, 1, 1] (st4_0 row2 params3 r13 v14 t38 t39 t40) (res4 r) (outs4 r)
  | 0, _, _, _, _, _, _, _, _, h => by simp [L4_0] at h
  | n + 1, row2, params3, r13, v14, t38, t39, t40, r, h => b4_0 k_1 hk_1 (L4_0 k_1 n) (l4_0 k_1 hk_1 n) n row2 params3 r13 v14 t38 t39 t40 r h
def sp4_1 : Stops := []
def B4_1 (n : Nat)  : Option Bool :=
  (F14 n ).bind fun x1_ =>
  some x1_

theorem b4_1 (n : Nat)  (r : Bool) (h : B4_1 n = some r) : At e4 [1, 1, 1, 1, 1, 1] (st4_1) (res4 r) (outs4 r) := by
  unfold B4_1 at h
  refine bind_elim h (fun x1_ hx1_ h12_ => ?_)
  have e_ := Option.some.inj h12_
  subst e_
  exact run_ret (S := sp4_1) (G := []) (sc := [(0, .call 14 (res14 x1_) (outs14 x1_))]) (obs := [CallOK Try.prog ann 14 [] (res14 x1_) (outs14 x1_)]) (by kernel_rfl) ⟨ev14 n  _ hx1_, trivial⟩

def sp4_2 : Stops := [([0, 1, 0, 1, 1, 1, 1, 1], [(2, .nrm), (3, .nrm), (13, .own 24), (14, .own 24), (38, .own 29), (39, .same), (40, .same)], [])]
def B4_2 (n : Nat) (codes0 : (List Int)) (raw1 : TPredicate) (row2 : (List TValue)) (params3 : (List TValue)) : Option Bool :=
  (F10 n codes0 160).bind fun x4_ =>
  (F11 n x4_ 4).bind fun x7_ =>
  (F11 n x7_.2 2).bind fun x9_ =>
  (F12 n x9_.2 x7_.1 x9_.1 3).bind fun x15_ =>
  (F17 n x15_.2 x7_.1 0 3).bind fun x20_ =>
  (F18 n x20_.2 x9_.1).bind fun x23_ =>
  (F13 n x23_.2 x15_.1).bind fun x29_ =>
  L4_0 (B4_1 n) n row2 params3 x20_.1 x23_.1 [x15_.1, x29_.1, raw1] ([x15_.1, x29_.1, raw1].length : Int) 0

theorem b4_2 (n : Nat) (codes0 : (List Int)) (raw1 : TPredicate) (row2 : (List TValue)) (params3 : (List TValue)) (r : Bool) (h : B4_2 n codes0 raw1 row2 params3 = some r) : At e4 [] (st4_2 codes0 raw1 row2 params3) (res4 r) (outs4 r) := by
  unfold B4_2 at h
  refine bind_elim h (fun x4_ hx4_ h13_ => ?_)
  refine bind_elim h13_ (fun x7_ hx7_ h14_ => ?_)
  refine bind_elim h14_ (fun x9_ hx9_ h15_ => ?_)
  refine bind_elim h15_ (fun x15_ hx15_ h16_ => ?_)
  refine bind_elim h16_ (fun x20_ hx20_ h17_ => ?_)
  refine bind_elim h17_ (fun x23_ hx23_ h18_ => ?_)
  refine bind_elim h18_ (fun x29_ hx29_ h19_ => ?_)
  exact run_at (S := sp4_2) (G := []) (sc := [(3, .call 10 (res10 x4_) (outs10 x4_)), (2, .call 11 (res11 x7_) (outs11 x7_)), (1, .call 11 (res11 x9_) (outs11 x9_)), (5, .call 12 (res12 x15_) (outs12 x15_)), (4, .call 17 (res17 x20_) (outs17 x20_)), (2, .call 18 (res18 x23_) (outs18 x23_)), (5, .call 13 (res13 x29_) (outs13 x29_)), (1, .eq (.slice (.own 29) (rows28 [x15_.1, x29_.1, raw1]))), (0, .eq (.int .i64 ([x15_.1, x29_.1, raw1].length : Int)))]) (obs := [AV.int .i64 ((rows28 [x15_.1, x29_.1, raw1]).length : Int) = .int .i64 ([x15_.1, x29_.1, raw1].length : Int), AV.slice (.own 29) ([x15_.1, x29_.1, raw1].map enc28) = .slice (.own 29) (rows28 [x15_.1, x29_.1, raw1]), CallOK Try.prog ann 13 [.ptr (enc57 x23_.2), .agg (enc28 x15_.1)] (res13 x29_) (outs13 x29_), CallOK Try.prog ann 18 [.ptr (enc57 x20_.2), .slice .sh (rows3 x9_.1)] (res18 x23_) (outs18 x23_), CallOK Try.prog ann 17 [.ptr (enc57 x15_.2), .slice .sh (rows3 x7_.1), .int .i64 0, .int .i64 3] (res17 x20_) (outs17 x20_), CallOK Try.prog ann 12 [.ptr (enc57 x9_.2), .slice .sh (rows3 x7_.1), .slice .sh (rows3 x9_.1), .int .i64 3] (res12 x15_) (outs12 x15_), CallOK Try.prog ann 11 [.ptr (enc57 x7_.2), .int .i64 2] (res11 x9_) (outs11 x9_), CallOK Try.prog ann 11 [.ptr (enc57 x4_), .int .i64 4] (res11 x7_) (outs11 x7_), CallOK Try.prog ann 10 [.slice .sh (rows5 codes0), .int .i64 160] (res10 x4_) (outs10 x4_)]) (by kernel_rfl) ⟨R27.lenOb [x15_.1, x29_.1, raw1], R27.build1 [x15_.1, x29_.1, raw1], ev13 n _ _ _ hx29_, ev18 n _ _ _ hx23_, ev17 n _ _ _ _ _ hx20_, ev12 n _ _ _ _ _ hx15_, ev11 n _ _ _ hx9_, ev11 n _ _ _ hx7_, ev10 n _ _ _ hx4_, trivial⟩ (l4_0 (B4_1 n) (b4_1 n) n _ _ _ _ _ _ _ _ h19_)

def F4 (n : Nat) (codes0 : (List Int)) (raw1 : TPredicate) (row2 : (List TValue)) (params3 : (List TValue)) : Option Bool := B4_2 n codes0 raw1 row2 params3
theorem ev4 (n : Nat) (codes0 : (List Int)) (raw1 : TPredicate) (row2 : (List TValue)) (params3 : (List TValue)) (r : Bool) (h : F4 n codes0 raw1 row2 params3 = some r) : CallOK Try.prog ann 4 [.slice .sh (rows5 codes0), .agg (enc28 raw1), .slice .sh (rows23 row2), .slice .sh (rows23 params3)] (res4 r) (outs4 r) :=
  call_of_at (E := e4) (s := st4_2 codes0 raw1 row2 params3) body4 Try.func4 (by kernel_rfl) (by kernel_rfl) (by kernel_rfl) (by kernel_rfl) (by kernel_rfl) (emptyOK_of (by kernel_rfl)) (by kernel_rfl) (b4_2 n codes0 raw1 row2 params3 r h)

end Go.Proofs.Ytalbakjfbgkjjaa
