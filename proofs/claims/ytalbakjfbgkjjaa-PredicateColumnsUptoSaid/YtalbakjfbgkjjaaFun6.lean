/- Functions of the program as plain functions, and that the program answers as they do; written by a program (comp.py). -/
import Derived.Test.YtalbakjfbgkjjaaFun5
set_option maxRecDepth 100000
set_option linter.all false
namespace Go.Proofs.Ytalbakjfbgkjjaa
open Go.Abs

/-- partsync/partsynclaw05.same -/
noncomputable def e26 : Env := { P := Try.prog, ann := ann, f := 26, fn := Try.f26, ptrs := [], rets := [(4, .same)] }
def st26_0 (a0 : (List Int)) (b1 : (List Int)) (t12 : Int) (t13 : Int) : LS := ⟨[(0, .slice .sh (rows3 a0)), (1, .slice .sh (rows3 b1)), (12, .int .i64 t12), (13, .int .i64 t13)], []⟩
def st26_1  : LS := ⟨[], []⟩
def st26_2 (a0 : (List Int)) (b1 : (List Int)) : LS := ⟨[(0, .slice .sh (rows3 a0)), (1, .slice .sh (rows3 b1))], []⟩
def sp26_0 : Stops := [([0, 1, 0, 1, 1], [(0, .nrm), (1, .nrm), (12, .same), (13, .same)], []), ([1, 1, 1], [], [])]
def B26_0 (k_1 : Option Bool) (back : (List Int) → (List Int) → Int → Int → Option Bool) (n : Nat) (a0 : (List Int)) (b1 : (List Int)) (t12 : Int) (t13 : Int) : Option Bool :=
  if decide (t13 < t12) then
    (idx a0 t13).bind fun x6_ =>
    (idx b1 t13).bind fun x10_ =>
    if x6_ != x10_ then
      some false
    else
      back a0 b1 t12 (w64 (t13 + 1))
  else
    k_1

theorem b26_0 (k_1 : Option Bool) (hk_1 : ∀  (r : Bool), k_1 = some r → At e26 [1, 1, 1] (st26_1) (res26 r) (outs26 r)) (back : (List Int) → (List Int) → Int → Int → Option Bool) (hback : ∀ (a0 : (List Int)) (b1 : (List Int)) (t12 : Int) (t13 : Int) (r : Bool), back a0 b1 t12 t13 = some r → At e26 [0, 1, 0, 1, 1] (st26_0 a0 b1 t12 t13) (res26 r) (outs26 r)) (n : Nat) (a0 : (List Int)) (b1 : (List Int)) (t12 : Int) (t13 : Int) (r : Bool) (h : B26_0 k_1 back n a0 b1 t12 t13 = some r) : At e26 [0, 1, 0, 1, 1] (st26_0 a0 b1 t12 t13) (res26 r) (outs26 r) := by
  unfold B26_0 at h
  refine ite_elim h (fun c0_ h1_ => ?_) (fun c0_ h1_ => ?_)
  ·
    refine bind_elim h1_ (fun x6_ hx6_ h2_ => ?_)
    refine bind_elim h2_ (fun x10_ hx10_ h3_ => ?_)
    refine ite_elim h3_ (fun c1_ h4_ => ?_) (fun c1_ h4_ => ?_)
    ·
      have e_ := Option.some.inj h4_
      subst e_
      exact run_ret (S := sp26_0) (G := []) (sc := [(0, .eq (.bool true)), (4, .core ⟨[(18, .imm (enc3 x6_))], []⟩), (3, .core ⟨[(22, .imm (enc3 x10_))], []⟩), (1, .eq (.bool true))]) (obs := [AV.bool (x6_ != x10_) = .bool true, indexAddrA Try.prog an26 (some 22) 30 (.slice .sh (rows3 b1)) (.int .i64 t13) = some ⟨[(22, .imm (enc3 x10_))], []⟩, indexAddrA Try.prog an26 (some 18) 30 (.slice .sh (rows3 a0)) (.int .i64 t13) = some ⟨[(18, .imm (enc3 x6_))], []⟩, AV.bool (decide (t13 < t12)) = .bool true]) (by kernel_rfl) ⟨congrArg AV.bool c1_, R30.idxOb (A := an26) hx10_, R30.idxOb (A := an26) hx6_, congrArg AV.bool c0_, trivial⟩
    ·
      exact run_at (S := sp26_0) (G := []) (sc := [(0, .eq (.bool true)), (4, .core ⟨[(18, .imm (enc3 x6_))], []⟩), (3, .core ⟨[(22, .imm (enc3 x10_))], []⟩), (1, .eq (.bool false))]) (obs := [AV.bool (x6_ != x10_) = .bool false, indexAddrA Try.prog an26 (some 22) 30 (.slice .sh (rows3 b1)) (.int .i64 t13) = some ⟨[(22, .imm (enc3 x10_))], []⟩, indexAddrA Try.prog an26 (some 18) 30 (.slice .sh (rows3 a0)) (.int .i64 t13) = some ⟨[(18, .imm (enc3 x6_))], []⟩, AV.bool (decide (t13 < t12)) = .bool true]) (by kernel_rfl) ⟨congrArg AV.bool c1_, R30.idxOb (A := an26) hx10_, R30.idxOb (A := an26) hx6_, congrArg AV.bool c0_, trivial⟩ (hback _ _ _ _ _ h4_)
  ·
    exact run_at (S := sp26_0) (G := []) (sc := [(0, .eq (.bool false))]) (obs := [AV.bool (decide (t13 < t12)) = .bool false]) (by kernel_rfl) ⟨congrArg AV.bool c0_, trivial⟩ (hk_1 _ h1_)

def L26_0 (k_1 : Option Bool) : Nat → (List Int) → (List Int) → Int → Int → Option Bool
  | 0, _, _, _, _ => none
  | n + 1, a0, b1, t12, t13 => B26_0 k_1 (L26_0 k_1 n) n a0 b1 t12 t13
theorem l26_0 (k_1 : Option Bool) (hk_1 : ∀  (r : Bool), k_1 = some r → At e26 [1, 1, 1] (st26_1) (res26 r) (outs26 r)) : ∀ (n : Nat) (a0 : (List Int)) (b1 : (List Int)) (t12 : Int) (t13 : Int) (r : Bool), L26_0 k_1 n a0 b1 t12 t13 = some r → At e26 [0, 1, 0, 1, 1] (st26_0 a0 b1 t12 t13) (res26 r) (outs26 r)
  | 0, _, _, _, _, _, h => by simp [L26_0] at h
  | n + 1, a0, b1, t12, t13, r, h => b26_0 k_1 hk_1 (L26_0 k_1 n) (l26_0 k_1 hk_1 n) n a0 b1 t12 t13 r h
def sp26_1 : Stops := []
def B26_1 (n : Nat)  : Option Bool :=
  some true

theorem b26_1 (n : Nat)  (r : Bool) (h : B26_1 n = some r) : At e26 [1, 1, 1] (st26_1) (res26 r) (outs26 r) := by
  unfold B26_1 at h
  have e_ := Option.some.inj h
  subst e_
  exact run_ret (S := sp26_1) (G := []) (sc := []) (obs := []) (by kernel_rfl) trivial

def sp26_2 : Stops := [([0, 1, 0, 1, 1], [(0, .nrm), (1, .nrm), (12, .same), (13, .same)], [])]
def B26_2 (n : Nat) (a0 : (List Int)) (b1 : (List Int)) : Option Bool :=
  if (a0.length : Int) != (b1.length : Int) then
    some false
  else
    L26_0 (B26_1 n) n a0 b1 (a0.length : Int) 0

theorem b26_2 (n : Nat) (a0 : (List Int)) (b1 : (List Int)) (r : Bool) (h : B26_2 n a0 b1 = some r) : At e26 [] (st26_2 a0 b1) (res26 r) (outs26 r) := by
  unfold B26_2 at h
  refine ite_elim h (fun c0_ h5_ => ?_) (fun c0_ h5_ => ?_)
  ·
    have e_ := Option.some.inj h5_
    subst e_
    exact run_ret (S := sp26_2) (G := []) (sc := [(2, .eq (.int .i64 (a0.length : Int))), (1, .eq (.int .i64 (b1.length : Int))), (0, .eq (.bool true))]) (obs := [AV.bool ((a0.length : Int) != (b1.length : Int)) = .bool true, AV.int .i64 ((rows3 b1).length : Int) = .int .i64 (b1.length : Int), AV.int .i64 ((rows3 a0).length : Int) = .int .i64 (a0.length : Int)]) (by kernel_rfl) ⟨congrArg AV.bool c0_, R30.lenOb b1, R30.lenOb a0, trivial⟩
  ·
    exact run_at (S := sp26_2) (G := []) (sc := [(2, .eq (.int .i64 (a0.length : Int))), (1, .eq (.int .i64 (b1.length : Int))), (0, .eq (.bool false)), (1, .eq (.int .i64 (a0.length : Int)))]) (obs := [AV.int .i64 ((rows3 a0).length : Int) = .int .i64 (a0.length : Int), AV.bool ((a0.length : Int) != (b1.length : Int)) = .bool false, AV.int .i64 ((rows3 b1).length : Int) = .int .i64 (b1.length : Int), AV.int .i64 ((rows3 a0).length : Int) = .int .i64 (a0.length : Int)]) (by kernel_rfl) ⟨R30.lenOb a0, congrArg AV.bool c0_, R30.lenOb b1, R30.lenOb a0, trivial⟩ (l26_0 (B26_1 n) (b26_1 n) n _ _ _ _ _ h5_)

def F26 (n : Nat) (a0 : (List Int)) (b1 : (List Int)) : Option Bool := B26_2 n a0 b1
theorem ev26 (n : Nat) (a0 : (List Int)) (b1 : (List Int)) (r : Bool) (h : F26 n a0 b1 = some r) : CallOK Try.prog ann 26 [.slice .sh (rows3 a0), .slice .sh (rows3 b1)] (res26 r) (outs26 r) :=
  call_of_at (E := e26) (s := st26_2 a0 b1) body26 Try.func26 (by kernel_rfl) (by kernel_rfl) (by kernel_rfl) (by kernel_rfl) (by kernel_rfl) (emptyOK_of (by kernel_rfl)) (by kernel_rfl) (b26_2 n a0 b1 r h)

/-- partsync/partsyncref05.Add -/
noncomputable def e76 : Env := { P := Try.prog, ann := ann, f := 76, fn := Try.f76, ptrs := [], rets := [(4, .nrm)] }
def st76_0 (l0 : (List Int)) (n1 : Int) (i5 : Int) : LS := ⟨[(0, .slice .sh (rows3 l0)), (1, .int .i64 n1), (5, .int .i64 i5)], []⟩
def st76_1 (l0 : (List Int)) (n1 : Int) (i5 : Int) : LS := ⟨[(0, .slice .sh (rows3 l0)), (1, .int .i64 n1), (5, .int .i64 i5)], []⟩
def st76_2 (l0 : (List Int)) (n1 : Int) (i5 : Int) : LS := ⟨[(0, .slice .sh (rows3 l0)), (1, .int .i64 n1), (5, .int .i64 i5)], []⟩
def st76_3 (l0 : (List Int)) (n1 : Int) : LS := ⟨[(0, .slice .sh (rows3 l0)), (1, .int .i64 n1)], []⟩
def sp76_0 : Stops := [([0, 0, 1, 1], [(0, .nrm), (1, .same), (5, .same)], []), ([1, 1, 1], [(0, .nrm), (1, .same), (5, .same)], [])]
def B76_0 (k_2 : (List Int) → Int → Int → Option (List Int)) (back : (List Int) → Int → Int → Option (List Int)) (n : Nat) (l0 : (List Int)) (n1 : Int) (i5 : Int) : Option (List Int) :=
  if decide (i5 < (l0.length : Int)) then
    (idx l0 i5).bind fun x8_ =>
    if decide (x8_ < n1) then
      back l0 n1 (w64 (i5 + 1))
    else
      k_2 l0 n1 i5
  else
    k_2 l0 n1 i5

theorem b76_0 (k_2 : (List Int) → Int → Int → Option (List Int)) (hk_2 : ∀ (l0 : (List Int)) (n1 : Int) (i5 : Int) (r : (List Int)), k_2 l0 n1 i5 = some r → At e76 [1, 1, 1] (st76_2 l0 n1 i5) (res76 r) (outs76 r)) (back : (List Int) → Int → Int → Option (List Int)) (hback : ∀ (l0 : (List Int)) (n1 : Int) (i5 : Int) (r : (List Int)), back l0 n1 i5 = some r → At e76 [0, 0, 1, 1] (st76_0 l0 n1 i5) (res76 r) (outs76 r)) (n : Nat) (l0 : (List Int)) (n1 : Int) (i5 : Int) (r : (List Int)) (h : B76_0 k_2 back n l0 n1 i5 = some r) : At e76 [0, 0, 1, 1] (st76_0 l0 n1 i5) (res76 r) (outs76 r) := by
  unfold B76_0 at h
  refine ite_elim h (fun c0_ h1_ => ?_) (fun c0_ h1_ => ?_)
  ·
    refine bind_elim h1_ (fun x8_ hx8_ h2_ => ?_)
    refine ite_elim h2_ (fun c1_ h3_ => ?_) (fun c1_ h3_ => ?_)
    ·
      exact run_at (S := sp76_0) (G := []) (sc := [(2, .eq (.int .i64 (l0.length : Int))), (0, .eq (.bool true)), (3, .core ⟨[(13, .imm (enc3 x8_))], []⟩), (2, .eq (.bool true))]) (obs := [AV.bool (decide (x8_ < n1)) = .bool true, indexAddrA Try.prog an76 (some 13) 30 (.slice .sh (rows3 l0)) (.int .i64 i5) = some ⟨[(13, .imm (enc3 x8_))], []⟩, AV.bool (decide (i5 < (l0.length : Int))) = .bool true, AV.int .i64 ((rows3 l0).length : Int) = .int .i64 (l0.length : Int)]) (by kernel_rfl) ⟨congrArg AV.bool c1_, R30.idxOb (A := an76) hx8_, congrArg AV.bool c0_, R30.lenOb l0, trivial⟩ (hback _ _ _ _ h3_)
    ·
      exact run_at (S := sp76_0) (G := []) (sc := [(2, .eq (.int .i64 (l0.length : Int))), (0, .eq (.bool true)), (3, .core ⟨[(13, .imm (enc3 x8_))], []⟩), (2, .eq (.bool false))]) (obs := [AV.bool (decide (x8_ < n1)) = .bool false, indexAddrA Try.prog an76 (some 13) 30 (.slice .sh (rows3 l0)) (.int .i64 i5) = some ⟨[(13, .imm (enc3 x8_))], []⟩, AV.bool (decide (i5 < (l0.length : Int))) = .bool true, AV.int .i64 ((rows3 l0).length : Int) = .int .i64 (l0.length : Int)]) (by kernel_rfl) ⟨congrArg AV.bool c1_, R30.idxOb (A := an76) hx8_, congrArg AV.bool c0_, R30.lenOb l0, trivial⟩ (hk_2 _ _ _ _ h3_)
  ·
    exact run_at (S := sp76_0) (G := []) (sc := [(2, .eq (.int .i64 (l0.length : Int))), (0, .eq (.bool false))]) (obs := [AV.bool (decide (i5 < (l0.length : Int))) = .bool false, AV.int .i64 ((rows3 l0).length : Int) = .int .i64 (l0.length : Int)]) (by kernel_rfl) ⟨congrArg AV.bool c0_, R30.lenOb l0, trivial⟩ (hk_2 _ _ _ _ h1_)

def L76_0 (k_2 : (List Int) → Int → Int → Option (List Int)) : Nat → (List Int) → Int → Int → Option (List Int)
  | 0, _, _, _ => none
  | n + 1, l0, n1, i5 => B76_0 k_2 (L76_0 k_2 n) n l0 n1 i5
theorem l76_0 (k_2 : (List Int) → Int → Int → Option (List Int)) (hk_2 : ∀ (l0 : (List Int)) (n1 : Int) (i5 : Int) (r : (List Int)), k_2 l0 n1 i5 = some r → At e76 [1, 1, 1] (st76_2 l0 n1 i5) (res76 r) (outs76 r)) : ∀ (n : Nat) (l0 : (List Int)) (n1 : Int) (i5 : Int) (r : (List Int)), L76_0 k_2 n l0 n1 i5 = some r → At e76 [0, 0, 1, 1] (st76_0 l0 n1 i5) (res76 r) (outs76 r)
  | 0, _, _, _, _, h => by simp [L76_0] at h
  | n + 1, l0, n1, i5, r, h => b76_0 k_2 hk_2 (L76_0 k_2 n) (l76_0 k_2 hk_2 n) n l0 n1 i5 r h
def sp76_1 : Stops := []
def B76_1 (n : Nat) (l0 : (List Int)) (n1 : Int) (i5 : Int) : Option (List Int) :=
  (cut l0 none (some i5)).bind fun x3_ =>
  (app [] x3_).bind fun x4_ =>
  (app x4_ [n1]).bind fun x7_ =>
  (cut l0 (some i5) none).bind fun x10_ =>
  (app x7_ x10_).bind fun x11_ =>
  some x11_

theorem b76_1 (n : Nat) (l0 : (List Int)) (n1 : Int) (i5 : Int) (r : (List Int)) (h : B76_1 n l0 n1 i5 = some r) : At e76 [1, 1, 1, 1] (st76_1 l0 n1 i5) (res76 r) (outs76 r) := by
  unfold B76_1 at h
  refine bind_elim h (fun x3_ hx3_ h4_ => ?_)
  refine bind_elim h4_ (fun x4_ hx4_ h5_ => ?_)
  refine bind_elim h5_ (fun x7_ hx7_ h6_ => ?_)
  refine bind_elim h6_ (fun x10_ hx10_ h7_ => ?_)
  refine bind_elim h7_ (fun x11_ hx11_ h8_ => ?_)
  have e_ := Option.some.inj h8_
  subst e_
  exact run_ret (S := sp76_1) (G := []) (sc := [(2, .core ⟨[(35, .slice .sh (rows3 x3_))], []⟩), (0, .core ⟨[(36, .slice (.own 3) (rows3 x4_))], []⟩), (2, .core ⟨[(39, .slice (.own 3) (rows3 x7_)), (36, .slice .sh (rows3 x4_))], []⟩), (2, .core ⟨[(42, .slice .sh (rows3 x10_))], []⟩), (0, .core ⟨[(43, .slice (.own 3) (rows3 x11_)), (39, .slice .sh (rows3 x7_))], []⟩)]) (obs := [appendA Try.prog an76 43 30 (.tmp 39) (.slice (.own 3) (rows3 x7_)) (.slice .sh (rows3 x10_)) (fun _ => none) = some ⟨[(43, .slice (.own 3) (rows3 x11_)), (39, .slice .sh (rows3 x7_))], []⟩, sliceV Try.prog an76 (some 42) 30 (.slice .sh (rows3 l0)) ((some i5).map (AV.int .i64)) (none.map (AV.int .i64)) = some ⟨[(42, .slice .sh (rows3 x10_))], []⟩, appendA Try.prog an76 39 30 (.tmp 36) (.slice (.own 3) (rows3 x4_)) (.slice (.own 3) (rows3 [n1])) (fun _ => none) = some ⟨[(39, .slice (.own 3) (rows3 x7_)), (36, .slice .sh (rows3 x4_))], []⟩, appendA Try.prog an76 36 30 (.const (.slice none 0 0)) (.slice .nil []) (.slice .sh (rows3 x3_)) (fun _ => none) = some ⟨[(36, .slice (.own 3) (rows3 x4_))], []⟩, sliceV Try.prog an76 (some 35) 30 (.slice .sh (rows3 l0)) (none.map (AV.int .i64)) ((some i5).map (AV.int .i64)) = some ⟨[(35, .slice .sh (rows3 x3_))], []⟩]) (by kernel_rfl) ⟨R30.appOb (A := an76) (by decide) hx11_, R30.cutOb (A := an76) hx10_, R30.appOb (A := an76) (by decide) hx7_, (R30.appNilU (A := an76) hx4_).trans (freshU_own (by kernel_rfl) (by kernel_rfl)), R30.cutOb (A := an76) hx3_, trivial⟩

def sp76_2 : Stops := [([1, 1, 1, 1], [(0, .nrm), (1, .same), (5, .same)], [])]
def B76_2 (n : Nat) (l0 : (List Int)) (n1 : Int) (i5 : Int) : Option (List Int) :=
  if decide (i5 < (l0.length : Int)) then
    (idx l0 i5).bind fun x8_ =>
    if x8_ == n1 then
      some l0
    else
      B76_1 n l0 n1 i5
  else
    B76_1 n l0 n1 i5

theorem b76_2 (n : Nat) (l0 : (List Int)) (n1 : Int) (i5 : Int) (r : (List Int)) (h : B76_2 n l0 n1 i5 = some r) : At e76 [1, 1, 1] (st76_2 l0 n1 i5) (res76 r) (outs76 r) := by
  unfold B76_2 at h
  refine ite_elim h (fun c0_ h9_ => ?_) (fun c0_ h9_ => ?_)
  ·
    refine bind_elim h9_ (fun x8_ hx8_ h10_ => ?_)
    refine ite_elim h10_ (fun c1_ h11_ => ?_) (fun c1_ h11_ => ?_)
    ·
      have e_ := Option.some.inj h11_
      subst e_
      exact run_ret (S := sp76_2) (G := []) (sc := [(2, .eq (.int .i64 (l0.length : Int))), (0, .eq (.bool true)), (3, .core ⟨[(27, .imm (enc3 x8_))], []⟩), (2, .eq (.bool true))]) (obs := [AV.bool (x8_ == n1) = .bool true, indexAddrA Try.prog an76 (some 27) 30 (.slice .sh (rows3 l0)) (.int .i64 i5) = some ⟨[(27, .imm (enc3 x8_))], []⟩, AV.bool (decide (i5 < (l0.length : Int))) = .bool true, AV.int .i64 ((rows3 l0).length : Int) = .int .i64 (l0.length : Int)]) (by kernel_rfl) ⟨congrArg AV.bool c1_, R30.idxOb (A := an76) hx8_, congrArg AV.bool c0_, R30.lenOb l0, trivial⟩
    ·
      exact run_at (S := sp76_2) (G := []) (sc := [(2, .eq (.int .i64 (l0.length : Int))), (0, .eq (.bool true)), (3, .core ⟨[(27, .imm (enc3 x8_))], []⟩), (2, .eq (.bool false))]) (obs := [AV.bool (x8_ == n1) = .bool false, indexAddrA Try.prog an76 (some 27) 30 (.slice .sh (rows3 l0)) (.int .i64 i5) = some ⟨[(27, .imm (enc3 x8_))], []⟩, AV.bool (decide (i5 < (l0.length : Int))) = .bool true, AV.int .i64 ((rows3 l0).length : Int) = .int .i64 (l0.length : Int)]) (by kernel_rfl) ⟨congrArg AV.bool c1_, R30.idxOb (A := an76) hx8_, congrArg AV.bool c0_, R30.lenOb l0, trivial⟩ (b76_1 n _ _ _ _ h11_)
  ·
    exact run_at (S := sp76_2) (G := []) (sc := [(2, .eq (.int .i64 (l0.length : Int))), (0, .eq (.bool false))]) (obs := [AV.bool (decide (i5 < (l0.length : Int))) = .bool false, AV.int .i64 ((rows3 l0).length : Int) = .int .i64 (l0.length : Int)]) (by kernel_rfl) ⟨congrArg AV.bool c0_, R30.lenOb l0, trivial⟩ (b76_1 n _ _ _ _ h9_)

def sp76_3 : Stops := [([0, 0, 1, 1], [(0, .nrm), (1, .same), (5, .same)], [])]
def B76_3 (n : Nat) (l0 : (List Int)) (n1 : Int) : Option (List Int) :=
  L76_0 (B76_2 n) n l0 n1 0

theorem b76_3 (n : Nat) (l0 : (List Int)) (n1 : Int) (r : (List Int)) (h : B76_3 n l0 n1 = some r) : At e76 [] (st76_3 l0 n1) (res76 r) (outs76 r) := by
  unfold B76_3 at h
  exact run_at (S := sp76_3) (G := []) (sc := []) (obs := []) (by kernel_rfl) trivial (l76_0 (B76_2 n) (b76_2 n) n _ _ _ _ h)

def F76 (n : Nat) (l0 : (List Int)) (n1 : Int) : Option (List Int) := B76_3 n l0 n1
theorem ev76 (n : Nat) (l0 : (List Int)) (n1 : Int) (r : (List Int)) (h : F76 n l0 n1 = some r) : CallOK Try.prog ann 76 [.slice .sh (rows3 l0), .int .i64 n1] (res76 r) (outs76 r) :=
  call_of_at (E := e76) (s := st76_3 l0 n1) body76 Try.func76 (by kernel_rfl) (by kernel_rfl) (by kernel_rfl) (by kernel_rfl) (by kernel_rfl) (emptyOK_of (by kernel_rfl)) (by kernel_rfl) (b76_3 n l0 n1 r h)

/-- partsync/partsyncref05.gather -/
noncomputable def e54 : Env := { P := Try.prog, ann := ann, f := 54, fn := Try.f54, ptrs := [], rets := [(4, .nrm)] }
def st54_0 (l1 : (List Int)) (t15 : (List TOperand)) (t16 : Int) (t17 : Int) (bp2 : TPredicate) : LS := ⟨[(1, .slice .sh (rows3 l1)), (2, .loc 2 0), (15, .slice (.own 26) (rows25 t15)), (16, .int .i64 t16), (17, .int .i64 t17)], [(2, (enc28 bp2))]⟩
def st54_1 (l1 : (List Int)) (t36 : Int) (t37 : Int) (bp2 : TPredicate) : LS := ⟨[(1, .slice .sh (rows3 l1)), (2, .loc 2 0), (36, .int .i64 t36), (37, .int .i64 t37)], [(2, (enc28 bp2))]⟩
def st54_2 (l1 : (List Int)) : LS := ⟨[(1, .slice .sh (rows3 l1))], []⟩
def st54_3 (l1 : (List Int)) (bp2 : TPredicate) : LS := ⟨[(1, .slice .sh (rows3 l1)), (2, .loc 2 0)], [(2, (enc28 bp2))]⟩
def st54_4 (p0 : TPredicate) (l1 : (List Int)) : LS := ⟨[(0, .agg (enc28 p0)), (1, .slice .sh (rows3 l1))], []⟩
def sp54_0 : Stops := [([0, 1, 0, 1, 0, 1], [(1, .nrm), (2, .same), (15, .own 26), (16, .same), (17, .same)], [(2, [.same, .same, .same, .same, .same, .same, .same, .same, .same, .same, .same, .same, .nrm])]), ([1, 1], [(1, .nrm), (2, .same)], [(2, [.same, .same, .same, .same, .same, .same, .same, .same, .same, .same, .same, .same, .nrm])])]
def B54_0 (s_54 : TPredicate → (List Int) → Option (List Int)) (k_3 : (List Int) → TPredicate → Option (List Int)) (back : (List Int) → (List TOperand) → Int → Int → TPredicate → Option (List Int)) (n : Nat) (l1 : (List Int)) (t15 : (List TOperand)) (t16 : Int) (t17 : Int) (bp2 : TPredicate) : Option (List Int) :=
  if decide (t17 < t16) then
    (idx t15 t17).bind fun x2_ =>
    if x2_.fKind == 1 then
      if decide (x2_.fIndex ≥ 0) then
        (F76 n l1 x2_.fIndex).bind fun x17_ =>
        back x17_ t15 t16 (w64 (t17 + 1)) bp2
      else
        back l1 t15 t16 (w64 (t17 + 1)) bp2
    else
      back l1 t15 t16 (w64 (t17 + 1)) bp2
  else
    k_3 l1 bp2

theorem b54_0 (s_54 : TPredicate → (List Int) → Option (List Int)) (hs_54 : ∀ (a0_ : TPredicate) (a1_ : (List Int)) (r : (List Int)), s_54 a0_ a1_ = some r → CallOK Try.prog ann 54 [.agg (enc28 a0_), .slice .sh (rows3 a1_)] (res54 r) (outs54 r)) (k_3 : (List Int) → TPredicate → Option (List Int)) (hk_3 : ∀ (l1 : (List Int)) (bp2 : TPredicate) (r : (List Int)), k_3 l1 bp2 = some r → At e54 [1, 1] (st54_3 l1 bp2) (res54 r) (outs54 r)) (back : (List Int) → (List TOperand) → Int → Int → TPredicate → Option (List Int)) (hback : ∀ (l1 : (List Int)) (t15 : (List TOperand)) (t16 : Int) (t17 : Int) (bp2 : TPredicate) (r : (List Int)), back l1 t15 t16 t17 bp2 = some r → At e54 [0, 1, 0, 1, 0, 1] (st54_0 l1 t15 t16 t17 bp2) (res54 r) (outs54 r)) (n : Nat) (l1 : (List Int)) (t15 : (List TOperand)) (t16 : Int) (t17 : Int) (bp2 : TPredicate) (r : (List Int)) (h : B54_0 s_54 k_3 back n l1 t15 t16 t17 bp2 = some r) : At e54 [0, 1, 0, 1, 0, 1] (st54_0 l1 t15 t16 t17 bp2) (res54 r) (outs54 r) := by
  unfold B54_0 at h
  refine ite_elim h (fun c0_ h1_ => ?_) (fun c0_ h1_ => ?_)
  ·
    refine bind_elim h1_ (fun x2_ hx2_ h2_ => ?_)
    refine ite_elim h2_ (fun c1_ h3_ => ?_) (fun c1_ h3_ => ?_)
    ·
      refine ite_elim h3_ (fun c2_ h4_ => ?_) (fun c2_ h4_ => ?_)
      ·
        refine bind_elim h4_ (fun x17_ hx17_ h5_ => ?_)
        exact run_at (S := sp54_0) (G := []) (sc := [(0, .eq (.bool true)), (0, .core ⟨[(19, .imm (enc25 x2_))], []⟩), (5, .eq (.bool true)), (3, .eq (.bool true)), (4, .call 76 (res76 x17_) (outs76 x17_))]) (obs := [CallOK Try.prog ann 76 [.slice .sh (rows3 l1), .int .i64 x2_.fIndex] (res76 x17_) (outs76 x17_), AV.bool (decide (x2_.fIndex ≥ 0)) = .bool true, AV.bool (x2_.fKind == 1) = .bool true, indexAddrA Try.prog an54 (some 19) 97 (.slice (.own 26) (rows25 t15)) (.int .i64 t17) = some ⟨[(19, .imm (enc25 x2_))], []⟩, AV.bool (decide (t17 < t16)) = .bool true]) (by kernel_rfl) ⟨ev76 n _ _ _ hx17_, congrArg AV.bool c2_, congrArg AV.bool c1_, R97.idxOb (A := an54) hx2_, congrArg AV.bool c0_, trivial⟩ (hback _ _ _ _ _ _ h5_)
      ·
        exact run_at (S := sp54_0) (G := []) (sc := [(0, .eq (.bool true)), (0, .core ⟨[(19, .imm (enc25 x2_))], []⟩), (5, .eq (.bool true)), (3, .eq (.bool false))]) (obs := [AV.bool (decide (x2_.fIndex ≥ 0)) = .bool false, AV.bool (x2_.fKind == 1) = .bool true, indexAddrA Try.prog an54 (some 19) 97 (.slice (.own 26) (rows25 t15)) (.int .i64 t17) = some ⟨[(19, .imm (enc25 x2_))], []⟩, AV.bool (decide (t17 < t16)) = .bool true]) (by kernel_rfl) ⟨congrArg AV.bool c2_, congrArg AV.bool c1_, R97.idxOb (A := an54) hx2_, congrArg AV.bool c0_, trivial⟩ (hback _ _ _ _ _ _ h4_)
    ·
      exact run_at (S := sp54_0) (G := []) (sc := [(0, .eq (.bool true)), (0, .core ⟨[(19, .imm (enc25 x2_))], []⟩), (5, .eq (.bool false))]) (obs := [AV.bool (x2_.fKind == 1) = .bool false, indexAddrA Try.prog an54 (some 19) 97 (.slice (.own 26) (rows25 t15)) (.int .i64 t17) = some ⟨[(19, .imm (enc25 x2_))], []⟩, AV.bool (decide (t17 < t16)) = .bool true]) (by kernel_rfl) ⟨congrArg AV.bool c1_, R97.idxOb (A := an54) hx2_, congrArg AV.bool c0_, trivial⟩ (hback _ _ _ _ _ _ h3_)
  ·
    exact run_at (S := sp54_0) (G := []) (sc := [(0, .eq (.bool false))]) (obs := [AV.bool (decide (t17 < t16)) = .bool false]) (by kernel_rfl) ⟨congrArg AV.bool c0_, trivial⟩ (hk_3 _ _ _ h1_)

def L54_0 (s_54 : TPredicate → (List Int) → Option (List Int)) (k_3 : (List Int) → TPredicate → Option (List Int)) : Nat → (List Int) → (List TOperand) → Int → Int → TPredicate → Option (List Int)
  | 0, _, _, _, _, _ => none
  | n + 1, l1, t15, t16, t17, bp2 => B54_0 s_54 k_3 (L54_0 s_54 k_3 n) n l1 t15 t16 t17 bp2
theorem l54_0 (s_54 : TPredicate → (List Int) → Option (List Int)) (hs_54 : ∀ (a0_ : TPredicate) (a1_ : (List Int)) (r : (List Int)), s_54 a0_ a1_ = some r → CallOK Try.prog ann 54 [.agg (enc28 a0_), .slice .sh (rows3 a1_)] (res54 r) (outs54 r)) (k_3 : (List Int) → TPredicate → Option (List Int)) (hk_3 : ∀ (l1 : (List Int)) (bp2 : TPredicate) (r : (List Int)), k_3 l1 bp2 = some r → At e54 [1, 1] (st54_3 l1 bp2) (res54 r) (outs54 r)) : ∀ (n : Nat) (l1 : (List Int)) (t15 : (List TOperand)) (t16 : Int) (t17 : Int) (bp2 : TPredicate) (r : (List Int)), L54_0 s_54 k_3 n l1 t15 t16 t17 bp2 = some r → At e54 [0, 1, 0, 1, 0, 1] (st54_0 l1 t15 t16 t17 bp2) (res54 r) (outs54 r)
  | 0, _, _, _, _, _, _, h => by simp [L54_0] at h
  | n + 1, l1, t15, t16, t17, bp2, r, h => b54_0 s_54 hs_54 k_3 hk_3 (L54_0 s_54 k_3 n) (l54_0 s_54 hs_54 k_3 hk_3 n) n l1 t15 t16 t17 bp2 r h
def sp54_1 : Stops := [([0, 1, 0, 1, 1], [(1, .nrm), (2, .same), (36, .same), (37, .same)], [(2, [.same, .same, .same, .same, .same, .same, .same, .same, .same, .same, .same, .same, .nrm])]), ([1, 1, 1], [(1, .nrm)], [])]
def B54_1 (s_54 : TPredicate → (List Int) → Option (List Int)) (k_2 : (List Int) → Option (List Int)) (back : (List Int) → Int → Int → TPredicate → Option (List Int)) (n : Nat) (l1 : (List Int)) (t36 : Int) (t37 : Int) (bp2 : TPredicate) : Option (List Int) :=
  if decide (t37 < t36) then
    (idx bp2.fArgs t37).bind fun x7_ =>
    (s_54 x7_ l1).bind fun x10_ =>
    back x10_ t36 (w64 (t37 + 1)) bp2
  else
    k_2 l1

theorem b54_1 (s_54 : TPredicate → (List Int) → Option (List Int)) (hs_54 : ∀ (a0_ : TPredicate) (a1_ : (List Int)) (r : (List Int)), s_54 a0_ a1_ = some r → CallOK Try.prog ann 54 [.agg (enc28 a0_), .slice .sh (rows3 a1_)] (res54 r) (outs54 r)) (k_2 : (List Int) → Option (List Int)) (hk_2 : ∀ (l1 : (List Int)) (r : (List Int)), k_2 l1 = some r → At e54 [1, 1, 1] (st54_2 l1) (res54 r) (outs54 r)) (back : (List Int) → Int → Int → TPredicate → Option (List Int)) (hback : ∀ (l1 : (List Int)) (t36 : Int) (t37 : Int) (bp2 : TPredicate) (r : (List Int)), back l1 t36 t37 bp2 = some r → At e54 [0, 1, 0, 1, 1] (st54_1 l1 t36 t37 bp2) (res54 r) (outs54 r)) (n : Nat) (l1 : (List Int)) (t36 : Int) (t37 : Int) (bp2 : TPredicate) (r : (List Int)) (h : B54_1 s_54 k_2 back n l1 t36 t37 bp2 = some r) : At e54 [0, 1, 0, 1, 1] (st54_1 l1 t36 t37 bp2) (res54 r) (outs54 r) := by
  unfold B54_1 at h
  refine ite_elim h (fun c0_ h6_ => ?_) (fun c0_ h6_ => ?_)
  ·
    refine bind_elim h6_ (fun x7_ hx7_ h7_ => ?_)
    refine bind_elim h7_ (fun x10_ hx10_ h8_ => ?_)
    exact run_at (S := sp54_1) (G := []) (sc := [(0, .eq (.bool true)), (5, .core ⟨[(43, .imm (enc28 x7_))], []⟩), (2, .call 54 (res54 x10_) (outs54 x10_))]) (obs := [CallOK Try.prog ann 54 [.agg (enc28 x7_), .slice .sh (rows3 l1)] (res54 x10_) (outs54 x10_), indexAddrA Try.prog an54 (some 43) 27 (.slice .sh (rows28 bp2.fArgs)) (.int .i64 t37) = some ⟨[(43, .imm (enc28 x7_))], []⟩, AV.bool (decide (t37 < t36)) = .bool true]) (by kernel_rfl) ⟨hs_54 _ _ _ hx10_, R27.idxOb (A := an54) hx7_, congrArg AV.bool c0_, trivial⟩ (hback _ _ _ _ _ h8_)
  ·
    exact run_at (S := sp54_1) (G := []) (sc := [(0, .eq (.bool false))]) (obs := [AV.bool (decide (t37 < t36)) = .bool false]) (by kernel_rfl) ⟨congrArg AV.bool c0_, trivial⟩ (hk_2 _ _ h6_)

def L54_1 (s_54 : TPredicate → (List Int) → Option (List Int)) (k_2 : (List Int) → Option (List Int)) : Nat → (List Int) → Int → Int → TPredicate → Option (List Int)
  | 0, _, _, _, _ => none
  | n + 1, l1, t36, t37, bp2 => B54_1 s_54 k_2 (L54_1 s_54 k_2 n) n l1 t36 t37 bp2
theorem l54_1 (s_54 : TPredicate → (List Int) → Option (List Int)) (hs_54 : ∀ (a0_ : TPredicate) (a1_ : (List Int)) (r : (List Int)), s_54 a0_ a1_ = some r → CallOK Try.prog ann 54 [.agg (enc28 a0_), .slice .sh (rows3 a1_)] (res54 r) (outs54 r)) (k_2 : (List Int) → Option (List Int)) (hk_2 : ∀ (l1 : (List Int)) (r : (List Int)), k_2 l1 = some r → At e54 [1, 1, 1] (st54_2 l1) (res54 r) (outs54 r)) : ∀ (n : Nat) (l1 : (List Int)) (t36 : Int) (t37 : Int) (bp2 : TPredicate) (r : (List Int)), L54_1 s_54 k_2 n l1 t36 t37 bp2 = some r → At e54 [0, 1, 0, 1, 1] (st54_1 l1 t36 t37 bp2) (res54 r) (outs54 r)
  | 0, _, _, _, _, _, h => by simp [L54_1] at h
  | n + 1, l1, t36, t37, bp2, r, h => b54_1 s_54 hs_54 k_2 hk_2 (L54_1 s_54 k_2 n) (l54_1 s_54 hs_54 k_2 hk_2 n) n l1 t36 t37 bp2 r h
def sp54_2 : Stops := []
def B54_2 (s_54 : TPredicate → (List Int) → Option (List Int)) (n : Nat) (l1 : (List Int)) : Option (List Int) :=
  some l1

theorem b54_2 (s_54 : TPredicate → (List Int) → Option (List Int)) (hs_54 : ∀ (a0_ : TPredicate) (a1_ : (List Int)) (r : (List Int)), s_54 a0_ a1_ = some r → CallOK Try.prog ann 54 [.agg (enc28 a0_), .slice .sh (rows3 a1_)] (res54 r) (outs54 r)) (n : Nat) (l1 : (List Int)) (r : (List Int)) (h : B54_2 s_54 n l1 = some r) : At e54 [1, 1, 1] (st54_2 l1) (res54 r) (outs54 r) := by
  unfold B54_2 at h
  have e_ := Option.some.inj h
  subst e_
  exact run_ret (S := sp54_2) (G := []) (sc := []) (obs := []) (by kernel_rfl) trivial

def sp54_3 : Stops := [([0, 1, 0, 1, 1], [(1, .nrm), (2, .same), (36, .same), (37, .same)], [(2, [.same, .same, .same, .same, .same, .same, .same, .same, .same, .same, .same, .same, .nrm])])]
def B54_3 (s_54 : TPredicate → (List Int) → Option (List Int)) (n : Nat) (l1 : (List Int)) (bp2 : TPredicate) : Option (List Int) :=
  L54_1 s_54 (B54_2 s_54 n) n l1 (bp2.fArgs.length : Int) 0 bp2

theorem b54_3 (s_54 : TPredicate → (List Int) → Option (List Int)) (hs_54 : ∀ (a0_ : TPredicate) (a1_ : (List Int)) (r : (List Int)), s_54 a0_ a1_ = some r → CallOK Try.prog ann 54 [.agg (enc28 a0_), .slice .sh (rows3 a1_)] (res54 r) (outs54 r)) (n : Nat) (l1 : (List Int)) (bp2 : TPredicate) (r : (List Int)) (h : B54_3 s_54 n l1 bp2 = some r) : At e54 [1, 1] (st54_3 l1 bp2) (res54 r) (outs54 r) := by
  unfold B54_3 at h
  exact run_at (S := sp54_3) (G := []) (sc := [(2, .eq (.int .i64 (bp2.fArgs.length : Int)))]) (obs := [AV.int .i64 ((rows28 bp2.fArgs).length : Int) = .int .i64 (bp2.fArgs.length : Int)]) (by kernel_rfl) ⟨R27.lenOb bp2.fArgs, trivial⟩ (l54_1 s_54 hs_54 (B54_2 s_54 n) (b54_2 s_54 hs_54 n) n _ _ _ _ _ h)

def sp54_4 : Stops := [([0, 1, 0, 1, 0, 1], [(1, .nrm), (2, .same), (15, .own 26), (16, .same), (17, .same)], [(2, [.same, .same, .same, .same, .same, .same, .same, .same, .same, .same, .same, .same, .nrm])]), ([1, 1], [(1, .nrm), (2, .same)], [(2, [.same, .same, .same, .same, .same, .same, .same, .same, .same, .same, .same, .same, .nrm])])]
def B54_4 (s_54 : TPredicate → (List Int) → Option (List Int)) (n : Nat) (p0 : TPredicate) (l1 : (List Int)) : Option (List Int) :=
  if p0.fOp == 3 then
    L54_0 s_54 (B54_3 s_54 n) n l1 [p0.fLeft, p0.fRight] ([p0.fLeft, p0.fRight].length : Int) 0 p0
  else
    B54_3 s_54 n l1 p0

theorem b54_4 (s_54 : TPredicate → (List Int) → Option (List Int)) (hs_54 : ∀ (a0_ : TPredicate) (a1_ : (List Int)) (r : (List Int)), s_54 a0_ a1_ = some r → CallOK Try.prog ann 54 [.agg (enc28 a0_), .slice .sh (rows3 a1_)] (res54 r) (outs54 r)) (n : Nat) (p0 : TPredicate) (l1 : (List Int)) (r : (List Int)) (h : B54_4 s_54 n p0 l1 = some r) : At e54 [] (st54_4 p0 l1) (res54 r) (outs54 r) := by
  unfold B54_4 at h
  refine ite_elim h (fun c0_ h9_ => ?_) (fun c0_ h9_ => ?_)
  ·
    exact run_at (S := sp54_4) (G := []) (sc := [(4, .eq (.bool true)), (5, .eq (.int .i64 ([p0.fLeft, p0.fRight].length : Int)))]) (obs := [AV.int .i64 ((rows25 [p0.fLeft, p0.fRight]).length : Int) = .int .i64 ([p0.fLeft, p0.fRight].length : Int), AV.bool (p0.fOp == 3) = .bool true]) (by kernel_rfl) ⟨R97.lenOb [p0.fLeft, p0.fRight], congrArg AV.bool c0_, trivial⟩ (l54_0 s_54 hs_54 (B54_3 s_54 n) (b54_3 s_54 hs_54 n) n _ _ _ _ _ _ h9_)
  ·
    exact run_at (S := sp54_4) (G := []) (sc := [(4, .eq (.bool false))]) (obs := [AV.bool (p0.fOp == 3) = .bool false]) (by kernel_rfl) ⟨congrArg AV.bool c0_, trivial⟩ (b54_3 s_54 hs_54 n _ _ _ h9_)

def F54 : Nat → TPredicate → (List Int) → Option (List Int)
  | 0, _, _ => none
  | n + 1, p0, l1 => B54_4 (F54 n) n p0 l1
theorem ev54 : ∀ (n : Nat) (p0 : TPredicate) (l1 : (List Int)) (r : (List Int)), F54 n p0 l1 = some r → CallOK Try.prog ann 54 [.agg (enc28 p0), .slice .sh (rows3 l1)] (res54 r) (outs54 r)
  | 0, _, _, _, h => by simp [F54] at h
  | n + 1, p0, l1, r, h => call_of_at (E := e54) (s := st54_4 p0 l1) body54 Try.func54 (by kernel_rfl) (by kernel_rfl) (by kernel_rfl) (by kernel_rfl) (by kernel_rfl) (emptyOK_of (by kernel_rfl)) (by kernel_rfl) (b54_4 (F54 n) (ev54 n) n p0 l1 r h)

/-- partsync/partsyncref05.Columns -/
noncomputable def e27 : Env := { P := Try.prog, ann := ann, f := 27, fn := Try.f27, ptrs := [], rets := [(2, .nrm)] }
def st27_0 (p0 : TPredicate) : LS := ⟨[(0, .agg (enc28 p0))], []⟩
def sp27_0 : Stops := []
def B27_0 (n : Nat) (p0 : TPredicate) : Option (List Int) :=
  (F54 n p0 []).bind fun x4_ =>
  some x4_

theorem b27_0 (n : Nat) (p0 : TPredicate) (r : (List Int)) (h : B27_0 n p0 = some r) : At e27 [] (st27_0 p0) (res27 r) (outs27 r) := by
  unfold B27_0 at h
  refine bind_elim h (fun x4_ hx4_ h1_ => ?_)
  have e_ := Option.some.inj h1_
  subst e_
  exact run_ret (S := sp27_0) (G := []) (sc := [(3, .call 54 (res54 x4_) (outs54 x4_))]) (obs := [CallOK Try.prog ann 54 [.agg (enc28 p0), .slice .sh []] (res54 x4_) (outs54 x4_)]) (by kernel_rfl) ⟨ev54 n _ _ _ hx4_, trivial⟩

def F27 (n : Nat) (p0 : TPredicate) : Option (List Int) := B27_0 n p0
theorem ev27 (n : Nat) (p0 : TPredicate) (r : (List Int)) (h : F27 n p0 = some r) : CallOK Try.prog ann 27 [.agg (enc28 p0)] (res27 r) (outs27 r) :=
  call_of_at (E := e27) (s := st27_0 p0) body27 Try.func27 (by kernel_rfl) (by kernel_rfl) (by kernel_rfl) (by kernel_rfl) (by kernel_rfl) (emptyOK_of (by kernel_rfl)) (by kernel_rfl) (b27_0 n p0 r h)

/-- partsync/predicate.bindOperand -/
noncomputable def e55 : Env := { P := Try.prog, ann := ann, f := 55, fn := Try.f55, ptrs := [], rets := [(4, .same)] }
def st55_0 (o0 : TOperand) (params1 : (List TValue)) : LS := ⟨[(0, .agg (enc25 o0)), (1, .slice .sh (rows23 params1))], []⟩
def sp55_0 : Stops := []
def B55_0 (n : Nat) (o0 : TOperand) (params1 : (List TValue)) : Option TOperand :=
  if o0.fKind != 2 then
    some o0
  else
    if decide (o0.fIndex < 0) then
      some o0
    else
      if decide (o0.fIndex ≥ (params1.length : Int)) then
        some o0
      else
        (idx params1 o0.fIndex).bind fun x21_ =>
        some (TOperand.mk 3 0 x21_)

theorem b55_0 (n : Nat) (o0 : TOperand) (params1 : (List TValue)) (r : TOperand) (h : B55_0 n o0 params1 = some r) : At e55 [] (st55_0 o0 params1) (res55 r) (outs55 r) := by
  unfold B55_0 at h
  refine ite_elim h (fun c0_ h1_ => ?_) (fun c0_ h1_ => ?_)
  ·
    have e_ := Option.some.inj h1_
    subst e_
    exact run_ret (S := sp55_0) (G := []) (sc := [(4, .eq (.bool true))]) (obs := [AV.bool (o0.fKind != 2) = .bool true]) (by kernel_rfl) ⟨congrArg AV.bool c0_, trivial⟩
  ·
    refine ite_elim h1_ (fun c1_ h2_ => ?_) (fun c1_ h2_ => ?_)
    ·
      have e_ := Option.some.inj h2_
      subst e_
      exact run_ret (S := sp55_0) (G := []) (sc := [(4, .eq (.bool false)), (3, .eq (.bool true))]) (obs := [AV.bool (decide (o0.fIndex < 0)) = .bool true, AV.bool (o0.fKind != 2) = .bool false]) (by kernel_rfl) ⟨congrArg AV.bool c1_, congrArg AV.bool c0_, trivial⟩
    ·
      refine ite_elim h2_ (fun c2_ h3_ => ?_) (fun c2_ h3_ => ?_)
      ·
        have e_ := Option.some.inj h3_
        subst e_
        exact run_ret (S := sp55_0) (G := []) (sc := [(4, .eq (.bool false)), (3, .eq (.bool false)), (5, .eq (.int .i64 (params1.length : Int))), (0, .eq (.bool true))]) (obs := [AV.bool (decide (o0.fIndex ≥ (params1.length : Int))) = .bool true, AV.int .i64 ((rows23 params1).length : Int) = .int .i64 (params1.length : Int), AV.bool (decide (o0.fIndex < 0)) = .bool false, AV.bool (o0.fKind != 2) = .bool false]) (by kernel_rfl) ⟨congrArg AV.bool c2_, R40.lenOb params1, congrArg AV.bool c1_, congrArg AV.bool c0_, trivial⟩
      ·
        refine bind_elim h3_ (fun x21_ hx21_ h4_ => ?_)
        have e_ := Option.some.inj h4_
        subst e_
        exact run_ret (S := sp55_0) (G := []) (sc := [(4, .eq (.bool false)), (3, .eq (.bool false)), (5, .eq (.int .i64 (params1.length : Int))), (0, .eq (.bool false)), (4, .core ⟨[(24, .imm (enc23 x21_))], []⟩)]) (obs := [indexAddrA Try.prog an55 (some 24) 40 (.slice .sh (rows23 params1)) (.int .i64 o0.fIndex) = some ⟨[(24, .imm (enc23 x21_))], []⟩, AV.bool (decide (o0.fIndex ≥ (params1.length : Int))) = .bool false, AV.int .i64 ((rows23 params1).length : Int) = .int .i64 (params1.length : Int), AV.bool (decide (o0.fIndex < 0)) = .bool false, AV.bool (o0.fKind != 2) = .bool false]) (by kernel_rfl) ⟨R40.idxOb (A := an55) hx21_, congrArg AV.bool c2_, R40.lenOb params1, congrArg AV.bool c1_, congrArg AV.bool c0_, trivial⟩

def F55 (n : Nat) (o0 : TOperand) (params1 : (List TValue)) : Option TOperand := B55_0 n o0 params1
theorem ev55 (n : Nat) (o0 : TOperand) (params1 : (List TValue)) (r : TOperand) (h : F55 n o0 params1 = some r) : CallOK Try.prog ann 55 [.agg (enc25 o0), .slice .sh (rows23 params1)] (res55 r) (outs55 r) :=
  call_of_at (E := e55) (s := st55_0 o0 params1) body55 Try.func55 (by kernel_rfl) (by kernel_rfl) (by kernel_rfl) (by kernel_rfl) (by kernel_rfl) (emptyOK_of (by kernel_rfl)) (by kernel_rfl) (b55_0 n o0 params1 r h)

/-- partsync/predicate.Bind -/
noncomputable def e28 : Env := { P := Try.prog, ann := ann, f := 28, fn := Try.f28, ptrs := [], rets := [(4, .same)] }
def st28_0 (params1 : (List TValue)) (t21 : (List TPredicate)) (t22 : Int) (t23 : Int) (bbound5 : TPredicate) : LS := ⟨[(1, .slice .sh (rows23 params1)), (4, .loc 4 0), (5, .loc 5 0), (21, .slice .sh (rows28 t21)), (22, .int .i64 t22), (23, .int .i64 t23)], [(4, [.int .i64 0, .int .i64 0, .int .i64 0, .int .i64 0, .int .i64 0, .int .i64 0, .str ByteArray.empty, .int .i64 0, .int .i64 0, .int .i64 0, .int .i64 0, .str ByteArray.empty, .slice .nil []]), (5, [.int .i64 bbound5.fOp, .int .i64 bbound5.fCmp, .int .i64 bbound5.fLeft.fKind, .int .i64 bbound5.fLeft.fIndex, .int .i64 bbound5.fLeft.fValue.fKind, .int .i64 bbound5.fLeft.fValue.fInt, .str bbound5.fLeft.fValue.fText, .int .i64 bbound5.fRight.fKind, .int .i64 bbound5.fRight.fIndex, .int .i64 bbound5.fRight.fValue.fKind, .int .i64 bbound5.fRight.fValue.fInt, .str bbound5.fRight.fValue.fText, .slice (.own 29) (rows28 bbound5.fArgs)])]⟩
def st28_1 (bbound5 : TPredicate) : LS := ⟨[(4, .loc 4 0), (5, .loc 5 0)], [(4, [.int .i64 0, .int .i64 0, .int .i64 0, .int .i64 0, .int .i64 0, .int .i64 0, .str ByteArray.empty, .int .i64 0, .int .i64 0, .int .i64 0, .int .i64 0, .str ByteArray.empty, .slice .nil []]), (5, [.int .i64 bbound5.fOp, .int .i64 bbound5.fCmp, .int .i64 bbound5.fLeft.fKind, .int .i64 bbound5.fLeft.fIndex, .int .i64 bbound5.fLeft.fValue.fKind, .int .i64 bbound5.fLeft.fValue.fInt, .str bbound5.fLeft.fValue.fText, .int .i64 bbound5.fRight.fKind, .int .i64 bbound5.fRight.fIndex, .int .i64 bbound5.fRight.fValue.fKind, .int .i64 bbound5.fRight.fValue.fInt, .str bbound5.fRight.fValue.fText, .slice (.own 29) (rows28 bbound5.fArgs)])]⟩
def st28_2 (p0 : TPredicate) (params1 : (List TValue)) : LS := ⟨[(0, .agg (enc28 p0)), (1, .slice .sh (rows23 params1))], []⟩
def sp28_0 : Stops := [([0, 1, 0, 1, 1, 1, 1], [(1, .nrm), (4, .same), (5, .same), (21, .nrm), (22, .same), (23, .same)], [(4, []), (5, [.same, .same, .same, .same, .same, .same, .same, .same, .same, .same, .same, .same, .own 29])]), ([1, 1, 1, 1, 1], [(4, .same), (5, .same)], [(4, []), (5, [.same, .same, .same, .same, .same, .same, .same, .same, .same, .same, .same, .same, .own 29])])]
def B28_0 (s_28 : TPredicate → (List TValue) → Option TPredicate) (k_1 : TPredicate → Option TPredicate) (back : (List TValue) → (List TPredicate) → Int → Int → TPredicate → Option TPredicate) (n : Nat) (params1 : (List TValue)) (t21 : (List TPredicate)) (t22 : Int) (t23 : Int) (bbound5 : TPredicate) : Option TPredicate :=
  if decide (t23 < t22) then
    (idx t21 t23).bind fun x2_ =>
    (s_28 x2_ params1).bind fun x10_ =>
    (app bbound5.fArgs [x10_]).bind fun x12_ =>
    back params1 t21 t22 (w64 (t23 + 1)) (TPredicate.mk bbound5.fOp bbound5.fCmp bbound5.fLeft bbound5.fRight x12_)
  else
    k_1 bbound5

theorem b28_0 (s_28 : TPredicate → (List TValue) → Option TPredicate) (hs_28 : ∀ (a0_ : TPredicate) (a1_ : (List TValue)) (r : TPredicate), s_28 a0_ a1_ = some r → CallOK Try.prog ann 28 [.agg (enc28 a0_), .slice .sh (rows23 a1_)] (res28 r) (outs28 r)) (k_1 : TPredicate → Option TPredicate) (hk_1 : ∀ (bbound5 : TPredicate) (r : TPredicate), k_1 bbound5 = some r → At e28 [1, 1, 1, 1, 1] (st28_1 bbound5) (res28 r) (outs28 r)) (back : (List TValue) → (List TPredicate) → Int → Int → TPredicate → Option TPredicate) (hback : ∀ (params1 : (List TValue)) (t21 : (List TPredicate)) (t22 : Int) (t23 : Int) (bbound5 : TPredicate) (r : TPredicate), back params1 t21 t22 t23 bbound5 = some r → At e28 [0, 1, 0, 1, 1, 1, 1] (st28_0 params1 t21 t22 t23 bbound5) (res28 r) (outs28 r)) (n : Nat) (params1 : (List TValue)) (t21 : (List TPredicate)) (t22 : Int) (t23 : Int) (bbound5 : TPredicate) (r : TPredicate) (h : B28_0 s_28 k_1 back n params1 t21 t22 t23 bbound5 = some r) : At e28 [0, 1, 0, 1, 1, 1, 1] (st28_0 params1 t21 t22 t23 bbound5) (res28 r) (outs28 r) := by
  unfold B28_0 at h
  refine ite_elim h (fun c0_ h1_ => ?_) (fun c0_ h1_ => ?_)
  ·
    refine bind_elim h1_ (fun x2_ hx2_ h2_ => ?_)
    refine bind_elim h2_ (fun x10_ hx10_ h3_ => ?_)
    refine bind_elim h3_ (fun x12_ hx12_ h4_ => ?_)
    exact run_at (S := sp28_0) (G := []) (sc := [(0, .eq (.bool true)), (0, .core ⟨[(25, .imm (enc28 x2_))], []⟩), (7, .call 28 (res28 x10_) (outs28 x10_)), (0, .eq (.slice (.own 29) (rows28 [x10_]))), (0, .core ⟨[(33, .slice (.own 29) (rows28 x12_)), (28, .slice .sh (rows28 bbound5.fArgs))], []⟩)]) (obs := [appendA Try.prog an28 33 27 (.tmp 28) (.slice (.own 29) (rows28 bbound5.fArgs)) (.slice (.own 29) (rows28 [x10_])) (fun _ => none) = some ⟨[(33, .slice (.own 29) (rows28 x12_)), (28, .slice .sh (rows28 bbound5.fArgs))], []⟩, AV.slice (.own 29) ([x10_].map enc28) = .slice (.own 29) (rows28 [x10_]), CallOK Try.prog ann 28 [.agg (enc28 x2_), .slice .sh (rows23 params1)] (res28 x10_) (outs28 x10_), indexAddrA Try.prog an28 (some 25) 27 (.slice .sh (rows28 t21)) (.int .i64 t23) = some ⟨[(25, .imm (enc28 x2_))], []⟩, AV.bool (decide (t23 < t22)) = .bool true]) (by kernel_rfl) ⟨R27.appOb (A := an28) (by decide) hx12_, R27.build1 [x10_], hs_28 _ _ _ hx10_, R27.idxOb (A := an28) hx2_, congrArg AV.bool c0_, trivial⟩ (hback _ _ _ _ _ _ h4_)
  ·
    exact run_at (S := sp28_0) (G := []) (sc := [(0, .eq (.bool false))]) (obs := [AV.bool (decide (t23 < t22)) = .bool false]) (by kernel_rfl) ⟨congrArg AV.bool c0_, trivial⟩ (hk_1 _ _ h1_)

def L28_0 (s_28 : TPredicate → (List TValue) → Option TPredicate) (k_1 : TPredicate → Option TPredicate) : Nat → (List TValue) → (List TPredicate) → Int → Int → TPredicate → Option TPredicate
  | 0, _, _, _, _, _ => none
  | n + 1, params1, t21, t22, t23, bbound5 => B28_0 s_28 k_1 (L28_0 s_28 k_1 n) n params1 t21 t22 t23 bbound5
theorem l28_0 (s_28 : TPredicate → (List TValue) → Option TPredicate) (hs_28 : ∀ (a0_ : TPredicate) (a1_ : (List TValue)) (r : TPredicate), s_28 a0_ a1_ = some r → CallOK Try.prog ann 28 [.agg (enc28 a0_), .slice .sh (rows23 a1_)] (res28 r) (outs28 r)) (k_1 : TPredicate → Option TPredicate) (hk_1 : ∀ (bbound5 : TPredicate) (r : TPredicate), k_1 bbound5 = some r → At e28 [1, 1, 1, 1, 1] (st28_1 bbound5) (res28 r) (outs28 r)) : ∀ (n : Nat) (params1 : (List TValue)) (t21 : (List TPredicate)) (t22 : Int) (t23 : Int) (bbound5 : TPredicate) (r : TPredicate), L28_0 s_28 k_1 n params1 t21 t22 t23 bbound5 = some r → At e28 [0, 1, 0, 1, 1, 1, 1] (st28_0 params1 t21 t22 t23 bbound5) (res28 r) (outs28 r)
  | 0, _, _, _, _, _, _, h => by simp [L28_0] at h
  | n + 1, params1, t21, t22, t23, bbound5, r, h => b28_0 s_28 hs_28 k_1 hk_1 (L28_0 s_28 k_1 n) (l28_0 s_28 hs_28 k_1 hk_1 n) n params1 t21 t22 t23 bbound5 r h
def sp28_1 : Stops := []
def B28_1 (s_28 : TPredicate → (List TValue) → Option TPredicate) (n : Nat) (bbound5 : TPredicate) : Option TPredicate :=
  some bbound5

theorem b28_1 (s_28 : TPredicate → (List TValue) → Option TPredicate) (hs_28 : ∀ (a0_ : TPredicate) (a1_ : (List TValue)) (r : TPredicate), s_28 a0_ a1_ = some r → CallOK Try.prog ann 28 [.agg (enc28 a0_), .slice .sh (rows23 a1_)] (res28 r) (outs28 r)) (n : Nat) (bbound5 : TPredicate) (r : TPredicate) (h : B28_1 s_28 n bbound5 = some r) : At e28 [1, 1, 1, 1, 1] (st28_1 bbound5) (res28 r) (outs28 r) := by
  unfold B28_1 at h
  have e_ := Option.some.inj h
  subst e_
  exact run_ret (S := sp28_1) (G := []) (sc := []) (obs := []) (by kernel_rfl) trivial

def sp28_2 : Stops := [([0, 1, 0, 1, 1, 1, 1], [(1, .nrm), (4, .same), (5, .same), (21, .nrm), (22, .same), (23, .same)], [(4, []), (5, [.same, .same, .same, .same, .same, .same, .same, .same, .same, .same, .same, .same, .own 29])])]
def B28_2 (s_28 : TPredicate → (List TValue) → Option TPredicate) (n : Nat) (p0 : TPredicate) (params1 : (List TValue)) : Option TPredicate :=
  (F55 n p0.fLeft params1).bind fun x9_ =>
  (F55 n p0.fRight params1).bind fun x13_ =>
  L28_0 s_28 (B28_1 s_28 n) n params1 p0.fArgs (p0.fArgs.length : Int) 0 (TPredicate.mk p0.fOp p0.fCmp x9_ x13_ [])

theorem b28_2 (s_28 : TPredicate → (List TValue) → Option TPredicate) (hs_28 : ∀ (a0_ : TPredicate) (a1_ : (List TValue)) (r : TPredicate), s_28 a0_ a1_ = some r → CallOK Try.prog ann 28 [.agg (enc28 a0_), .slice .sh (rows23 a1_)] (res28 r) (outs28 r)) (n : Nat) (p0 : TPredicate) (params1 : (List TValue)) (r : TPredicate) (h : B28_2 s_28 n p0 params1 = some r) : At e28 [] (st28_2 p0 params1) (res28 r) (outs28 r) := by
  unfold B28_2 at h
  refine bind_elim h (fun x9_ hx9_ h5_ => ?_)
  refine bind_elim h5_ (fun x13_ hx13_ h6_ => ?_)
  exact run_at (S := sp28_2) (G := []) (sc := [(8, .call 55 (res55 x9_) (outs55 x9_)), (3, .call 55 (res55 x13_) (outs55 x13_)), (8, .eq (.int .i64 (p0.fArgs.length : Int)))]) (obs := [AV.int .i64 ((rows28 p0.fArgs).length : Int) = .int .i64 (p0.fArgs.length : Int), CallOK Try.prog ann 55 [.agg (enc25 p0.fRight), .slice .sh (rows23 params1)] (res55 x13_) (outs55 x13_), CallOK Try.prog ann 55 [.agg (enc25 p0.fLeft), .slice .sh (rows23 params1)] (res55 x9_) (outs55 x9_)]) (by kernel_rfl) ⟨R27.lenOb p0.fArgs, ev55 n _ _ _ hx13_, ev55 n _ _ _ hx9_, trivial⟩ (l28_0 s_28 hs_28 (B28_1 s_28 n) (b28_1 s_28 hs_28 n) n _ _ _ _ _ _ h6_)

def F28 : Nat → TPredicate → (List TValue) → Option TPredicate
  | 0, _, _ => none
  | n + 1, p0, params1 => B28_2 (F28 n) n p0 params1
theorem ev28 : ∀ (n : Nat) (p0 : TPredicate) (params1 : (List TValue)) (r : TPredicate), F28 n p0 params1 = some r → CallOK Try.prog ann 28 [.agg (enc28 p0), .slice .sh (rows23 params1)] (res28 r) (outs28 r)
  | 0, _, _, _, h => by simp [F28] at h
  | n + 1, p0, params1, r, h => call_of_at (E := e28) (s := st28_2 p0 params1) body28 Try.func28 (by kernel_rfl) (by kernel_rfl) (by kernel_rfl) (by kernel_rfl) (by kernel_rfl) (emptyOK_of (by kernel_rfl)) (by kernel_rfl) (b28_2 (F28 n) (ev28 n) n p0 params1 r h)

/-- partsync/partsyncref05.Equal -/
noncomputable def e29 : Env := { P := Try.prog, ann := ann, f := 29, fn := Try.f29, ptrs := [], rets := [(4, .same)] }
def st29_0 (t43 : Int) (t44 : Int) (ba2 : TPredicate) (bb3 : TPredicate) : LS := ⟨[(2, .loc 2 0), (3, .loc 3 0), (43, .int .i64 t43), (44, .int .i64 t44)], [(2, (enc28 ba2)), (3, (enc28 bb3))]⟩
def st29_1  : LS := ⟨[], []⟩
def st29_2 (a0 : TPredicate) (b1 : TPredicate) : LS := ⟨[(0, .agg (enc28 a0)), (1, .agg (enc28 b1))], []⟩
def sp29_0 : Stops := [([0, 1, 0, 1, 1], [(2, .same), (3, .same), (43, .same), (44, .same)], [(2, [.same, .same, .same, .same, .same, .same, .same, .same, .same, .same, .same, .same, .nrm]), (3, [.same, .same, .same, .same, .same, .same, .same, .same, .same, .same, .same, .same, .nrm])]), ([1, 1, 1], [], [])]
def B29_0 (s_29 : TPredicate → TPredicate → Option Bool) (k_1 : Option Bool) (back : Int → Int → TPredicate → TPredicate → Option Bool) (n : Nat) (t43 : Int) (t44 : Int) (ba2 : TPredicate) (bb3 : TPredicate) : Option Bool :=
  if decide (t44 < t43) then
    (idx ba2.fArgs t44).bind fun x7_ =>
    (idx bb3.fArgs t44).bind fun x12_ =>
    (s_29 x7_ x12_).bind fun x14_ =>
    if !x14_ then
      some false
    else
      back t43 (w64 (t44 + 1)) ba2 bb3
  else
    k_1

theorem b29_0 (s_29 : TPredicate → TPredicate → Option Bool) (hs_29 : ∀ (a0_ : TPredicate) (a1_ : TPredicate) (r : Bool), s_29 a0_ a1_ = some r → CallOK Try.prog ann 29 [.agg (enc28 a0_), .agg (enc28 a1_)] (res29 r) (outs29 r)) (k_1 : Option Bool) (hk_1 : ∀  (r : Bool), k_1 = some r → At e29 [1, 1, 1] (st29_1) (res29 r) (outs29 r)) (back : Int → Int → TPredicate → TPredicate → Option Bool) (hback : ∀ (t43 : Int) (t44 : Int) (ba2 : TPredicate) (bb3 : TPredicate) (r : Bool), back t43 t44 ba2 bb3 = some r → At e29 [0, 1, 0, 1, 1] (st29_0 t43 t44 ba2 bb3) (res29 r) (outs29 r)) (n : Nat) (t43 : Int) (t44 : Int) (ba2 : TPredicate) (bb3 : TPredicate) (r : Bool) (h : B29_0 s_29 k_1 back n t43 t44 ba2 bb3 = some r) : At e29 [0, 1, 0, 1, 1] (st29_0 t43 t44 ba2 bb3) (res29 r) (outs29 r) := by
  unfold B29_0 at h
  refine ite_elim h (fun c0_ h1_ => ?_) (fun c0_ h1_ => ?_)
  ·
    refine bind_elim h1_ (fun x7_ hx7_ h2_ => ?_)
    refine bind_elim h2_ (fun x12_ hx12_ h3_ => ?_)
    refine bind_elim h3_ (fun x14_ hx14_ h4_ => ?_)
    refine ite_elim h4_ (fun c1_ h5_ => ?_) (fun c1_ h5_ => ?_)
    ·
      have e_ := Option.some.inj h5_
      subst e_
      exact run_ret (S := sp29_0) (G := []) (sc := [(0, .eq (.bool true)), (5, .core ⟨[(50, .imm (enc28 x7_))], []⟩), (4, .core ⟨[(55, .imm (enc28 x12_))], []⟩), (1, .call 29 (res29 x14_) (outs29 x14_)), (0, .eq (.bool true))]) (obs := [AV.bool (!x14_) = .bool true, CallOK Try.prog ann 29 [.agg (enc28 x7_), .agg (enc28 x12_)] (res29 x14_) (outs29 x14_), indexAddrA Try.prog an29 (some 55) 27 (.slice .sh (rows28 bb3.fArgs)) (.int .i64 t44) = some ⟨[(55, .imm (enc28 x12_))], []⟩, indexAddrA Try.prog an29 (some 50) 27 (.slice .sh (rows28 ba2.fArgs)) (.int .i64 t44) = some ⟨[(50, .imm (enc28 x7_))], []⟩, AV.bool (decide (t44 < t43)) = .bool true]) (by kernel_rfl) ⟨congrArg AV.bool c1_, hs_29 _ _ _ hx14_, R27.idxOb (A := an29) hx12_, R27.idxOb (A := an29) hx7_, congrArg AV.bool c0_, trivial⟩
    ·
      exact run_at (S := sp29_0) (G := []) (sc := [(0, .eq (.bool true)), (5, .core ⟨[(50, .imm (enc28 x7_))], []⟩), (4, .core ⟨[(55, .imm (enc28 x12_))], []⟩), (1, .call 29 (res29 x14_) (outs29 x14_)), (0, .eq (.bool false))]) (obs := [AV.bool (!x14_) = .bool false, CallOK Try.prog ann 29 [.agg (enc28 x7_), .agg (enc28 x12_)] (res29 x14_) (outs29 x14_), indexAddrA Try.prog an29 (some 55) 27 (.slice .sh (rows28 bb3.fArgs)) (.int .i64 t44) = some ⟨[(55, .imm (enc28 x12_))], []⟩, indexAddrA Try.prog an29 (some 50) 27 (.slice .sh (rows28 ba2.fArgs)) (.int .i64 t44) = some ⟨[(50, .imm (enc28 x7_))], []⟩, AV.bool (decide (t44 < t43)) = .bool true]) (by kernel_rfl) ⟨congrArg AV.bool c1_, hs_29 _ _ _ hx14_, R27.idxOb (A := an29) hx12_, R27.idxOb (A := an29) hx7_, congrArg AV.bool c0_, trivial⟩ (hback _ _ _ _ _ h5_)
  ·
    exact run_at (S := sp29_0) (G := []) (sc := [(0, .eq (.bool false))]) (obs := [AV.bool (decide (t44 < t43)) = .bool false]) (by kernel_rfl) ⟨congrArg AV.bool c0_, trivial⟩ (hk_1 _ h1_)

def L29_0 (s_29 : TPredicate → TPredicate → Option Bool) (k_1 : Option Bool) : Nat → Int → Int → TPredicate → TPredicate → Option Bool
  | 0, _, _, _, _ => none
  | n + 1, t43, t44, ba2, bb3 => B29_0 s_29 k_1 (L29_0 s_29 k_1 n) n t43 t44 ba2 bb3
theorem l29_0 (s_29 : TPredicate → TPredicate → Option Bool) (hs_29 : ∀ (a0_ : TPredicate) (a1_ : TPredicate) (r : Bool), s_29 a0_ a1_ = some r → CallOK Try.prog ann 29 [.agg (enc28 a0_), .agg (enc28 a1_)] (res29 r) (outs29 r)) (k_1 : Option Bool) (hk_1 : ∀  (r : Bool), k_1 = some r → At e29 [1, 1, 1] (st29_1) (res29 r) (outs29 r)) : ∀ (n : Nat) (t43 : Int) (t44 : Int) (ba2 : TPredicate) (bb3 : TPredicate) (r : Bool), L29_0 s_29 k_1 n t43 t44 ba2 bb3 = some r → At e29 [0, 1, 0, 1, 1] (st29_0 t43 t44 ba2 bb3) (res29 r) (outs29 r)
  | 0, _, _, _, _, _, h => by simp [L29_0] at h
  | n + 1, t43, t44, ba2, bb3, r, h => b29_0 s_29 hs_29 k_1 hk_1 (L29_0 s_29 k_1 n) (l29_0 s_29 hs_29 k_1 hk_1 n) n t43 t44 ba2 bb3 r h
def sp29_1 : Stops := []
def B29_1 (s_29 : TPredicate → TPredicate → Option Bool) (n : Nat)  : Option Bool :=
  some true

theorem b29_1 (s_29 : TPredicate → TPredicate → Option Bool) (hs_29 : ∀ (a0_ : TPredicate) (a1_ : TPredicate) (r : Bool), s_29 a0_ a1_ = some r → CallOK Try.prog ann 29 [.agg (enc28 a0_), .agg (enc28 a1_)] (res29 r) (outs29 r)) (n : Nat)  (r : Bool) (h : B29_1 s_29 n = some r) : At e29 [1, 1, 1] (st29_1) (res29 r) (outs29 r) := by
  unfold B29_1 at h
  have e_ := Option.some.inj h
  subst e_
  exact run_ret (S := sp29_1) (G := []) (sc := []) (obs := []) (by kernel_rfl) trivial

def sp29_2 : Stops := [([0, 1, 0, 1, 1], [(2, .same), (3, .same), (43, .same), (44, .same)], [(2, [.same, .same, .same, .same, .same, .same, .same, .same, .same, .same, .same, .same, .nrm]), (3, [.same, .same, .same, .same, .same, .same, .same, .same, .same, .same, .same, .same, .nrm])])]
def B29_2 (s_29 : TPredicate → TPredicate → Option Bool) (n : Nat) (a0 : TPredicate) (b1 : TPredicate) : Option Bool :=
  if a0.fOp != b1.fOp then
    some false
  else
    if a0.fCmp != b1.fCmp then
      some false
    else
      if !((a0.fLeft.fKind == b1.fLeft.fKind) && ((a0.fLeft.fIndex == b1.fLeft.fIndex) && (((a0.fLeft.fValue.fKind == b1.fLeft.fValue.fKind) && ((a0.fLeft.fValue.fInt == b1.fLeft.fValue.fInt) && ((decide (a0.fLeft.fValue.fText = b1.fLeft.fValue.fText)) && true))) && true))) then
        some false
      else
        if !((a0.fRight.fKind == b1.fRight.fKind) && ((a0.fRight.fIndex == b1.fRight.fIndex) && (((a0.fRight.fValue.fKind == b1.fRight.fValue.fKind) && ((a0.fRight.fValue.fInt == b1.fRight.fValue.fInt) && ((decide (a0.fRight.fValue.fText = b1.fRight.fValue.fText)) && true))) && true))) then
          some false
        else
          if (a0.fArgs.length : Int) != (b1.fArgs.length : Int) then
            some false
          else
            L29_0 s_29 (B29_1 s_29 n) n (a0.fArgs.length : Int) 0 a0 b1

theorem b29_2 (s_29 : TPredicate → TPredicate → Option Bool) (hs_29 : ∀ (a0_ : TPredicate) (a1_ : TPredicate) (r : Bool), s_29 a0_ a1_ = some r → CallOK Try.prog ann 29 [.agg (enc28 a0_), .agg (enc28 a1_)] (res29 r) (outs29 r)) (n : Nat) (a0 : TPredicate) (b1 : TPredicate) (r : Bool) (h : B29_2 s_29 n a0 b1 = some r) : At e29 [] (st29_2 a0 b1) (res29 r) (outs29 r) := by
  unfold B29_2 at h
  refine ite_elim h (fun c0_ h6_ => ?_) (fun c0_ h6_ => ?_)
  ·
    have e_ := Option.some.inj h6_
    subst e_
    exact run_ret (S := sp29_2) (G := []) (sc := [(7, .eq (.bool true))]) (obs := [AV.bool (a0.fOp != b1.fOp) = .bool true]) (by kernel_rfl) ⟨congrArg AV.bool c0_, trivial⟩
  ·
    refine ite_elim h6_ (fun c1_ h7_ => ?_) (fun c1_ h7_ => ?_)
    ·
      have e_ := Option.some.inj h7_
      subst e_
      exact run_ret (S := sp29_2) (G := []) (sc := [(7, .eq (.bool false)), (5, .eq (.bool true))]) (obs := [AV.bool (a0.fCmp != b1.fCmp) = .bool true, AV.bool (a0.fOp != b1.fOp) = .bool false]) (by kernel_rfl) ⟨congrArg AV.bool c1_, congrArg AV.bool c0_, trivial⟩
    ·
      refine ite_elim h7_ (fun c2_ h8_ => ?_) (fun c2_ h8_ => ?_)
      ·
        have e_ := Option.some.inj h8_
        subst e_
        exact run_ret (S := sp29_2) (G := []) (sc := [(7, .eq (.bool false)), (5, .eq (.bool false)), (6, .eq (.bool true))]) (obs := [AV.bool (!((a0.fLeft.fKind == b1.fLeft.fKind) && ((a0.fLeft.fIndex == b1.fLeft.fIndex) && (((a0.fLeft.fValue.fKind == b1.fLeft.fValue.fKind) && ((a0.fLeft.fValue.fInt == b1.fLeft.fValue.fInt) && ((decide (a0.fLeft.fValue.fText = b1.fLeft.fValue.fText)) && true))) && true)))) = .bool true, AV.bool (a0.fCmp != b1.fCmp) = .bool false, AV.bool (a0.fOp != b1.fOp) = .bool false]) (by kernel_rfl) ⟨congrArg AV.bool c2_, congrArg AV.bool c1_, congrArg AV.bool c0_, trivial⟩
      ·
        refine ite_elim h8_ (fun c3_ h9_ => ?_) (fun c3_ h9_ => ?_)
        ·
          have e_ := Option.some.inj h9_
          subst e_
          exact run_ret (S := sp29_2) (G := []) (sc := [(7, .eq (.bool false)), (5, .eq (.bool false)), (6, .eq (.bool false)), (6, .eq (.bool true))]) (obs := [AV.bool (!((a0.fRight.fKind == b1.fRight.fKind) && ((a0.fRight.fIndex == b1.fRight.fIndex) && (((a0.fRight.fValue.fKind == b1.fRight.fValue.fKind) && ((a0.fRight.fValue.fInt == b1.fRight.fValue.fInt) && ((decide (a0.fRight.fValue.fText = b1.fRight.fValue.fText)) && true))) && true)))) = .bool true, AV.bool (!((a0.fLeft.fKind == b1.fLeft.fKind) && ((a0.fLeft.fIndex == b1.fLeft.fIndex) && (((a0.fLeft.fValue.fKind == b1.fLeft.fValue.fKind) && ((a0.fLeft.fValue.fInt == b1.fLeft.fValue.fInt) && ((decide (a0.fLeft.fValue.fText = b1.fLeft.fValue.fText)) && true))) && true)))) = .bool false, AV.bool (a0.fCmp != b1.fCmp) = .bool false, AV.bool (a0.fOp != b1.fOp) = .bool false]) (by kernel_rfl) ⟨congrArg AV.bool c3_, congrArg AV.bool c2_, congrArg AV.bool c1_, congrArg AV.bool c0_, trivial⟩
        ·
          refine ite_elim h9_ (fun c4_ h10_ => ?_) (fun c4_ h10_ => ?_)
          ·
            have e_ := Option.some.inj h10_
            subst e_
            exact run_ret (S := sp29_2) (G := []) (sc := [(7, .eq (.bool false)), (5, .eq (.bool false)), (6, .eq (.bool false)), (6, .eq (.bool false)), (4, .eq (.int .i64 (a0.fArgs.length : Int))), (2, .eq (.int .i64 (b1.fArgs.length : Int))), (0, .eq (.bool true))]) (obs := [AV.bool ((a0.fArgs.length : Int) != (b1.fArgs.length : Int)) = .bool true, AV.int .i64 ((rows28 b1.fArgs).length : Int) = .int .i64 (b1.fArgs.length : Int), AV.int .i64 ((rows28 a0.fArgs).length : Int) = .int .i64 (a0.fArgs.length : Int), AV.bool (!((a0.fRight.fKind == b1.fRight.fKind) && ((a0.fRight.fIndex == b1.fRight.fIndex) && (((a0.fRight.fValue.fKind == b1.fRight.fValue.fKind) && ((a0.fRight.fValue.fInt == b1.fRight.fValue.fInt) && ((decide (a0.fRight.fValue.fText = b1.fRight.fValue.fText)) && true))) && true)))) = .bool false, AV.bool (!((a0.fLeft.fKind == b1.fLeft.fKind) && ((a0.fLeft.fIndex == b1.fLeft.fIndex) && (((a0.fLeft.fValue.fKind == b1.fLeft.fValue.fKind) && ((a0.fLeft.fValue.fInt == b1.fLeft.fValue.fInt) && ((decide (a0.fLeft.fValue.fText = b1.fLeft.fValue.fText)) && true))) && true)))) = .bool false, AV.bool (a0.fCmp != b1.fCmp) = .bool false, AV.bool (a0.fOp != b1.fOp) = .bool false]) (by kernel_rfl) ⟨congrArg AV.bool c4_, R27.lenOb b1.fArgs, R27.lenOb a0.fArgs, congrArg AV.bool c3_, congrArg AV.bool c2_, congrArg AV.bool c1_, congrArg AV.bool c0_, trivial⟩
          ·
            exact run_at (S := sp29_2) (G := []) (sc := [(7, .eq (.bool false)), (5, .eq (.bool false)), (6, .eq (.bool false)), (6, .eq (.bool false)), (4, .eq (.int .i64 (a0.fArgs.length : Int))), (2, .eq (.int .i64 (b1.fArgs.length : Int))), (0, .eq (.bool false)), (3, .eq (.int .i64 (a0.fArgs.length : Int)))]) (obs := [AV.int .i64 ((rows28 a0.fArgs).length : Int) = .int .i64 (a0.fArgs.length : Int), AV.bool ((a0.fArgs.length : Int) != (b1.fArgs.length : Int)) = .bool false, AV.int .i64 ((rows28 b1.fArgs).length : Int) = .int .i64 (b1.fArgs.length : Int), AV.int .i64 ((rows28 a0.fArgs).length : Int) = .int .i64 (a0.fArgs.length : Int), AV.bool (!((a0.fRight.fKind == b1.fRight.fKind) && ((a0.fRight.fIndex == b1.fRight.fIndex) && (((a0.fRight.fValue.fKind == b1.fRight.fValue.fKind) && ((a0.fRight.fValue.fInt == b1.fRight.fValue.fInt) && ((decide (a0.fRight.fValue.fText = b1.fRight.fValue.fText)) && true))) && true)))) = .bool false, AV.bool (!((a0.fLeft.fKind == b1.fLeft.fKind) && ((a0.fLeft.fIndex == b1.fLeft.fIndex) && (((a0.fLeft.fValue.fKind == b1.fLeft.fValue.fKind) && ((a0.fLeft.fValue.fInt == b1.fLeft.fValue.fInt) && ((decide (a0.fLeft.fValue.fText = b1.fLeft.fValue.fText)) && true))) && true)))) = .bool false, AV.bool (a0.fCmp != b1.fCmp) = .bool false, AV.bool (a0.fOp != b1.fOp) = .bool false]) (by kernel_rfl) ⟨R27.lenOb a0.fArgs, congrArg AV.bool c4_, R27.lenOb b1.fArgs, R27.lenOb a0.fArgs, congrArg AV.bool c3_, congrArg AV.bool c2_, congrArg AV.bool c1_, congrArg AV.bool c0_, trivial⟩ (l29_0 s_29 hs_29 (B29_1 s_29 n) (b29_1 s_29 hs_29 n) n _ _ _ _ _ h10_)

def F29 : Nat → TPredicate → TPredicate → Option Bool
  | 0, _, _ => none
  | n + 1, a0, b1 => B29_2 (F29 n) n a0 b1
theorem ev29 : ∀ (n : Nat) (a0 : TPredicate) (b1 : TPredicate) (r : Bool), F29 n a0 b1 = some r → CallOK Try.prog ann 29 [.agg (enc28 a0), .agg (enc28 b1)] (res29 r) (outs29 r)
  | 0, _, _, _, h => by simp [F29] at h
  | n + 1, a0, b1, r, h => call_of_at (E := e29) (s := st29_2 a0 b1) body29 Try.func29 (by kernel_rfl) (by kernel_rfl) (by kernel_rfl) (by kernel_rfl) (by kernel_rfl) (emptyOK_of (by kernel_rfl)) (by kernel_rfl) (b29_2 (F29 n) (ev29 n) n a0 b1 r h)

/-- partsync/partsyncref05.bound -/
noncomputable def e56 : Env := { P := Try.prog, ann := ann, f := 56, fn := Try.f56, ptrs := [], rets := [(4, .same)] }
def st56_0 (o0 : TOperand) (params1 : (List TValue)) : LS := ⟨[(0, .agg (enc25 o0)), (1, .slice .sh (rows23 params1))], []⟩
def sp56_0 : Stops := []
def B56_0 (n : Nat) (o0 : TOperand) (params1 : (List TValue)) : Option TOperand :=
  if o0.fKind == 2 then
    if decide (o0.fIndex ≥ 0) then
      if decide (o0.fIndex < (params1.length : Int)) then
        (idx params1 o0.fIndex).bind fun x21_ =>
        some (TOperand.mk 3 0 x21_)
      else
        some o0
    else
      some o0
  else
    some o0

theorem b56_0 (n : Nat) (o0 : TOperand) (params1 : (List TValue)) (r : TOperand) (h : B56_0 n o0 params1 = some r) : At e56 [] (st56_0 o0 params1) (res56 r) (outs56 r) := by
  unfold B56_0 at h
  refine ite_elim h (fun c0_ h1_ => ?_) (fun c0_ h1_ => ?_)
  ·
    refine ite_elim h1_ (fun c1_ h2_ => ?_) (fun c1_ h2_ => ?_)
    ·
      refine ite_elim h2_ (fun c2_ h3_ => ?_) (fun c2_ h3_ => ?_)
      ·
        refine bind_elim h3_ (fun x21_ hx21_ h4_ => ?_)
        have e_ := Option.some.inj h4_
        subst e_
        exact run_ret (S := sp56_0) (G := []) (sc := [(4, .eq (.bool true)), (3, .eq (.bool true)), (5, .eq (.int .i64 (params1.length : Int))), (0, .eq (.bool true)), (4, .core ⟨[(23, .imm (enc23 x21_))], []⟩)]) (obs := [indexAddrA Try.prog an56 (some 23) 40 (.slice .sh (rows23 params1)) (.int .i64 o0.fIndex) = some ⟨[(23, .imm (enc23 x21_))], []⟩, AV.bool (decide (o0.fIndex < (params1.length : Int))) = .bool true, AV.int .i64 ((rows23 params1).length : Int) = .int .i64 (params1.length : Int), AV.bool (decide (o0.fIndex ≥ 0)) = .bool true, AV.bool (o0.fKind == 2) = .bool true]) (by kernel_rfl) ⟨R40.idxOb (A := an56) hx21_, congrArg AV.bool c2_, R40.lenOb params1, congrArg AV.bool c1_, congrArg AV.bool c0_, trivial⟩
      ·
        have e_ := Option.some.inj h3_
        subst e_
        exact run_ret (S := sp56_0) (G := []) (sc := [(4, .eq (.bool true)), (3, .eq (.bool true)), (5, .eq (.int .i64 (params1.length : Int))), (0, .eq (.bool false))]) (obs := [AV.bool (decide (o0.fIndex < (params1.length : Int))) = .bool false, AV.int .i64 ((rows23 params1).length : Int) = .int .i64 (params1.length : Int), AV.bool (decide (o0.fIndex ≥ 0)) = .bool true, AV.bool (o0.fKind == 2) = .bool true]) (by kernel_rfl) ⟨congrArg AV.bool c2_, R40.lenOb params1, congrArg AV.bool c1_, congrArg AV.bool c0_, trivial⟩
    ·
      have e_ := Option.some.inj h2_
      subst e_
      exact run_ret (S := sp56_0) (G := []) (sc := [(4, .eq (.bool true)), (3, .eq (.bool false))]) (obs := [AV.bool (decide (o0.fIndex ≥ 0)) = .bool false, AV.bool (o0.fKind == 2) = .bool true]) (by kernel_rfl) ⟨congrArg AV.bool c1_, congrArg AV.bool c0_, trivial⟩
  ·
    have e_ := Option.some.inj h1_
    subst e_
    exact run_ret (S := sp56_0) (G := []) (sc := [(4, .eq (.bool false))]) (obs := [AV.bool (o0.fKind == 2) = .bool false]) (by kernel_rfl) ⟨congrArg AV.bool c0_, trivial⟩

def F56 (n : Nat) (o0 : TOperand) (params1 : (List TValue)) : Option TOperand := B56_0 n o0 params1
theorem ev56 (n : Nat) (o0 : TOperand) (params1 : (List TValue)) (r : TOperand) (h : F56 n o0 params1 = some r) : CallOK Try.prog ann 56 [.agg (enc25 o0), .slice .sh (rows23 params1)] (res56 r) (outs56 r) :=
  call_of_at (E := e56) (s := st56_0 o0 params1) body56 Try.func56 (by kernel_rfl) (by kernel_rfl) (by kernel_rfl) (by kernel_rfl) (by kernel_rfl) (emptyOK_of (by kernel_rfl)) (by kernel_rfl) (b56_0 n o0 params1 r h)

end Go.Proofs.Ytalbakjfbgkjjaa
