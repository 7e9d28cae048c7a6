/- Functions of the program as plain functions, and that the program answers as they do; written by a program (comp.py). -/
import Derived.Test.YtalbakjfbgkjjaaFun7
set_option maxRecDepth 100000
set_option linter.all false
namespace Go.Proofs.Ytalbakjfbgkjjaa
open Go.Abs

/-- cmp.Less[int] -/
noncomputable def e86 : Env := { P := Try.prog, ann := ann, f := 86, fn := Try.f86, ptrs := [], rets := [(4, .same)] }
def st86_0 (x0 : Int) (y1 : Int) : LS := ⟨[(0, .int .i64 x0), (1, .int .i64 y1)], []⟩
def sp86_0 : Stops := []
def B86_0 (n : Nat) (x0 : Int) (y1 : Int) : Option Bool :=
  (F77 n x0).bind fun x3_ =>
  if x3_ then
    (F77 n y1).bind fun x6_ =>
    if !x6_ then
      some true
    else
      some (decide (x0 < y1))
  else
    some (decide (x0 < y1))

theorem b86_0 (n : Nat) (x0 : Int) (y1 : Int) (r : Bool) (h : B86_0 n x0 y1 = some r) : At e86 [] (st86_0 x0 y1) (res86 r) (outs86 r) := by
  unfold B86_0 at h
  refine bind_elim h (fun x3_ hx3_ h1_ => ?_)
  refine ite_elim h1_ (fun c0_ h2_ => ?_) (fun c0_ h2_ => ?_)
  ·
    subst c0_
    refine bind_elim h2_ (fun x6_ hx6_ h3_ => ?_)
    refine ite_elim h3_ (fun c1_ h4_ => ?_) (fun c1_ h4_ => ?_)
    ·
      have e_ := Option.some.inj h4_
      subst e_
      exact run_ret (S := sp86_0) (G := []) (sc := [(2, .call 77 (res77 true) (outs77 true)), (2, .call 77 (res77 x6_) (outs77 x6_)), (0, .eq (.bool true))]) (obs := [AV.bool (!x6_) = .bool true, CallOK Try.prog ann 77 [.int .i64 y1] (res77 x6_) (outs77 x6_), CallOK Try.prog ann 77 [.int .i64 x0] (res77 true) (outs77 true)]) (by kernel_rfl) ⟨congrArg AV.bool c1_, ev77 n _ _ hx6_, ev77 n _ _ hx3_, trivial⟩
    ·
      have e_ := Option.some.inj h4_
      subst e_
      exact run_ret (S := sp86_0) (G := []) (sc := [(2, .call 77 (res77 true) (outs77 true)), (2, .call 77 (res77 x6_) (outs77 x6_)), (0, .eq (.bool false))]) (obs := [AV.bool (!x6_) = .bool false, CallOK Try.prog ann 77 [.int .i64 y1] (res77 x6_) (outs77 x6_), CallOK Try.prog ann 77 [.int .i64 x0] (res77 true) (outs77 true)]) (by kernel_rfl) ⟨congrArg AV.bool c1_, ev77 n _ _ hx6_, ev77 n _ _ hx3_, trivial⟩
  ·
    subst c0_
    have e_ := Option.some.inj h2_
    subst e_
    exact run_ret (S := sp86_0) (G := []) (sc := [(2, .call 77 (res77 false) (outs77 false))]) (obs := [CallOK Try.prog ann 77 [.int .i64 x0] (res77 false) (outs77 false)]) (by kernel_rfl) ⟨ev77 n _ _ hx3_, trivial⟩

def F86 (n : Nat) (x0 : Int) (y1 : Int) : Option Bool := B86_0 n x0 y1
theorem ev86 (n : Nat) (x0 : Int) (y1 : Int) (r : Bool) (h : F86 n x0 y1 = some r) : CallOK Try.prog ann 86 [.int .i64 x0, .int .i64 y1] (res86 r) (outs86 r) :=
  call_of_at (E := e86) (s := st86_0 x0 y1) body86 Try.func86 (by kernel_rfl) (by kernel_rfl) (by kernel_rfl) (by kernel_rfl) (by kernel_rfl) (emptyOK_of (by kernel_rfl)) (by kernel_rfl) (b86_0 n x0 y1 r h)

/-- slices.insertionSortOrdered[int] -/
noncomputable def e80 : Env := { P := Try.prog, ann := ann, f := 80, fn := Try.f80, ptrs := [], rets := [] }
def st80_0 (data0 : (List Int)) (a1 : Int) (b2 : Int) (i6 : Int) (j7 : Int) : LS := ⟨[(0, .slice .sh (rows3 data0)), (1, .int .i64 a1), (2, .int .i64 b2), (6, .int .i64 i6), (7, .int .i64 j7)], []⟩
def st80_1 (data0 : (List Int)) (a1 : Int) (b2 : Int) (i6 : Int) : LS := ⟨[(0, .slice .sh (rows3 data0)), (1, .int .i64 a1), (2, .int .i64 b2), (6, .int .i64 i6)], []⟩
def st80_2 (data0 : (List Int)) (a1 : Int) (b2 : Int) (i6 : Int) : LS := ⟨[(0, .slice .sh (rows3 data0)), (1, .int .i64 a1), (2, .int .i64 b2), (6, .int .i64 i6)], []⟩
def st80_3 (data0 : (List Int)) (a1 : Int) (b2 : Int) : LS := ⟨[(0, .slice .sh (rows3 data0)), (1, .int .i64 a1), (2, .int .i64 b2)], []⟩
def sp80_0 : Stops := [([1, 1, 0, 0, 1], [(0, .nrm), (1, .same), (2, .same), (6, .same)], [])]
def B80_0 (k_1 : (List Int) → Int → Int → Int → Option Unit) (back : (List Int) → Int → Int → Int → Int → Option Unit) (n : Nat) (data0 : (List Int)) (a1 : Int) (b2 : Int) (i6 : Int) (j7 : Int) : Option Unit :=
  if decide (j7 > a1) then
    (idx data0 j7).bind fun x7_ =>
    (idx data0 (w64 (j7 - 1))).bind fun x12_ =>
    (F86 n x7_ x12_).bind fun x14_ =>
    if x14_ then
      (idx data0 (w64 (j7 - 1))).bind fun x24_ =>
      (idx data0 j7).bind fun x28_ =>
      (idx data0 j7).bind fun x30_ =>
      none
    else
      k_1 data0 a1 b2 i6
  else
    k_1 data0 a1 b2 i6

theorem b80_0 (k_1 : (List Int) → Int → Int → Int → Option Unit) (hk_1 : ∀ (data0 : (List Int)) (a1 : Int) (b2 : Int) (i6 : Int) (r : Unit), k_1 data0 a1 b2 i6 = some r → At e80 [1, 1, 0, 0, 1] (st80_1 data0 a1 b2 i6) (res80 r) (outs80 r)) (back : (List Int) → Int → Int → Int → Int → Option Unit) (hback : ∀ (data0 : (List Int)) (a1 : Int) (b2 : Int) (i6 : Int) (j7 : Int) (r : Unit), back data0 a1 b2 i6 j7 = some r → At e80 [0, 1, 0, 0, 1, 0, 0, 1] (st80_0 data0 a1 b2 i6 j7) (res80 r) (outs80 r)) (n : Nat) (data0 : (List Int)) (a1 : Int) (b2 : Int) (i6 : Int) (j7 : Int) (r : Unit) (h : B80_0 k_1 back n data0 a1 b2 i6 j7 = some r) : At e80 [0, 1, 0, 0, 1, 0, 0, 1] (st80_0 data0 a1 b2 i6 j7) (res80 r) (outs80 r) := by
  unfold B80_0 at h
  refine ite_elim h (fun c0_ h1_ => ?_) (fun c0_ h1_ => ?_)
  ·
    refine bind_elim h1_ (fun x7_ hx7_ h2_ => ?_)
    refine bind_elim h2_ (fun x12_ hx12_ h3_ => ?_)
    refine bind_elim h3_ (fun x14_ hx14_ h4_ => ?_)
    refine ite_elim h4_ (fun c1_ h5_ => ?_) (fun c1_ h5_ => ?_)
    ·
      subst c1_
      refine bind_elim h5_ (fun x24_ hx24_ h6_ => ?_)
      refine bind_elim h6_ (fun x28_ hx28_ h7_ => ?_)
      refine bind_elim h7_ (fun x30_ hx30_ h8_ => ?_)
      cases h8_
    ·
      subst c1_
      exact run_at (S := sp80_0) (G := []) (sc := [(2, .eq (.bool true)), (3, .core ⟨[(22, .imm (enc3 x7_))], []⟩), (4, .core ⟨[(27, .imm (enc3 x12_))], []⟩), (1, .call 86 (res86 false) (outs86 false))]) (obs := [CallOK Try.prog ann 86 [.int .i64 x7_, .int .i64 x12_] (res86 false) (outs86 false), indexAddrA Try.prog an80 (some 27) 30 (.slice .sh (rows3 data0)) (.int .i64 (w64 (j7 - 1))) = some ⟨[(27, .imm (enc3 x12_))], []⟩, indexAddrA Try.prog an80 (some 22) 30 (.slice .sh (rows3 data0)) (.int .i64 j7) = some ⟨[(22, .imm (enc3 x7_))], []⟩, AV.bool (decide (j7 > a1)) = .bool true]) (by kernel_rfl) ⟨ev86 n _ _ _ hx14_, R30.idxOb (A := an80) hx12_, R30.idxOb (A := an80) hx7_, congrArg AV.bool c0_, trivial⟩ (hk_1 _ _ _ _ _ h5_)
  ·
    exact run_at (S := sp80_0) (G := []) (sc := [(2, .eq (.bool false))]) (obs := [AV.bool (decide (j7 > a1)) = .bool false]) (by kernel_rfl) ⟨congrArg AV.bool c0_, trivial⟩ (hk_1 _ _ _ _ _ h1_)

def L80_0 (k_1 : (List Int) → Int → Int → Int → Option Unit) : Nat → (List Int) → Int → Int → Int → Int → Option Unit
  | 0, _, _, _, _, _ => none
  | n + 1, data0, a1, b2, i6, j7 => B80_0 k_1 (L80_0 k_1 n) n data0 a1 b2 i6 j7
theorem l80_0 (k_1 : (List Int) → Int → Int → Int → Option Unit) (hk_1 : ∀ (data0 : (List Int)) (a1 : Int) (b2 : Int) (i6 : Int) (r : Unit), k_1 data0 a1 b2 i6 = some r → At e80 [1, 1, 0, 0, 1] (st80_1 data0 a1 b2 i6) (res80 r) (outs80 r)) : ∀ (n : Nat) (data0 : (List Int)) (a1 : Int) (b2 : Int) (i6 : Int) (j7 : Int) (r : Unit), L80_0 k_1 n data0 a1 b2 i6 j7 = some r → At e80 [0, 1, 0, 0, 1, 0, 0, 1] (st80_0 data0 a1 b2 i6 j7) (res80 r) (outs80 r)
  | 0, _, _, _, _, _, _, h => by simp [L80_0] at h
  | n + 1, data0, a1, b2, i6, j7, r, h => b80_0 k_1 hk_1 (L80_0 k_1 n) (l80_0 k_1 hk_1 n) n data0 a1 b2 i6 j7 r h
def sp80_1 : Stops := [([0, 1], [(0, .nrm), (1, .same), (2, .same), (6, .same)], [])]
def B80_1 (k_2 : (List Int) → Int → Int → Int → Option Unit) (n : Nat) (data0 : (List Int)) (a1 : Int) (b2 : Int) (i6 : Int) : Option Unit :=
  k_2 data0 a1 b2 (w64 (i6 + 1))

theorem b80_1 (k_2 : (List Int) → Int → Int → Int → Option Unit) (hk_2 : ∀ (data0 : (List Int)) (a1 : Int) (b2 : Int) (i6 : Int) (r : Unit), k_2 data0 a1 b2 i6 = some r → At e80 [0, 1] (st80_2 data0 a1 b2 i6) (res80 r) (outs80 r)) (n : Nat) (data0 : (List Int)) (a1 : Int) (b2 : Int) (i6 : Int) (r : Unit) (h : B80_1 k_2 n data0 a1 b2 i6 = some r) : At e80 [1, 1, 0, 0, 1] (st80_1 data0 a1 b2 i6) (res80 r) (outs80 r) := by
  unfold B80_1 at h
  exact run_at (S := sp80_1) (G := []) (sc := []) (obs := []) (by kernel_rfl) trivial (hk_2 _ _ _ _ _ h)

def sp80_2 : Stops := [([0, 1, 0, 0, 1, 0, 0, 1], [(0, .nrm), (1, .same), (2, .same), (6, .same), (7, .same)], [])]
def B80_2 (back : (List Int) → Int → Int → Int → Option Unit) (n : Nat) (data0 : (List Int)) (a1 : Int) (b2 : Int) (i6 : Int) : Option Unit :=
  if decide (i6 < b2) then
    L80_0 (B80_1 back n) n data0 a1 b2 i6 i6
  else
    some ()

theorem b80_2 (back : (List Int) → Int → Int → Int → Option Unit) (hback : ∀ (data0 : (List Int)) (a1 : Int) (b2 : Int) (i6 : Int) (r : Unit), back data0 a1 b2 i6 = some r → At e80 [0, 1] (st80_2 data0 a1 b2 i6) (res80 r) (outs80 r)) (n : Nat) (data0 : (List Int)) (a1 : Int) (b2 : Int) (i6 : Int) (r : Unit) (h : B80_2 back n data0 a1 b2 i6 = some r) : At e80 [0, 1] (st80_2 data0 a1 b2 i6) (res80 r) (outs80 r) := by
  unfold B80_2 at h
  refine ite_elim h (fun c0_ h9_ => ?_) (fun c0_ h9_ => ?_)
  ·
    exact run_at (S := sp80_2) (G := []) (sc := [(2, .eq (.bool true))]) (obs := [AV.bool (decide (i6 < b2)) = .bool true]) (by kernel_rfl) ⟨congrArg AV.bool c0_, trivial⟩ (l80_0 (B80_1 back n) (b80_1 back hback n) n _ _ _ _ _ _ h9_)
  ·
    have e_ := Option.some.inj h9_
    subst e_
    exact run_ret (S := sp80_2) (G := []) (sc := [(2, .eq (.bool false))]) (obs := [AV.bool (decide (i6 < b2)) = .bool false]) (by kernel_rfl) ⟨congrArg AV.bool c0_, trivial⟩

def L80_2 : Nat → (List Int) → Int → Int → Int → Option Unit
  | 0, _, _, _, _ => none
  | n + 1, data0, a1, b2, i6 => B80_2 (L80_2 n) n data0 a1 b2 i6
theorem l80_2 : ∀ (n : Nat) (data0 : (List Int)) (a1 : Int) (b2 : Int) (i6 : Int) (r : Unit), L80_2 n data0 a1 b2 i6 = some r → At e80 [0, 1] (st80_2 data0 a1 b2 i6) (res80 r) (outs80 r)
  | 0, _, _, _, _, _, h => by simp [L80_2] at h
  | n + 1, data0, a1, b2, i6, r, h => b80_2 (L80_2 n) (l80_2 n) n data0 a1 b2 i6 r h
def sp80_3 : Stops := [([0, 1], [(0, .nrm), (1, .same), (2, .same), (6, .same)], [])]
def B80_3 (n : Nat) (data0 : (List Int)) (a1 : Int) (b2 : Int) : Option Unit :=
  L80_2 n data0 a1 b2 (w64 (a1 + 1))

theorem b80_3 (n : Nat) (data0 : (List Int)) (a1 : Int) (b2 : Int) (r : Unit) (h : B80_3 n data0 a1 b2 = some r) : At e80 [] (st80_3 data0 a1 b2) (res80 r) (outs80 r) := by
  unfold B80_3 at h
  exact run_at (S := sp80_3) (G := []) (sc := []) (obs := []) (by kernel_rfl) trivial (l80_2 n _ _ _ _ _ h)

def F80 (n : Nat) (data0 : (List Int)) (a1 : Int) (b2 : Int) : Option Unit := B80_3 n data0 a1 b2
theorem ev80 (n : Nat) (data0 : (List Int)) (a1 : Int) (b2 : Int) (r : Unit) (h : F80 n data0 a1 b2 = some r) : CallOK Try.prog ann 80 [.slice .sh (rows3 data0), .int .i64 a1, .int .i64 b2] (res80 r) (outs80 r) :=
  call_of_at (E := e80) (s := st80_3 data0 a1 b2) body80 Try.func80 (by kernel_rfl) (by kernel_rfl) (by kernel_rfl) (by kernel_rfl) (by kernel_rfl) (emptyOK_of (by kernel_rfl)) (by kernel_rfl) (b80_3 n data0 a1 b2 r h)

/-- slices.siftDownOrdered[int] -/
noncomputable def e92 : Env := { P := Try.prog, ann := ann, f := 92, fn := Try.f92, ptrs := [], rets := [] }
def st92_0 (data0 : (List Int)) (hi2 : Int) (first3 : Int) (root8 : Int) (child9 : Int) : LS := ⟨[(0, .slice .sh (rows3 data0)), (2, .int .i64 hi2), (3, .int .i64 first3), (8, .int .i64 root8), (9, .int .i64 child9)], []⟩
def st92_1 (data0 : (List Int)) (hi2 : Int) (first3 : Int) (root8 : Int) : LS := ⟨[(0, .slice .sh (rows3 data0)), (2, .int .i64 hi2), (3, .int .i64 first3), (8, .int .i64 root8)], []⟩
def st92_2 (data0 : (List Int)) (lo1 : Int) (hi2 : Int) (first3 : Int) : LS := ⟨[(0, .slice .sh (rows3 data0)), (1, .int .i64 lo1), (2, .int .i64 hi2), (3, .int .i64 first3)], []⟩
def sp92_0 : Stops := []
def B92_0 (n : Nat) (data0 : (List Int)) (hi2 : Int) (first3 : Int) (root8 : Int) (child9 : Int) : Option Unit :=
  (idx data0 (w64 (first3 + root8))).bind fun x5_ =>
  (idx data0 (w64 (first3 + child9))).bind fun x11_ =>
  (F86 n x5_ x11_).bind fun x13_ =>
  if !x13_ then
    some ()
  else
    (idx data0 (w64 (first3 + child9))).bind fun x27_ =>
    (idx data0 (w64 (first3 + root8))).bind fun x33_ =>
    (idx data0 (w64 (first3 + root8))).bind fun x35_ =>
    none

theorem b92_0 (n : Nat) (data0 : (List Int)) (hi2 : Int) (first3 : Int) (root8 : Int) (child9 : Int) (r : Unit) (h : B92_0 n data0 hi2 first3 root8 child9 = some r) : At e92 [1, 1, 1, 0, 0, 0, 1] (st92_0 data0 hi2 first3 root8 child9) (res92 r) (outs92 r) := by
  unfold B92_0 at h
  refine bind_elim h (fun x5_ hx5_ h1_ => ?_)
  refine bind_elim h1_ (fun x11_ hx11_ h2_ => ?_)
  refine bind_elim h2_ (fun x13_ hx13_ h3_ => ?_)
  refine ite_elim h3_ (fun c0_ h4_ => ?_) (fun c0_ h4_ => ?_)
  ·
    have e_ := Option.some.inj h4_
    subst e_
    exact run_ret (S := sp92_0) (G := []) (sc := [(4, .core ⟨[(43, .imm (enc3 x5_))], []⟩), (5, .core ⟨[(49, .imm (enc3 x11_))], []⟩), (1, .call 86 (res86 x13_) (outs86 x13_)), (0, .eq (.bool true))]) (obs := [AV.bool (!x13_) = .bool true, CallOK Try.prog ann 86 [.int .i64 x5_, .int .i64 x11_] (res86 x13_) (outs86 x13_), indexAddrA Try.prog an92 (some 49) 30 (.slice .sh (rows3 data0)) (.int .i64 (w64 (first3 + child9))) = some ⟨[(49, .imm (enc3 x11_))], []⟩, indexAddrA Try.prog an92 (some 43) 30 (.slice .sh (rows3 data0)) (.int .i64 (w64 (first3 + root8))) = some ⟨[(43, .imm (enc3 x5_))], []⟩]) (by kernel_rfl) ⟨congrArg AV.bool c0_, ev86 n _ _ _ hx13_, R30.idxOb (A := an92) hx11_, R30.idxOb (A := an92) hx5_, trivial⟩
  ·
    refine bind_elim h4_ (fun x27_ hx27_ h5_ => ?_)
    refine bind_elim h5_ (fun x33_ hx33_ h6_ => ?_)
    refine bind_elim h6_ (fun x35_ hx35_ h7_ => ?_)
    cases h7_

def sp92_1 : Stops := [([1, 1, 1, 0, 0, 0, 1], [(0, .nrm), (2, .same), (3, .same), (8, .same), (9, .same)], [])]
def B92_1 (back : (List Int) → Int → Int → Int → Option Unit) (n : Nat) (data0 : (List Int)) (hi2 : Int) (first3 : Int) (root8 : Int) : Option Unit :=
  if decide ((w64 ((w64 (2 * root8)) + 1)) ≥ hi2) then
    some ()
  else
    if decide ((w64 ((w64 ((w64 (2 * root8)) + 1)) + 1)) < hi2) then
      (idx data0 (w64 (first3 + (w64 ((w64 (2 * root8)) + 1))))).bind fun x17_ =>
      (idx data0 (w64 ((w64 (first3 + (w64 ((w64 (2 * root8)) + 1)))) + 1))).bind fun x24_ =>
      (F86 n x17_ x24_).bind fun x26_ =>
      if x26_ then
        B92_0 n data0 hi2 first3 root8 (w64 ((w64 ((w64 (2 * root8)) + 1)) + 1))
      else
        B92_0 n data0 hi2 first3 root8 (w64 ((w64 (2 * root8)) + 1))
    else
      B92_0 n data0 hi2 first3 root8 (w64 ((w64 (2 * root8)) + 1))

theorem b92_1 (back : (List Int) → Int → Int → Int → Option Unit) (hback : ∀ (data0 : (List Int)) (hi2 : Int) (first3 : Int) (root8 : Int) (r : Unit), back data0 hi2 first3 root8 = some r → At e92 [0, 1] (st92_1 data0 hi2 first3 root8) (res92 r) (outs92 r)) (n : Nat) (data0 : (List Int)) (hi2 : Int) (first3 : Int) (root8 : Int) (r : Unit) (h : B92_1 back n data0 hi2 first3 root8 = some r) : At e92 [0, 1] (st92_1 data0 hi2 first3 root8) (res92 r) (outs92 r) := by
  unfold B92_1 at h
  refine ite_elim h (fun c0_ h8_ => ?_) (fun c0_ h8_ => ?_)
  ·
    have e_ := Option.some.inj h8_
    subst e_
    exact run_ret (S := sp92_1) (G := []) (sc := [(6, .eq (.bool true))]) (obs := [AV.bool (decide ((w64 ((w64 (2 * root8)) + 1)) ≥ hi2)) = .bool true]) (by kernel_rfl) ⟨congrArg AV.bool c0_, trivial⟩
  ·
    refine ite_elim h8_ (fun c1_ h9_ => ?_) (fun c1_ h9_ => ?_)
    ·
      refine bind_elim h9_ (fun x17_ hx17_ h10_ => ?_)
      refine bind_elim h10_ (fun x24_ hx24_ h11_ => ?_)
      refine bind_elim h11_ (fun x26_ hx26_ h12_ => ?_)
      refine ite_elim h12_ (fun c2_ h13_ => ?_) (fun c2_ h13_ => ?_)
      ·
        subst c2_
        exact run_at (S := sp92_1) (G := []) (sc := [(6, .eq (.bool false)), (3, .eq (.bool true)), (5, .core ⟨[(26, .imm (enc3 x17_))], []⟩), (6, .core ⟨[(33, .imm (enc3 x24_))], []⟩), (1, .call 86 (res86 true) (outs86 true))]) (obs := [CallOK Try.prog ann 86 [.int .i64 x17_, .int .i64 x24_] (res86 true) (outs86 true), indexAddrA Try.prog an92 (some 33) 30 (.slice .sh (rows3 data0)) (.int .i64 (w64 ((w64 (first3 + (w64 ((w64 (2 * root8)) + 1)))) + 1))) = some ⟨[(33, .imm (enc3 x24_))], []⟩, indexAddrA Try.prog an92 (some 26) 30 (.slice .sh (rows3 data0)) (.int .i64 (w64 (first3 + (w64 ((w64 (2 * root8)) + 1))))) = some ⟨[(26, .imm (enc3 x17_))], []⟩, AV.bool (decide ((w64 ((w64 ((w64 (2 * root8)) + 1)) + 1)) < hi2)) = .bool true, AV.bool (decide ((w64 ((w64 (2 * root8)) + 1)) ≥ hi2)) = .bool false]) (by kernel_rfl) ⟨ev86 n _ _ _ hx26_, R30.idxOb (A := an92) hx24_, R30.idxOb (A := an92) hx17_, congrArg AV.bool c1_, congrArg AV.bool c0_, trivial⟩ (b92_0 n _ _ _ _ _ _ h13_)
      ·
        subst c2_
        exact run_at (S := sp92_1) (G := []) (sc := [(6, .eq (.bool false)), (3, .eq (.bool true)), (5, .core ⟨[(26, .imm (enc3 x17_))], []⟩), (6, .core ⟨[(33, .imm (enc3 x24_))], []⟩), (1, .call 86 (res86 false) (outs86 false))]) (obs := [CallOK Try.prog ann 86 [.int .i64 x17_, .int .i64 x24_] (res86 false) (outs86 false), indexAddrA Try.prog an92 (some 33) 30 (.slice .sh (rows3 data0)) (.int .i64 (w64 ((w64 (first3 + (w64 ((w64 (2 * root8)) + 1)))) + 1))) = some ⟨[(33, .imm (enc3 x24_))], []⟩, indexAddrA Try.prog an92 (some 26) 30 (.slice .sh (rows3 data0)) (.int .i64 (w64 (first3 + (w64 ((w64 (2 * root8)) + 1))))) = some ⟨[(26, .imm (enc3 x17_))], []⟩, AV.bool (decide ((w64 ((w64 ((w64 (2 * root8)) + 1)) + 1)) < hi2)) = .bool true, AV.bool (decide ((w64 ((w64 (2 * root8)) + 1)) ≥ hi2)) = .bool false]) (by kernel_rfl) ⟨ev86 n _ _ _ hx26_, R30.idxOb (A := an92) hx24_, R30.idxOb (A := an92) hx17_, congrArg AV.bool c1_, congrArg AV.bool c0_, trivial⟩ (b92_0 n _ _ _ _ _ _ h13_)
    ·
      exact run_at (S := sp92_1) (G := []) (sc := [(6, .eq (.bool false)), (3, .eq (.bool false))]) (obs := [AV.bool (decide ((w64 ((w64 ((w64 (2 * root8)) + 1)) + 1)) < hi2)) = .bool false, AV.bool (decide ((w64 ((w64 (2 * root8)) + 1)) ≥ hi2)) = .bool false]) (by kernel_rfl) ⟨congrArg AV.bool c1_, congrArg AV.bool c0_, trivial⟩ (b92_0 n _ _ _ _ _ _ h9_)

def L92_1 : Nat → (List Int) → Int → Int → Int → Option Unit
  | 0, _, _, _, _ => none
  | n + 1, data0, hi2, first3, root8 => B92_1 (L92_1 n) n data0 hi2 first3 root8
theorem l92_1 : ∀ (n : Nat) (data0 : (List Int)) (hi2 : Int) (first3 : Int) (root8 : Int) (r : Unit), L92_1 n data0 hi2 first3 root8 = some r → At e92 [0, 1] (st92_1 data0 hi2 first3 root8) (res92 r) (outs92 r)
  | 0, _, _, _, _, _, h => by simp [L92_1] at h
  | n + 1, data0, hi2, first3, root8, r, h => b92_1 (L92_1 n) (l92_1 n) n data0 hi2 first3 root8 r h
def sp92_2 : Stops := [([0, 1], [(0, .nrm), (2, .same), (3, .same), (8, .same)], [])]
def B92_2 (n : Nat) (data0 : (List Int)) (lo1 : Int) (hi2 : Int) (first3 : Int) : Option Unit :=
  L92_1 n data0 hi2 first3 lo1

theorem b92_2 (n : Nat) (data0 : (List Int)) (lo1 : Int) (hi2 : Int) (first3 : Int) (r : Unit) (h : B92_2 n data0 lo1 hi2 first3 = some r) : At e92 [] (st92_2 data0 lo1 hi2 first3) (res92 r) (outs92 r) := by
  unfold B92_2 at h
  exact run_at (S := sp92_2) (G := []) (sc := []) (obs := []) (by kernel_rfl) trivial (l92_1 n _ _ _ _ _ h)

def F92 (n : Nat) (data0 : (List Int)) (lo1 : Int) (hi2 : Int) (first3 : Int) : Option Unit := B92_2 n data0 lo1 hi2 first3
theorem ev92 (n : Nat) (data0 : (List Int)) (lo1 : Int) (hi2 : Int) (first3 : Int) (r : Unit) (h : F92 n data0 lo1 hi2 first3 = some r) : CallOK Try.prog ann 92 [.slice .sh (rows3 data0), .int .i64 lo1, .int .i64 hi2, .int .i64 first3] (res92 r) (outs92 r) :=
  call_of_at (E := e92) (s := st92_2 data0 lo1 hi2 first3) body92 Try.func92 (by kernel_rfl) (by kernel_rfl) (by kernel_rfl) (by kernel_rfl) (by kernel_rfl) (emptyOK_of (by kernel_rfl)) (by kernel_rfl) (b92_2 n data0 lo1 hi2 first3 r h)

/-- slices.heapSortOrdered[int] -/
noncomputable def e81 : Env := { P := Try.prog, ann := ann, f := 81, fn := Try.f81, ptrs := [], rets := [] }
def st81_0 (data0 : (List Int)) (first6 : Int) (hi8 : Int) (i9 : Int) : LS := ⟨[(0, .slice .sh (rows3 data0)), (6, .int .i64 first6), (7, .int .i64 0), (8, .int .i64 hi8), (9, .int .i64 i9)], []⟩
def st81_1 (data0 : (List Int)) (first6 : Int) (i10 : Int) : LS := ⟨[(0, .slice .sh (rows3 data0)), (6, .int .i64 first6), (7, .int .i64 0), (10, .int .i64 i10)], []⟩
def st81_2 (data0 : (List Int)) (first6 : Int) (hi8 : Int) : LS := ⟨[(0, .slice .sh (rows3 data0)), (6, .int .i64 first6), (7, .int .i64 0), (8, .int .i64 hi8)], []⟩
def st81_3 (data0 : (List Int)) (a1 : Int) (b2 : Int) : LS := ⟨[(0, .slice .sh (rows3 data0)), (1, .int .i64 a1), (2, .int .i64 b2)], []⟩
def sp81_0 : Stops := [([0, 1, 0, 1, 1, 1], [(0, .nrm), (6, .same), (7, .same), (8, .same), (9, .same)], []), ([1, 1, 1, 1], [(0, .nrm), (6, .same), (7, .same), (8, .same)], [])]
def B81_0 (k_2 : (List Int) → Int → Int → Option Unit) (back : (List Int) → Int → Int → Int → Option Unit) (n : Nat) (data0 : (List Int)) (first6 : Int) (hi8 : Int) (i9 : Int) : Option Unit :=
  if decide (i9 ≥ 0) then
    (F92 n data0 i9 hi8 first6).bind fun x7_ =>
    back data0 first6 hi8 (w64 (i9 - 1))
  else
    k_2 data0 first6 hi8

theorem b81_0 (k_2 : (List Int) → Int → Int → Option Unit) (hk_2 : ∀ (data0 : (List Int)) (first6 : Int) (hi8 : Int) (r : Unit), k_2 data0 first6 hi8 = some r → At e81 [1, 1, 1, 1] (st81_2 data0 first6 hi8) (res81 r) (outs81 r)) (back : (List Int) → Int → Int → Int → Option Unit) (hback : ∀ (data0 : (List Int)) (first6 : Int) (hi8 : Int) (i9 : Int) (r : Unit), back data0 first6 hi8 i9 = some r → At e81 [0, 1, 0, 1, 1, 1] (st81_0 data0 first6 hi8 i9) (res81 r) (outs81 r)) (n : Nat) (data0 : (List Int)) (first6 : Int) (hi8 : Int) (i9 : Int) (r : Unit) (h : B81_0 k_2 back n data0 first6 hi8 i9 = some r) : At e81 [0, 1, 0, 1, 1, 1] (st81_0 data0 first6 hi8 i9) (res81 r) (outs81 r) := by
  unfold B81_0 at h
  refine ite_elim h (fun c0_ h1_ => ?_) (fun c0_ h1_ => ?_)
  ·
    refine bind_elim h1_ (fun x7_ hx7_ h2_ => ?_)
    exact run_at (S := sp81_0) (G := []) (sc := [(1, .eq (.bool true)), (4, .call 92 (res92 x7_) (outs92 x7_))]) (obs := [CallOK Try.prog ann 92 [.slice .sh (rows3 data0), .int .i64 i9, .int .i64 hi8, .int .i64 first6] (res92 x7_) (outs92 x7_), AV.bool (decide (i9 ≥ 0)) = .bool true]) (by kernel_rfl) ⟨ev92 n _ _ _ _ _ hx7_, congrArg AV.bool c0_, trivial⟩ (hback _ _ _ _ _ h2_)
  ·
    exact run_at (S := sp81_0) (G := []) (sc := [(1, .eq (.bool false))]) (obs := [AV.bool (decide (i9 ≥ 0)) = .bool false]) (by kernel_rfl) ⟨congrArg AV.bool c0_, trivial⟩ (hk_2 _ _ _ _ h1_)

def L81_0 (k_2 : (List Int) → Int → Int → Option Unit) : Nat → (List Int) → Int → Int → Int → Option Unit
  | 0, _, _, _, _ => none
  | n + 1, data0, first6, hi8, i9 => B81_0 k_2 (L81_0 k_2 n) n data0 first6 hi8 i9
theorem l81_0 (k_2 : (List Int) → Int → Int → Option Unit) (hk_2 : ∀ (data0 : (List Int)) (first6 : Int) (hi8 : Int) (r : Unit), k_2 data0 first6 hi8 = some r → At e81 [1, 1, 1, 1] (st81_2 data0 first6 hi8) (res81 r) (outs81 r)) : ∀ (n : Nat) (data0 : (List Int)) (first6 : Int) (hi8 : Int) (i9 : Int) (r : Unit), L81_0 k_2 n data0 first6 hi8 i9 = some r → At e81 [0, 1, 0, 1, 1, 1] (st81_0 data0 first6 hi8 i9) (res81 r) (outs81 r)
  | 0, _, _, _, _, _, h => by simp [L81_0] at h
  | n + 1, data0, first6, hi8, i9, r, h => b81_0 k_2 hk_2 (L81_0 k_2 n) (l81_0 k_2 hk_2 n) n data0 first6 hi8 i9 r h
def sp81_1 : Stops := []
def B81_1 (back : (List Int) → Int → Int → Option Unit) (n : Nat) (data0 : (List Int)) (first6 : Int) (i10 : Int) : Option Unit :=
  if decide (i10 ≥ 0) then
    (idx data0 (w64 (first6 + i10))).bind fun x13_ =>
    (idx data0 first6).bind fun x17_ =>
    (idx data0 first6).bind fun x19_ =>
    none
  else
    some ()

theorem b81_1 (back : (List Int) → Int → Int → Option Unit) (hback : ∀ (data0 : (List Int)) (first6 : Int) (i10 : Int) (r : Unit), back data0 first6 i10 = some r → At e81 [0, 1, 1, 1, 1, 1] (st81_1 data0 first6 i10) (res81 r) (outs81 r)) (n : Nat) (data0 : (List Int)) (first6 : Int) (i10 : Int) (r : Unit) (h : B81_1 back n data0 first6 i10 = some r) : At e81 [0, 1, 1, 1, 1, 1] (st81_1 data0 first6 i10) (res81 r) (outs81 r) := by
  unfold B81_1 at h
  refine ite_elim h (fun c0_ h3_ => ?_) (fun c0_ h3_ => ?_)
  ·
    refine bind_elim h3_ (fun x13_ hx13_ h4_ => ?_)
    refine bind_elim h4_ (fun x17_ hx17_ h5_ => ?_)
    refine bind_elim h5_ (fun x19_ hx19_ h6_ => ?_)
    cases h6_
  ·
    have e_ := Option.some.inj h3_
    subst e_
    exact run_ret (S := sp81_1) (G := []) (sc := [(1, .eq (.bool false))]) (obs := [AV.bool (decide (i10 ≥ 0)) = .bool false]) (by kernel_rfl) ⟨congrArg AV.bool c0_, trivial⟩

def L81_1 : Nat → (List Int) → Int → Int → Option Unit
  | 0, _, _, _ => none
  | n + 1, data0, first6, i10 => B81_1 (L81_1 n) n data0 first6 i10
theorem l81_1 : ∀ (n : Nat) (data0 : (List Int)) (first6 : Int) (i10 : Int) (r : Unit), L81_1 n data0 first6 i10 = some r → At e81 [0, 1, 1, 1, 1, 1] (st81_1 data0 first6 i10) (res81 r) (outs81 r)
  | 0, _, _, _, _, h => by simp [L81_1] at h
  | n + 1, data0, first6, i10, r, h => b81_1 (L81_1 n) (l81_1 n) n data0 first6 i10 r h
def sp81_2 : Stops := [([0, 1, 1, 1, 1, 1], [(0, .nrm), (6, .same), (7, .same), (10, .same)], [])]
def B81_2 (n : Nat) (data0 : (List Int)) (first6 : Int) (hi8 : Int) : Option Unit :=
  L81_1 n data0 first6 (w64 (hi8 - 1))

theorem b81_2 (n : Nat) (data0 : (List Int)) (first6 : Int) (hi8 : Int) (r : Unit) (h : B81_2 n data0 first6 hi8 = some r) : At e81 [1, 1, 1, 1] (st81_2 data0 first6 hi8) (res81 r) (outs81 r) := by
  unfold B81_2 at h
  exact run_at (S := sp81_2) (G := []) (sc := []) (obs := []) (by kernel_rfl) trivial (l81_1 n _ _ _ _ h)

def sp81_3 : Stops := [([0, 1, 0, 1, 1, 1], [(0, .nrm), (6, .same), (7, .same), (8, .same), (9, .same)], [])]
def B81_3 (n : Nat) (data0 : (List Int)) (a1 : Int) (b2 : Int) : Option Unit :=
  L81_0 (B81_2 n) n data0 a1 (w64 (b2 - a1)) (w64 (Int.tdiv (w64 ((w64 (b2 - a1)) - 1)) 2))

theorem b81_3 (n : Nat) (data0 : (List Int)) (a1 : Int) (b2 : Int) (r : Unit) (h : B81_3 n data0 a1 b2 = some r) : At e81 [] (st81_3 data0 a1 b2) (res81 r) (outs81 r) := by
  unfold B81_3 at h
  exact run_at (S := sp81_3) (G := []) (sc := []) (obs := []) (by kernel_rfl) trivial (l81_0 (B81_2 n) (b81_2 n) n _ _ _ _ _ h)

def F81 (n : Nat) (data0 : (List Int)) (a1 : Int) (b2 : Int) : Option Unit := B81_3 n data0 a1 b2
theorem ev81 (n : Nat) (data0 : (List Int)) (a1 : Int) (b2 : Int) (r : Unit) (h : F81 n data0 a1 b2 = some r) : CallOK Try.prog ann 81 [.slice .sh (rows3 data0), .int .i64 a1, .int .i64 b2] (res81 r) (outs81 r) :=
  call_of_at (E := e81) (s := st81_3 data0 a1 b2) body81 Try.func81 (by kernel_rfl) (by kernel_rfl) (by kernel_rfl) (by kernel_rfl) (by kernel_rfl) (emptyOK_of (by kernel_rfl)) (by kernel_rfl) (b81_3 n data0 a1 b2 r h)

/-- math/bits.Len32 -/
noncomputable def e89 : Env := { P := Try.prog, ann := ann, f := 89, fn := Try.f89, ptrs := [], rets := [(2, .same)] }
def st89_0 (x0 : Int) : LS := ⟨[(0, .int .u32 x0)], []⟩
def sp89_0 : Stops := []
def B89_0 (n : Nat) (x0 : Int) : Option Int :=
  if decide (x0 ≥ 65536) then
    none
  else
    if decide (x0 ≥ 256) then
      none
    else
      (idxS (ByteArray.mk #[0, 1, 2, 2, 3, 3, 3, 3, 4, 4, 4, 4, 4, 4, 4, 4, 5, 5, 5, 5, 5, 5, 5, 5, 5, 5, 5, 5, 5, 5, 5, 5, 6, 6, 6, 6, 6, 6, 6, 6, 6, 6, 6, 6, 6, 6, 6, 6, 6, 6, 6, 6, 6, 6, 6, 6, 6, 6, 6, 6, 6, 6, 6, 6, 7, 7, 7, 7, 7, 7, 7, 7, 7, 7, 7, 7, 7, 7, 7, 7, 7, 7, 7, 7, 7, 7, 7, 7, 7, 7, 7, 7, 7, 7, 7, 7, 7, 7, 7, 7, 7, 7, 7, 7, 7, 7, 7, 7, 7, 7, 7, 7, 7, 7, 7, 7, 7, 7, 7, 7, 7, 7, 7, 7, 7, 7, 7, 7, 8, 8, 8, 8, 8, 8, 8, 8, 8, 8, 8, 8, 8, 8, 8, 8, 8, 8, 8, 8, 8, 8, 8, 8, 8, 8, 8, 8, 8, 8, 8, 8, 8, 8, 8, 8, 8, 8, 8, 8, 8, 8, 8, 8, 8, 8, 8, 8, 8, 8, 8, 8, 8, 8, 8, 8, 8, 8, 8, 8, 8, 8, 8, 8, 8, 8, 8, 8, 8, 8, 8, 8, 8, 8, 8, 8, 8, 8, 8, 8, 8, 8, 8, 8, 8, 8, 8, 8, 8, 8, 8, 8, 8, 8, 8, 8, 8, 8, 8, 8, 8, 8, 8, 8, 8, 8, 8, 8, 8, 8, 8, 8, 8, 8, 8, 8, 8, 8, 8, 8, 8, 8, 8, 8, 8, 8, 8, 8]) (IntKind.wrap .u8 (x0))).bind fun x9_ =>
      some (w64 (0 + (w64 (x9_))))

theorem b89_0 (n : Nat) (x0 : Int) (r : Int) (h : B89_0 n x0 = some r) : At e89 [] (st89_0 x0) (res89 r) (outs89 r) := by
  unfold B89_0 at h
  refine ite_elim h (fun c0_ h1_ => ?_) (fun c0_ h1_ => ?_)
  ·
    cases h1_
  ·
    refine ite_elim h1_ (fun c1_ h2_ => ?_) (fun c1_ h2_ => ?_)
    ·
      cases h2_
    ·
      refine bind_elim h2_ (fun x9_ hx9_ h3_ => ?_)
      have e_ := Option.some.inj h3_
      subst e_
      exact run_ret (S := sp89_0) (G := []) (sc := [(2, .eq (.bool false)), (1, .eq (.bool false)), (3, .core ⟨[(16, .int .u8 x9_)], []⟩)]) (obs := [(indexA Try.prog 9 (.str (ByteArray.mk #[0, 1, 2, 2, 3, 3, 3, 3, 4, 4, 4, 4, 4, 4, 4, 4, 5, 5, 5, 5, 5, 5, 5, 5, 5, 5, 5, 5, 5, 5, 5, 5, 6, 6, 6, 6, 6, 6, 6, 6, 6, 6, 6, 6, 6, 6, 6, 6, 6, 6, 6, 6, 6, 6, 6, 6, 6, 6, 6, 6, 6, 6, 6, 6, 7, 7, 7, 7, 7, 7, 7, 7, 7, 7, 7, 7, 7, 7, 7, 7, 7, 7, 7, 7, 7, 7, 7, 7, 7, 7, 7, 7, 7, 7, 7, 7, 7, 7, 7, 7, 7, 7, 7, 7, 7, 7, 7, 7, 7, 7, 7, 7, 7, 7, 7, 7, 7, 7, 7, 7, 7, 7, 7, 7, 7, 7, 7, 7, 8, 8, 8, 8, 8, 8, 8, 8, 8, 8, 8, 8, 8, 8, 8, 8, 8, 8, 8, 8, 8, 8, 8, 8, 8, 8, 8, 8, 8, 8, 8, 8, 8, 8, 8, 8, 8, 8, 8, 8, 8, 8, 8, 8, 8, 8, 8, 8, 8, 8, 8, 8, 8, 8, 8, 8, 8, 8, 8, 8, 8, 8, 8, 8, 8, 8, 8, 8, 8, 8, 8, 8, 8, 8, 8, 8, 8, 8, 8, 8, 8, 8, 8, 8, 8, 8, 8, 8, 8, 8, 8, 8, 8, 8, 8, 8, 8, 8, 8, 8, 8, 8, 8, 8, 8, 8, 8, 8, 8, 8, 8, 8, 8, 8, 8, 8, 8, 8, 8, 8, 8, 8, 8, 8, 8, 8, 8, 8])) (.int .u8 (IntKind.wrap .u8 (x0)))).bind (putA an89 (some 16)) = some ⟨[(16, .int .u8 x9_)], []⟩, AV.bool (decide (x0 ≥ 256)) = .bool false, AV.bool (decide (x0 ≥ 65536)) = .bool false]) (by kernel_rfl) ⟨idxS_ob (A := an89) (by kernel_rfl) hx9_, congrArg AV.bool c1_, congrArg AV.bool c0_, trivial⟩

def F89 (n : Nat) (x0 : Int) : Option Int := B89_0 n x0
theorem ev89 (n : Nat) (x0 : Int) (r : Int) (h : F89 n x0 = some r) : CallOK Try.prog ann 89 [.int .u32 x0] (res89 r) (outs89 r) :=
  call_of_at (E := e89) (s := st89_0 x0) body89 Try.func89 (by kernel_rfl) (by kernel_rfl) (by kernel_rfl) (by kernel_rfl) (by kernel_rfl) (emptyOK_of (by kernel_rfl)) (by kernel_rfl) (b89_0 n x0 r h)

/-- math/bits.Len64 -/
noncomputable def e90 : Env := { P := Try.prog, ann := ann, f := 90, fn := Try.f90, ptrs := [], rets := [(2, .same)] }
def st90_0 (x0 : Int) : LS := ⟨[(0, .int .u64 x0)], []⟩
def sp90_0 : Stops := []
def B90_0 (n : Nat) (x0 : Int) : Option Int :=
  if decide (x0 ≥ 4294967296) then
    none
  else
    if decide (x0 ≥ 65536) then
      none
    else
      if decide (x0 ≥ 256) then
        none
      else
        (idxS (ByteArray.mk #[0, 1, 2, 2, 3, 3, 3, 3, 4, 4, 4, 4, 4, 4, 4, 4, 5, 5, 5, 5, 5, 5, 5, 5, 5, 5, 5, 5, 5, 5, 5, 5, 6, 6, 6, 6, 6, 6, 6, 6, 6, 6, 6, 6, 6, 6, 6, 6, 6, 6, 6, 6, 6, 6, 6, 6, 6, 6, 6, 6, 6, 6, 6, 6, 7, 7, 7, 7, 7, 7, 7, 7, 7, 7, 7, 7, 7, 7, 7, 7, 7, 7, 7, 7, 7, 7, 7, 7, 7, 7, 7, 7, 7, 7, 7, 7, 7, 7, 7, 7, 7, 7, 7, 7, 7, 7, 7, 7, 7, 7, 7, 7, 7, 7, 7, 7, 7, 7, 7, 7, 7, 7, 7, 7, 7, 7, 7, 7, 8, 8, 8, 8, 8, 8, 8, 8, 8, 8, 8, 8, 8, 8, 8, 8, 8, 8, 8, 8, 8, 8, 8, 8, 8, 8, 8, 8, 8, 8, 8, 8, 8, 8, 8, 8, 8, 8, 8, 8, 8, 8, 8, 8, 8, 8, 8, 8, 8, 8, 8, 8, 8, 8, 8, 8, 8, 8, 8, 8, 8, 8, 8, 8, 8, 8, 8, 8, 8, 8, 8, 8, 8, 8, 8, 8, 8, 8, 8, 8, 8, 8, 8, 8, 8, 8, 8, 8, 8, 8, 8, 8, 8, 8, 8, 8, 8, 8, 8, 8, 8, 8, 8, 8, 8, 8, 8, 8, 8, 8, 8, 8, 8, 8, 8, 8, 8, 8, 8, 8, 8, 8, 8, 8, 8, 8, 8, 8]) (IntKind.wrap .u8 (x0))).bind fun x11_ =>
        some (w64 (0 + (w64 (x11_))))

theorem b90_0 (n : Nat) (x0 : Int) (r : Int) (h : B90_0 n x0 = some r) : At e90 [] (st90_0 x0) (res90 r) (outs90 r) := by
  unfold B90_0 at h
  refine ite_elim h (fun c0_ h1_ => ?_) (fun c0_ h1_ => ?_)
  ·
    cases h1_
  ·
    refine ite_elim h1_ (fun c1_ h2_ => ?_) (fun c1_ h2_ => ?_)
    ·
      cases h2_
    ·
      refine ite_elim h2_ (fun c2_ h3_ => ?_) (fun c2_ h3_ => ?_)
      ·
        cases h3_
      ·
        refine bind_elim h3_ (fun x11_ hx11_ h4_ => ?_)
        have e_ := Option.some.inj h4_
        subst e_
        exact run_ret (S := sp90_0) (G := []) (sc := [(2, .eq (.bool false)), (1, .eq (.bool false)), (1, .eq (.bool false)), (3, .core ⟨[(22, .int .u8 x11_)], []⟩)]) (obs := [(indexA Try.prog 9 (.str (ByteArray.mk #[0, 1, 2, 2, 3, 3, 3, 3, 4, 4, 4, 4, 4, 4, 4, 4, 5, 5, 5, 5, 5, 5, 5, 5, 5, 5, 5, 5, 5, 5, 5, 5, 6, 6, 6, 6, 6, 6, 6, 6, 6, 6, 6, 6, 6, 6, 6, 6, 6, 6, 6, 6, 6, 6, 6, 6, 6, 6, 6, 6, 6, 6, 6, 6, 7, 7, 7, 7, 7, 7, 7, 7, 7, 7, 7, 7, 7, 7, 7, 7, 7, 7, 7, 7, 7, 7, 7, 7, 7, 7, 7, 7, 7, 7, 7, 7, 7, 7, 7, 7, 7, 7, 7, 7, 7, 7, 7, 7, 7, 7, 7, 7, 7, 7, 7, 7, 7, 7, 7, 7, 7, 7, 7, 7, 7, 7, 7, 7, 8, 8, 8, 8, 8, 8, 8, 8, 8, 8, 8, 8, 8, 8, 8, 8, 8, 8, 8, 8, 8, 8, 8, 8, 8, 8, 8, 8, 8, 8, 8, 8, 8, 8, 8, 8, 8, 8, 8, 8, 8, 8, 8, 8, 8, 8, 8, 8, 8, 8, 8, 8, 8, 8, 8, 8, 8, 8, 8, 8, 8, 8, 8, 8, 8, 8, 8, 8, 8, 8, 8, 8, 8, 8, 8, 8, 8, 8, 8, 8, 8, 8, 8, 8, 8, 8, 8, 8, 8, 8, 8, 8, 8, 8, 8, 8, 8, 8, 8, 8, 8, 8, 8, 8, 8, 8, 8, 8, 8, 8, 8, 8, 8, 8, 8, 8, 8, 8, 8, 8, 8, 8, 8, 8, 8, 8, 8, 8])) (.int .u8 (IntKind.wrap .u8 (x0)))).bind (putA an90 (some 22)) = some ⟨[(22, .int .u8 x11_)], []⟩, AV.bool (decide (x0 ≥ 256)) = .bool false, AV.bool (decide (x0 ≥ 65536)) = .bool false, AV.bool (decide (x0 ≥ 4294967296)) = .bool false]) (by kernel_rfl) ⟨idxS_ob (A := an90) (by kernel_rfl) hx11_, congrArg AV.bool c2_, congrArg AV.bool c1_, congrArg AV.bool c0_, trivial⟩

def F90 (n : Nat) (x0 : Int) : Option Int := B90_0 n x0
theorem ev90 (n : Nat) (x0 : Int) (r : Int) (h : F90 n x0 = some r) : CallOK Try.prog ann 90 [.int .u64 x0] (res90 r) (outs90 r) :=
  call_of_at (E := e90) (s := st90_0 x0) body90 Try.func90 (by kernel_rfl) (by kernel_rfl) (by kernel_rfl) (by kernel_rfl) (by kernel_rfl) (emptyOK_of (by kernel_rfl)) (by kernel_rfl) (b90_0 n x0 r h)

/-- math/bits.Len -/
noncomputable def e75 : Env := { P := Try.prog, ann := ann, f := 75, fn := Try.f75, ptrs := [], rets := [(2, .same)] }
def st75_0 (x0 : Int) : LS := ⟨[(0, .int .u64 x0)], []⟩
def sp75_0 : Stops := []
def B75_0 (n : Nat) (x0 : Int) : Option Int :=
  (F90 n x0).bind fun x3_ =>
  some x3_

theorem b75_0 (n : Nat) (x0 : Int) (r : Int) (h : B75_0 n x0 = some r) : At e75 [] (st75_0 x0) (res75 r) (outs75 r) := by
  unfold B75_0 at h
  refine bind_elim h (fun x3_ hx3_ h1_ => ?_)
  have e_ := Option.some.inj h1_
  subst e_
  exact run_ret (S := sp75_0) (G := []) (sc := [(2, .call 90 (res90 x3_) (outs90 x3_))]) (obs := [CallOK Try.prog ann 90 [.int .u64 x0] (res90 x3_) (outs90 x3_)]) (by kernel_rfl) ⟨ev90 n _ _ hx3_, trivial⟩

def F75 (n : Nat) (x0 : Int) : Option Int := B75_0 n x0
theorem ev75 (n : Nat) (x0 : Int) (r : Int) (h : F75 n x0 = some r) : CallOK Try.prog ann 75 [.int .u64 x0] (res75 r) (outs75 r) :=
  call_of_at (E := e75) (s := st75_0 x0) body75 Try.func75 (by kernel_rfl) (by kernel_rfl) (by kernel_rfl) (by kernel_rfl) (by kernel_rfl) (emptyOK_of (by kernel_rfl)) (by kernel_rfl) (b75_0 n x0 r h)

/-- slices.nextPowerOfTwo -/
noncomputable def e93 : Env := { P := Try.prog, ann := ann, f := 93, fn := Try.f93, ptrs := [], rets := [(2, .same)] }
def st93_0 (length0 : Int) : LS := ⟨[(0, .int .i64 length0)], []⟩
def sp93_0 : Stops := []
def B93_0 (n : Nat) (length0 : Int) : Option Int :=
  (F75 n (IntKind.wrap .u64 (length0))).bind fun x4_ =>
  none

theorem b93_0 (n : Nat) (length0 : Int) (r : Int) (h : B93_0 n length0 = some r) : At e93 [] (st93_0 length0) (res93 r) (outs93 r) := by
  unfold B93_0 at h
  refine bind_elim h (fun x4_ hx4_ h1_ => ?_)
  cases h1_

def F93 (n : Nat) (length0 : Int) : Option Int := B93_0 n length0
theorem ev93 (n : Nat) (length0 : Int) (r : Int) (h : F93 n length0 = some r) : CallOK Try.prog ann 93 [.int .i64 length0] (res93 r) (outs93 r) :=
  call_of_at (E := e93) (s := st93_0 length0) body93 Try.func93 (by kernel_rfl) (by kernel_rfl) (by kernel_rfl) (by kernel_rfl) (by kernel_rfl) (emptyOK_of (by kernel_rfl)) (by kernel_rfl) (b93_0 n length0 r h)

/-- (*slices.xorshift).Next -/
noncomputable def e94 : Env := { P := Try.prog, ann := ann, f := 94, fn := Try.f94, ptrs := [0], rets := [(2, .same)] }
def st94_0 (r0 : Int) : LS := ⟨[(0, .loc 0 0)], [(0, [.int .u64 r0])]⟩
def sp94_0 : Stops := []
def B94_0 (n : Nat) (r0 : Int) : Option (Int × Int) :=
  none

theorem b94_0 (n : Nat) (r0 : Int) (r : (Int × Int)) (h : B94_0 n r0 = some r) : At e94 [] (st94_0 r0) (res94 r) (outs94 r) := by
  unfold B94_0 at h
  cases h

def F94 (n : Nat) (r0 : Int) : Option (Int × Int) := B94_0 n r0
theorem ev94 (n : Nat) (r0 : Int) (r : (Int × Int)) (h : F94 n r0 = some r) : CallOK Try.prog ann 94 [.ptr (enc112 r0)] (res94 r) (outs94 r) :=
  call_of_at (E := e94) (s := st94_0 r0) body94 Try.func94 (by kernel_rfl) (by kernel_rfl) (by kernel_rfl) (by kernel_rfl) (by kernel_rfl) (emptyOK_of (by kernel_rfl)) (by kernel_rfl) (b94_0 n r0 r h)

/-- slices.breakPatternsOrdered[int] -/
noncomputable def e82 : Env := { P := Try.prog, ann := ann, f := 82, fn := Try.f82, ptrs := [], rets := [] }
def st82_0 (data0 : (List Int)) (a1 : Int) (length6 : Int) (modulus8 : Int) (idx9 : Int) (brandom7 : Int) : LS := ⟨[(0, .slice .sh (rows3 data0)), (1, .int .i64 a1), (6, .int .i64 length6), (7, .loc 7 0), (8, .int .u64 modulus8), (9, .int .i64 idx9)], [(7, [.int .u64 brandom7])]⟩
def st82_1 (data0 : (List Int)) (a1 : Int) (b2 : Int) : LS := ⟨[(0, .slice .sh (rows3 data0)), (1, .int .i64 a1), (2, .int .i64 b2)], []⟩
def sp82_0 : Stops := []
def B82_0 (back : (List Int) → Int → Int → Int → Int → Int → Option Unit) (n : Nat) (data0 : (List Int)) (a1 : Int) (length6 : Int) (modulus8 : Int) (idx9 : Int) (brandom7 : Int) : Option Unit :=
  if decide (idx9 ≤ (w64 ((w64 (a1 + (w64 ((w64 (Int.tdiv length6 4)) * 2)))) + 1))) then
    (F94 n brandom7).bind fun x9_ =>
    none
  else
    some ()

theorem b82_0 (back : (List Int) → Int → Int → Int → Int → Int → Option Unit) (hback : ∀ (data0 : (List Int)) (a1 : Int) (length6 : Int) (modulus8 : Int) (idx9 : Int) (brandom7 : Int) (r : Unit), back data0 a1 length6 modulus8 idx9 brandom7 = some r → At e82 [0, 1, 1, 1, 0, 1, 1] (st82_0 data0 a1 length6 modulus8 idx9 brandom7) (res82 r) (outs82 r)) (n : Nat) (data0 : (List Int)) (a1 : Int) (length6 : Int) (modulus8 : Int) (idx9 : Int) (brandom7 : Int) (r : Unit) (h : B82_0 back n data0 a1 length6 modulus8 idx9 brandom7 = some r) : At e82 [0, 1, 1, 1, 0, 1, 1] (st82_0 data0 a1 length6 modulus8 idx9 brandom7) (res82 r) (outs82 r) := by
  unfold B82_0 at h
  refine ite_elim h (fun c0_ h1_ => ?_) (fun c0_ h1_ => ?_)
  ·
    refine bind_elim h1_ (fun x9_ hx9_ h2_ => ?_)
    cases h2_
  ·
    have e_ := Option.some.inj h1_
    subst e_
    exact run_ret (S := sp82_0) (G := []) (sc := [(7, .eq (.bool false))]) (obs := [AV.bool (decide (idx9 ≤ (w64 ((w64 (a1 + (w64 ((w64 (Int.tdiv length6 4)) * 2)))) + 1)))) = .bool false]) (by kernel_rfl) ⟨congrArg AV.bool c0_, trivial⟩

def L82_0 : Nat → (List Int) → Int → Int → Int → Int → Int → Option Unit
  | 0, _, _, _, _, _, _ => none
  | n + 1, data0, a1, length6, modulus8, idx9, brandom7 => B82_0 (L82_0 n) n data0 a1 length6 modulus8 idx9 brandom7
theorem l82_0 : ∀ (n : Nat) (data0 : (List Int)) (a1 : Int) (length6 : Int) (modulus8 : Int) (idx9 : Int) (brandom7 : Int) (r : Unit), L82_0 n data0 a1 length6 modulus8 idx9 brandom7 = some r → At e82 [0, 1, 1, 1, 0, 1, 1] (st82_0 data0 a1 length6 modulus8 idx9 brandom7) (res82 r) (outs82 r)
  | 0, _, _, _, _, _, _, _, h => by simp [L82_0] at h
  | n + 1, data0, a1, length6, modulus8, idx9, brandom7, r, h => b82_0 (L82_0 n) (l82_0 n) n data0 a1 length6 modulus8 idx9 brandom7 r h
def sp82_1 : Stops := [([0, 1, 1, 1, 0, 1, 1], [(0, .nrm), (1, .same), (6, .same), (7, .same), (8, .same), (9, .same)], [(7, [.same])])]
def B82_1 (n : Nat) (data0 : (List Int)) (a1 : Int) (b2 : Int) : Option Unit :=
  if decide ((w64 (b2 - a1)) ≥ 8) then
    (F93 n (w64 (b2 - a1))).bind fun x12_ =>
    L82_0 n data0 a1 (w64 (b2 - a1)) x12_ (w64 ((w64 (a1 + (w64 ((w64 (Int.tdiv (w64 (b2 - a1)) 4)) * 2)))) - 1)) (IntKind.wrap .u64 (w64 (b2 - a1)))
  else
    some ()

theorem b82_1 (n : Nat) (data0 : (List Int)) (a1 : Int) (b2 : Int) (r : Unit) (h : B82_1 n data0 a1 b2 = some r) : At e82 [] (st82_1 data0 a1 b2) (res82 r) (outs82 r) := by
  unfold B82_1 at h
  refine ite_elim h (fun c0_ h3_ => ?_) (fun c0_ h3_ => ?_)
  ·
    refine bind_elim h3_ (fun x12_ hx12_ h4_ => ?_)
    exact run_at (S := sp82_1) (G := []) (sc := [(5, .eq (.bool true)), (5, .call 93 (res93 x12_) (outs93 x12_))]) (obs := [CallOK Try.prog ann 93 [.int .i64 (w64 (b2 - a1))] (res93 x12_) (outs93 x12_), AV.bool (decide ((w64 (b2 - a1)) ≥ 8)) = .bool true]) (by kernel_rfl) ⟨ev93 n _ _ hx12_, congrArg AV.bool c0_, trivial⟩ (l82_0 n _ _ _ _ _ _ _ h4_)
  ·
    have e_ := Option.some.inj h3_
    subst e_
    exact run_ret (S := sp82_1) (G := []) (sc := [(5, .eq (.bool false))]) (obs := [AV.bool (decide ((w64 (b2 - a1)) ≥ 8)) = .bool false]) (by kernel_rfl) ⟨congrArg AV.bool c0_, trivial⟩

def F82 (n : Nat) (data0 : (List Int)) (a1 : Int) (b2 : Int) : Option Unit := B82_1 n data0 a1 b2
theorem ev82 (n : Nat) (data0 : (List Int)) (a1 : Int) (b2 : Int) (r : Unit) (h : F82 n data0 a1 b2 = some r) : CallOK Try.prog ann 82 [.slice .sh (rows3 data0), .int .i64 a1, .int .i64 b2] (res82 r) (outs82 r) :=
  call_of_at (E := e82) (s := st82_1 data0 a1 b2) body82 Try.func82 (by kernel_rfl) (by kernel_rfl) (by kernel_rfl) (by kernel_rfl) (by kernel_rfl) (emptyOK_of (by kernel_rfl)) (by kernel_rfl) (b82_1 n data0 a1 b2 r h)

/-- slices.order2Ordered[int] -/
noncomputable def e97 : Env := { P := Try.prog, ann := ann, f := 97, fn := Try.f97, ptrs := [3], rets := [(8, .same), (9, .same)] }
def st97_0 (data0 : (List Int)) (a1 : Int) (b2 : Int) (swaps3 : Int) : LS := ⟨[(0, .slice .sh (rows3 data0)), (1, .int .i64 a1), (2, .int .i64 b2), (3, .loc 3 0)], [(3, [.int .i64 swaps3])]⟩
def sp97_0 : Stops := []
def B97_0 (n : Nat) (data0 : (List Int)) (a1 : Int) (b2 : Int) (swaps3 : Int) : Option (Int × Int × Int) :=
  (idx data0 b2).bind fun x5_ =>
  (idx data0 a1).bind fun x9_ =>
  (F86 n x5_ x9_).bind fun x11_ =>
  if x11_ then
    some (b2, a1, w64 (swaps3 + 1))
  else
    some (a1, b2, swaps3)

theorem b97_0 (n : Nat) (data0 : (List Int)) (a1 : Int) (b2 : Int) (swaps3 : Int) (r : (Int × Int × Int)) (h : B97_0 n data0 a1 b2 swaps3 = some r) : At e97 [] (st97_0 data0 a1 b2 swaps3) (res97 r) (outs97 r) := by
  unfold B97_0 at h
  refine bind_elim h (fun x5_ hx5_ h1_ => ?_)
  refine bind_elim h1_ (fun x9_ hx9_ h2_ => ?_)
  refine bind_elim h2_ (fun x11_ hx11_ h3_ => ?_)
  refine ite_elim h3_ (fun c0_ h4_ => ?_) (fun c0_ h4_ => ?_)
  ·
    subst c0_
    have e_ := Option.some.inj h4_
    subst e_
    exact run_ret (S := sp97_0) (G := []) (sc := [(4, .core ⟨[(12, .imm (enc3 x5_))], []⟩), (3, .core ⟨[(16, .imm (enc3 x9_))], []⟩), (1, .call 86 (res86 true) (outs86 true))]) (obs := [CallOK Try.prog ann 86 [.int .i64 x5_, .int .i64 x9_] (res86 true) (outs86 true), indexAddrA Try.prog an97 (some 16) 30 (.slice .sh (rows3 data0)) (.int .i64 a1) = some ⟨[(16, .imm (enc3 x9_))], []⟩, indexAddrA Try.prog an97 (some 12) 30 (.slice .sh (rows3 data0)) (.int .i64 b2) = some ⟨[(12, .imm (enc3 x5_))], []⟩]) (by kernel_rfl) ⟨ev86 n _ _ _ hx11_, R30.idxOb (A := an97) hx9_, R30.idxOb (A := an97) hx5_, trivial⟩
  ·
    subst c0_
    have e_ := Option.some.inj h4_
    subst e_
    exact run_ret (S := sp97_0) (G := []) (sc := [(4, .core ⟨[(12, .imm (enc3 x5_))], []⟩), (3, .core ⟨[(16, .imm (enc3 x9_))], []⟩), (1, .call 86 (res86 false) (outs86 false))]) (obs := [CallOK Try.prog ann 86 [.int .i64 x5_, .int .i64 x9_] (res86 false) (outs86 false), indexAddrA Try.prog an97 (some 16) 30 (.slice .sh (rows3 data0)) (.int .i64 a1) = some ⟨[(16, .imm (enc3 x9_))], []⟩, indexAddrA Try.prog an97 (some 12) 30 (.slice .sh (rows3 data0)) (.int .i64 b2) = some ⟨[(12, .imm (enc3 x5_))], []⟩]) (by kernel_rfl) ⟨ev86 n _ _ _ hx11_, R30.idxOb (A := an97) hx9_, R30.idxOb (A := an97) hx5_, trivial⟩

def F97 (n : Nat) (data0 : (List Int)) (a1 : Int) (b2 : Int) (swaps3 : Int) : Option (Int × Int × Int) := B97_0 n data0 a1 b2 swaps3
theorem ev97 (n : Nat) (data0 : (List Int)) (a1 : Int) (b2 : Int) (swaps3 : Int) (r : (Int × Int × Int)) (h : F97 n data0 a1 b2 swaps3 = some r) : CallOK Try.prog ann 97 [.slice .sh (rows3 data0), .int .i64 a1, .int .i64 b2, .ptr (enc3 swaps3)] (res97 r) (outs97 r) :=
  call_of_at (E := e97) (s := st97_0 data0 a1 b2 swaps3) body97 Try.func97 (by kernel_rfl) (by kernel_rfl) (by kernel_rfl) (by kernel_rfl) (by kernel_rfl) (emptyOK_of (by kernel_rfl)) (by kernel_rfl) (b97_0 n data0 a1 b2 swaps3 r h)

/-- slices.medianOrdered[int] -/
noncomputable def e96 : Env := { P := Try.prog, ann := ann, f := 96, fn := Try.f96, ptrs := [4], rets := [(10, .same)] }
def st96_0 (data0 : (List Int)) (a1 : Int) (b2 : Int) (c3 : Int) (swaps4 : Int) : LS := ⟨[(0, .slice .sh (rows3 data0)), (1, .int .i64 a1), (2, .int .i64 b2), (3, .int .i64 c3), (4, .loc 4 0)], [(4, [.int .i64 swaps4])]⟩
def sp96_0 : Stops := []
def B96_0 (n : Nat) (data0 : (List Int)) (a1 : Int) (b2 : Int) (c3 : Int) (swaps4 : Int) : Option (Int × Int) :=
  (F97 n data0 a1 b2 swaps4).bind fun x6_ =>
  (F97 n data0 x6_.2.1 c3 x6_.2.2).bind fun x16_ =>
  (F97 n data0 x6_.1 x16_.1 x16_.2.2).bind fun x26_ =>
  some (x26_.2.1, x26_.2.2)

theorem b96_0 (n : Nat) (data0 : (List Int)) (a1 : Int) (b2 : Int) (c3 : Int) (swaps4 : Int) (r : (Int × Int)) (h : B96_0 n data0 a1 b2 c3 swaps4 = some r) : At e96 [] (st96_0 data0 a1 b2 c3 swaps4) (res96 r) (outs96 r) := by
  unfold B96_0 at h
  refine bind_elim h (fun x6_ hx6_ h1_ => ?_)
  refine bind_elim h1_ (fun x16_ hx16_ h2_ => ?_)
  refine bind_elim h2_ (fun x26_ hx26_ h3_ => ?_)
  have e_ := Option.some.inj h3_
  subst e_
  exact run_ret (S := sp96_0) (G := []) (sc := [(5, .call 97 (res97 x6_) (outs97 x6_)), (9, .call 97 (res97 x16_) (outs97 x16_)), (9, .call 97 (res97 x26_) (outs97 x26_))]) (obs := [CallOK Try.prog ann 97 [.slice .sh (rows3 data0), .int .i64 x6_.1, .int .i64 x16_.1, .ptr [.int .i64 x16_.2.2]] (res97 x26_) (outs97 x26_), CallOK Try.prog ann 97 [.slice .sh (rows3 data0), .int .i64 x6_.2.1, .int .i64 c3, .ptr [.int .i64 x6_.2.2]] (res97 x16_) (outs97 x16_), CallOK Try.prog ann 97 [.slice .sh (rows3 data0), .int .i64 a1, .int .i64 b2, .ptr [.int .i64 swaps4]] (res97 x6_) (outs97 x6_)]) (by kernel_rfl) ⟨ev97 n _ _ _ _ _ hx26_, ev97 n _ _ _ _ _ hx16_, ev97 n _ _ _ _ _ hx6_, trivial⟩

def F96 (n : Nat) (data0 : (List Int)) (a1 : Int) (b2 : Int) (c3 : Int) (swaps4 : Int) : Option (Int × Int) := B96_0 n data0 a1 b2 c3 swaps4
theorem ev96 (n : Nat) (data0 : (List Int)) (a1 : Int) (b2 : Int) (c3 : Int) (swaps4 : Int) (r : (Int × Int)) (h : F96 n data0 a1 b2 c3 swaps4 = some r) : CallOK Try.prog ann 96 [.slice .sh (rows3 data0), .int .i64 a1, .int .i64 b2, .int .i64 c3, .ptr (enc3 swaps4)] (res96 r) (outs96 r) :=
  call_of_at (E := e96) (s := st96_0 data0 a1 b2 c3 swaps4) body96 Try.func96 (by kernel_rfl) (by kernel_rfl) (by kernel_rfl) (by kernel_rfl) (by kernel_rfl) (emptyOK_of (by kernel_rfl)) (by kernel_rfl) (b96_0 n data0 a1 b2 c3 swaps4 r h)

/-- slices.medianAdjacentOrdered[int] -/
noncomputable def e95 : Env := { P := Try.prog, ann := ann, f := 95, fn := Try.f95, ptrs := [2], rets := [(6, .same)] }
def st95_0 (data0 : (List Int)) (a1 : Int) (swaps2 : Int) : LS := ⟨[(0, .slice .sh (rows3 data0)), (1, .int .i64 a1), (2, .loc 2 0)], [(2, [.int .i64 swaps2])]⟩
def sp95_0 : Stops := []
def B95_0 (n : Nat) (data0 : (List Int)) (a1 : Int) (swaps2 : Int) : Option (Int × Int) :=
  (F96 n data0 (w64 (a1 - 1)) a1 (w64 (a1 + 1)) swaps2).bind fun x9_ =>
  some (x9_.1, x9_.2)

theorem b95_0 (n : Nat) (data0 : (List Int)) (a1 : Int) (swaps2 : Int) (r : (Int × Int)) (h : B95_0 n data0 a1 swaps2 = some r) : At e95 [] (st95_0 data0 a1 swaps2) (res95 r) (outs95 r) := by
  unfold B95_0 at h
  refine bind_elim h (fun x9_ hx9_ h1_ => ?_)
  have e_ := Option.some.inj h1_
  subst e_
  exact run_ret (S := sp95_0) (G := []) (sc := [(8, .call 96 (res96 x9_) (outs96 x9_))]) (obs := [CallOK Try.prog ann 96 [.slice .sh (rows3 data0), .int .i64 (w64 (a1 - 1)), .int .i64 a1, .int .i64 (w64 (a1 + 1)), .ptr [.int .i64 swaps2]] (res96 x9_) (outs96 x9_)]) (by kernel_rfl) ⟨ev96 n _ _ _ _ _ _ hx9_, trivial⟩

def F95 (n : Nat) (data0 : (List Int)) (a1 : Int) (swaps2 : Int) : Option (Int × Int) := B95_0 n data0 a1 swaps2
theorem ev95 (n : Nat) (data0 : (List Int)) (a1 : Int) (swaps2 : Int) (r : (Int × Int)) (h : F95 n data0 a1 swaps2 = some r) : CallOK Try.prog ann 95 [.slice .sh (rows3 data0), .int .i64 a1, .ptr (enc3 swaps2)] (res95 r) (outs95 r) :=
  call_of_at (E := e95) (s := st95_0 data0 a1 swaps2) body95 Try.func95 (by kernel_rfl) (by kernel_rfl) (by kernel_rfl) (by kernel_rfl) (by kernel_rfl) (emptyOK_of (by kernel_rfl)) (by kernel_rfl) (b95_0 n data0 a1 swaps2 r h)

/-- slices.choosePivotOrdered[int] -/
noncomputable def e83 : Env := { P := Try.prog, ann := ann, f := 83, fn := Try.f83, ptrs := [], rets := [(6, .same), (7, .same)] }
def st83_0 (data0 : (List Int)) (i10 : Int) (j11 : Int) (k12 : Int) (bswaps9 : Int) : LS := ⟨[(0, .slice .sh (rows3 data0)), (9, .loc 9 0), (10, .int .i64 i10), (11, .int .i64 j11), (12, .int .i64 k12)], [(9, [.int .i64 bswaps9])]⟩
def st83_1 (j11 : Int) (bswaps9 : Int) : LS := ⟨[(9, .loc 9 0), (11, .int .i64 j11)], [(9, [.int .i64 bswaps9])]⟩
def st83_2 (data0 : (List Int)) (a1 : Int) (b2 : Int) : LS := ⟨[(0, .slice .sh (rows3 data0)), (1, .int .i64 a1), (2, .int .i64 b2)], []⟩
def sp83_0 : Stops := [([1, 1, 1, 1, 1, 1, 1], [(9, .same), (11, .same)], [(9, [.same])])]
def B83_0 (k_1 : Int → Int → Option (Int × Int)) (n : Nat) (data0 : (List Int)) (i10 : Int) (j11 : Int) (k12 : Int) (bswaps9 : Int) : Option (Int × Int) :=
  (F96 n data0 i10 j11 k12 bswaps9).bind fun x5_ =>
  k_1 x5_.1 x5_.2

theorem b83_0 (k_1 : Int → Int → Option (Int × Int)) (hk_1 : ∀ (j11 : Int) (bswaps9 : Int) (r : (Int × Int)), k_1 j11 bswaps9 = some r → At e83 [1, 1, 1, 1, 1, 1, 1] (st83_1 j11 bswaps9) (res83 r) (outs83 r)) (n : Nat) (data0 : (List Int)) (i10 : Int) (j11 : Int) (k12 : Int) (bswaps9 : Int) (r : (Int × Int)) (h : B83_0 k_1 n data0 i10 j11 k12 bswaps9 = some r) : At e83 [1, 0, 1, 0, 1, 1, 1, 1, 1, 1] (st83_0 data0 i10 j11 k12 bswaps9) (res83 r) (outs83 r) := by
  unfold B83_0 at h
  refine bind_elim h (fun x5_ hx5_ h1_ => ?_)
  exact run_at (S := sp83_0) (G := []) (sc := [(4, .call 96 (res96 x5_) (outs96 x5_))]) (obs := [CallOK Try.prog ann 96 [.slice .sh (rows3 data0), .int .i64 i10, .int .i64 j11, .int .i64 k12, .ptr [.int .i64 bswaps9]] (res96 x5_) (outs96 x5_)]) (by kernel_rfl) ⟨ev96 n _ _ _ _ _ _ hx5_, trivial⟩ (hk_1 _ _ _ h1_)

def sp83_1 : Stops := []
def B83_1 (n : Nat) (j11 : Int) (bswaps9 : Int) : Option (Int × Int) :=
  if bswaps9 == 0 then
    some (j11, 1)
  else
    if bswaps9 == 12 then
      some (j11, 2)
    else
      some (j11, 0)

theorem b83_1 (n : Nat) (j11 : Int) (bswaps9 : Int) (r : (Int × Int)) (h : B83_1 n j11 bswaps9 = some r) : At e83 [1, 1, 1, 1, 1, 1, 1] (st83_1 j11 bswaps9) (res83 r) (outs83 r) := by
  unfold B83_1 at h
  refine ite_elim h (fun c0_ h2_ => ?_) (fun c0_ h2_ => ?_)
  ·
    have e_ := Option.some.inj h2_
    subst e_
    exact run_ret (S := sp83_1) (G := []) (sc := [(1, .eq (.bool true))]) (obs := [AV.bool (bswaps9 == 0) = .bool true]) (by kernel_rfl) ⟨congrArg AV.bool c0_, trivial⟩
  ·
    refine ite_elim h2_ (fun c1_ h3_ => ?_) (fun c1_ h3_ => ?_)
    ·
      have e_ := Option.some.inj h3_
      subst e_
      exact run_ret (S := sp83_1) (G := []) (sc := [(1, .eq (.bool false)), (1, .eq (.bool true))]) (obs := [AV.bool (bswaps9 == 12) = .bool true, AV.bool (bswaps9 == 0) = .bool false]) (by kernel_rfl) ⟨congrArg AV.bool c1_, congrArg AV.bool c0_, trivial⟩
    ·
      have e_ := Option.some.inj h3_
      subst e_
      exact run_ret (S := sp83_1) (G := []) (sc := [(1, .eq (.bool false)), (1, .eq (.bool false))]) (obs := [AV.bool (bswaps9 == 12) = .bool false, AV.bool (bswaps9 == 0) = .bool false]) (by kernel_rfl) ⟨congrArg AV.bool c1_, congrArg AV.bool c0_, trivial⟩

def sp83_2 : Stops := [([1, 0, 1, 0, 1, 1, 1, 1, 1, 1], [(0, .nrm), (9, .same), (10, .same), (11, .same), (12, .same)], [(9, [.same])]), ([1, 1, 1, 1, 1, 1, 1], [(9, .same), (11, .same)], [(9, [.same])])]
def B83_2 (n : Nat) (data0 : (List Int)) (a1 : Int) (b2 : Int) : Option (Int × Int) :=
  if decide ((w64 (b2 - a1)) ≥ 8) then
    if decide ((w64 (b2 - a1)) ≥ 50) then
      (F95 n data0 (w64 (a1 + (w64 ((w64 (Int.tdiv (w64 (b2 - a1)) 4)) * 1)))) 0).bind fun x32_ =>
      (F95 n data0 (w64 (a1 + (w64 ((w64 (Int.tdiv (w64 (b2 - a1)) 4)) * 2)))) x32_.2).bind fun x36_ =>
      (F95 n data0 (w64 (a1 + (w64 ((w64 (Int.tdiv (w64 (b2 - a1)) 4)) * 3)))) x36_.2).bind fun x40_ =>
      B83_0 (B83_1 n) n data0 x32_.1 x36_.1 x40_.1 x40_.2
    else
      B83_0 (B83_1 n) n data0 (w64 (a1 + (w64 ((w64 (Int.tdiv (w64 (b2 - a1)) 4)) * 1)))) (w64 (a1 + (w64 ((w64 (Int.tdiv (w64 (b2 - a1)) 4)) * 2)))) (w64 (a1 + (w64 ((w64 (Int.tdiv (w64 (b2 - a1)) 4)) * 3)))) 0
  else
    B83_1 n (w64 (a1 + (w64 ((w64 (Int.tdiv (w64 (b2 - a1)) 4)) * 2)))) 0

theorem b83_2 (n : Nat) (data0 : (List Int)) (a1 : Int) (b2 : Int) (r : (Int × Int)) (h : B83_2 n data0 a1 b2 = some r) : At e83 [] (st83_2 data0 a1 b2) (res83 r) (outs83 r) := by
  unfold B83_2 at h
  refine ite_elim h (fun c0_ h4_ => ?_) (fun c0_ h4_ => ?_)
  ·
    refine ite_elim h4_ (fun c1_ h5_ => ?_) (fun c1_ h5_ => ?_)
    ·
      refine bind_elim h5_ (fun x32_ hx32_ h6_ => ?_)
      refine bind_elim h6_ (fun x36_ hx36_ h7_ => ?_)
      refine bind_elim h7_ (fun x40_ hx40_ h8_ => ?_)
      exact run_at (S := sp83_2) (G := []) (sc := [(26, .eq (.bool true)), (1, .eq (.bool true)), (2, .call 95 (res95 x32_) (outs95 x32_)), (3, .call 95 (res95 x36_) (outs95 x36_)), (3, .call 95 (res95 x40_) (outs95 x40_))]) (obs := [CallOK Try.prog ann 95 [.slice .sh (rows3 data0), .int .i64 (w64 (a1 + (w64 ((w64 (Int.tdiv (w64 (b2 - a1)) 4)) * 3)))), .ptr [.int .i64 x36_.2]] (res95 x40_) (outs95 x40_), CallOK Try.prog ann 95 [.slice .sh (rows3 data0), .int .i64 (w64 (a1 + (w64 ((w64 (Int.tdiv (w64 (b2 - a1)) 4)) * 2)))), .ptr [.int .i64 x32_.2]] (res95 x36_) (outs95 x36_), CallOK Try.prog ann 95 [.slice .sh (rows3 data0), .int .i64 (w64 (a1 + (w64 ((w64 (Int.tdiv (w64 (b2 - a1)) 4)) * 1)))), .ptr [.int .i64 0]] (res95 x32_) (outs95 x32_), AV.bool (decide ((w64 (b2 - a1)) ≥ 50)) = .bool true, AV.bool (decide ((w64 (b2 - a1)) ≥ 8)) = .bool true]) (by kernel_rfl) ⟨ev95 n _ _ _ _ hx40_, ev95 n _ _ _ _ hx36_, ev95 n _ _ _ _ hx32_, congrArg AV.bool c1_, congrArg AV.bool c0_, trivial⟩ (b83_0 (B83_1 n) (b83_1 n) n _ _ _ _ _ _ h8_)
    ·
      exact run_at (S := sp83_2) (G := []) (sc := [(26, .eq (.bool true)), (1, .eq (.bool false))]) (obs := [AV.bool (decide ((w64 (b2 - a1)) ≥ 50)) = .bool false, AV.bool (decide ((w64 (b2 - a1)) ≥ 8)) = .bool true]) (by kernel_rfl) ⟨congrArg AV.bool c1_, congrArg AV.bool c0_, trivial⟩ (b83_0 (B83_1 n) (b83_1 n) n _ _ _ _ _ _ h5_)
  ·
    exact run_at (S := sp83_2) (G := []) (sc := [(26, .eq (.bool false))]) (obs := [AV.bool (decide ((w64 (b2 - a1)) ≥ 8)) = .bool false]) (by kernel_rfl) ⟨congrArg AV.bool c0_, trivial⟩ (b83_1 n _ _ _ h4_)

def F83 (n : Nat) (data0 : (List Int)) (a1 : Int) (b2 : Int) : Option (Int × Int) := B83_2 n data0 a1 b2
theorem ev83 (n : Nat) (data0 : (List Int)) (a1 : Int) (b2 : Int) (r : (Int × Int)) (h : F83 n data0 a1 b2 = some r) : CallOK Try.prog ann 83 [.slice .sh (rows3 data0), .int .i64 a1, .int .i64 b2] (res83 r) (outs83 r) :=
  call_of_at (E := e83) (s := st83_2 data0 a1 b2) body83 Try.func83 (by kernel_rfl) (by kernel_rfl) (by kernel_rfl) (by kernel_rfl) (by kernel_rfl) (emptyOK_of (by kernel_rfl)) (by kernel_rfl) (b83_2 n data0 a1 b2 r h)

/-- slices.reverseRangeOrdered[int] -/
noncomputable def e84 : Env := { P := Try.prog, ann := ann, f := 84, fn := Try.f84, ptrs := [], rets := [] }
def st84_0 (data0 : (List Int)) (i6 : Int) (j7 : Int) : LS := ⟨[(0, .slice .sh (rows3 data0)), (6, .int .i64 i6), (7, .int .i64 j7)], []⟩
def st84_1 (data0 : (List Int)) (a1 : Int) (b2 : Int) : LS := ⟨[(0, .slice .sh (rows3 data0)), (1, .int .i64 a1), (2, .int .i64 b2)], []⟩
def sp84_0 : Stops := []
def B84_0 (back : (List Int) → Int → Int → Option Unit) (n : Nat) (data0 : (List Int)) (i6 : Int) (j7 : Int) : Option Unit :=
  if decide (i6 < j7) then
    (idx data0 j7).bind fun x10_ =>
    (idx data0 i6).bind fun x14_ =>
    (idx data0 i6).bind fun x16_ =>
    none
  else
    some ()

theorem b84_0 (back : (List Int) → Int → Int → Option Unit) (hback : ∀ (data0 : (List Int)) (i6 : Int) (j7 : Int) (r : Unit), back data0 i6 j7 = some r → At e84 [0, 1, 1] (st84_0 data0 i6 j7) (res84 r) (outs84 r)) (n : Nat) (data0 : (List Int)) (i6 : Int) (j7 : Int) (r : Unit) (h : B84_0 back n data0 i6 j7 = some r) : At e84 [0, 1, 1] (st84_0 data0 i6 j7) (res84 r) (outs84 r) := by
  unfold B84_0 at h
  refine ite_elim h (fun c0_ h1_ => ?_) (fun c0_ h1_ => ?_)
  ·
    refine bind_elim h1_ (fun x10_ hx10_ h2_ => ?_)
    refine bind_elim h2_ (fun x14_ hx14_ h3_ => ?_)
    refine bind_elim h3_ (fun x16_ hx16_ h4_ => ?_)
    cases h4_
  ·
    have e_ := Option.some.inj h1_
    subst e_
    exact run_ret (S := sp84_0) (G := []) (sc := [(2, .eq (.bool false))]) (obs := [AV.bool (decide (i6 < j7)) = .bool false]) (by kernel_rfl) ⟨congrArg AV.bool c0_, trivial⟩

def L84_0 : Nat → (List Int) → Int → Int → Option Unit
  | 0, _, _, _ => none
  | n + 1, data0, i6, j7 => B84_0 (L84_0 n) n data0 i6 j7
theorem l84_0 : ∀ (n : Nat) (data0 : (List Int)) (i6 : Int) (j7 : Int) (r : Unit), L84_0 n data0 i6 j7 = some r → At e84 [0, 1, 1] (st84_0 data0 i6 j7) (res84 r) (outs84 r)
  | 0, _, _, _, _, h => by simp [L84_0] at h
  | n + 1, data0, i6, j7, r, h => b84_0 (L84_0 n) (l84_0 n) n data0 i6 j7 r h
def sp84_1 : Stops := [([0, 1, 1], [(0, .nrm), (6, .same), (7, .same)], [])]
def B84_1 (n : Nat) (data0 : (List Int)) (a1 : Int) (b2 : Int) : Option Unit :=
  L84_0 n data0 a1 (w64 (b2 - 1))

theorem b84_1 (n : Nat) (data0 : (List Int)) (a1 : Int) (b2 : Int) (r : Unit) (h : B84_1 n data0 a1 b2 = some r) : At e84 [] (st84_1 data0 a1 b2) (res84 r) (outs84 r) := by
  unfold B84_1 at h
  exact run_at (S := sp84_1) (G := []) (sc := []) (obs := []) (by kernel_rfl) trivial (l84_0 n _ _ _ _ h)

def F84 (n : Nat) (data0 : (List Int)) (a1 : Int) (b2 : Int) : Option Unit := B84_1 n data0 a1 b2
theorem ev84 (n : Nat) (data0 : (List Int)) (a1 : Int) (b2 : Int) (r : Unit) (h : F84 n data0 a1 b2 = some r) : CallOK Try.prog ann 84 [.slice .sh (rows3 data0), .int .i64 a1, .int .i64 b2] (res84 r) (outs84 r) :=
  call_of_at (E := e84) (s := st84_1 data0 a1 b2) body84 Try.func84 (by kernel_rfl) (by kernel_rfl) (by kernel_rfl) (by kernel_rfl) (by kernel_rfl) (emptyOK_of (by kernel_rfl)) (by kernel_rfl) (b84_1 n data0 a1 b2 r h)

/-- slices.partialInsertionSortOrdered[int] -/
noncomputable def e85 : Env := { P := Try.prog, ann := ann, f := 85, fn := Try.f85, ptrs := [], rets := [(6, .same)] }
def st85_0 (data0 : (List Int)) (a1 : Int) (b2 : Int) (i7 : Int) (j8 : Int) : LS := ⟨[(0, .slice .sh (rows3 data0)), (1, .int .i64 a1), (2, .int .i64 b2), (7, .int .i64 i7), (8, .int .i64 j8)], []⟩
def st85_1 (data0 : (List Int)) (a1 : Int) (b2 : Int) (i7 : Int) (j8 : Int) : LS := ⟨[(0, .slice .sh (rows3 data0)), (1, .int .i64 a1), (2, .int .i64 b2), (7, .int .i64 i7), (8, .int .i64 j8)], []⟩
def st85_2 (data0 : (List Int)) (a1 : Int) (b2 : Int) (i7 : Int) (j8 : Int) : LS := ⟨[(0, .slice .sh (rows3 data0)), (1, .int .i64 a1), (2, .int .i64 b2), (7, .int .i64 i7), (8, .int .i64 j8)], []⟩
def st85_3  : LS := ⟨[], []⟩
def st85_4 (data0 : (List Int)) (a1 : Int) (b2 : Int) : LS := ⟨[(0, .slice .sh (rows3 data0)), (1, .int .i64 a1), (2, .int .i64 b2)], []⟩
def sp85_0 : Stops := [([0, 0, 0, 0, 1, 0, 0, 1, 0, 1, 1], [(0, .nrm), (1, .same), (2, .same), (7, .same), (8, .same)], []), ([1, 0, 0, 1, 0, 0, 1, 0, 1, 1], [(0, .nrm), (1, .same), (2, .same), (7, .same), (8, .same)], [])]
def B85_0 (k_1 : (List Int) → Int → Int → Int → Int → Option Bool) (back : (List Int) → Int → Int → Int → Int → Option Bool) (n : Nat) (data0 : (List Int)) (a1 : Int) (b2 : Int) (i7 : Int) (j8 : Int) : Option Bool :=
  if decide (i7 < b2) then
    (idx data0 i7).bind fun x7_ =>
    (idx data0 (w64 (i7 - 1))).bind fun x12_ =>
    (F86 n x7_ x12_).bind fun x14_ =>
    if !x14_ then
      back data0 a1 b2 (w64 (i7 + 1)) j8
    else
      k_1 data0 a1 b2 i7 j8
  else
    k_1 data0 a1 b2 i7 j8

theorem b85_0 (k_1 : (List Int) → Int → Int → Int → Int → Option Bool) (hk_1 : ∀ (data0 : (List Int)) (a1 : Int) (b2 : Int) (i7 : Int) (j8 : Int) (r : Bool), k_1 data0 a1 b2 i7 j8 = some r → At e85 [1, 0, 0, 1, 0, 0, 1, 0, 1, 1] (st85_1 data0 a1 b2 i7 j8) (res85 r) (outs85 r)) (back : (List Int) → Int → Int → Int → Int → Option Bool) (hback : ∀ (data0 : (List Int)) (a1 : Int) (b2 : Int) (i7 : Int) (j8 : Int) (r : Bool), back data0 a1 b2 i7 j8 = some r → At e85 [0, 0, 0, 0, 1, 0, 0, 1, 0, 1, 1] (st85_0 data0 a1 b2 i7 j8) (res85 r) (outs85 r)) (n : Nat) (data0 : (List Int)) (a1 : Int) (b2 : Int) (i7 : Int) (j8 : Int) (r : Bool) (h : B85_0 k_1 back n data0 a1 b2 i7 j8 = some r) : At e85 [0, 0, 0, 0, 1, 0, 0, 1, 0, 1, 1] (st85_0 data0 a1 b2 i7 j8) (res85 r) (outs85 r) := by
  unfold B85_0 at h
  refine ite_elim h (fun c0_ h1_ => ?_) (fun c0_ h1_ => ?_)
  ·
    refine bind_elim h1_ (fun x7_ hx7_ h2_ => ?_)
    refine bind_elim h2_ (fun x12_ hx12_ h3_ => ?_)
    refine bind_elim h3_ (fun x14_ hx14_ h4_ => ?_)
    refine ite_elim h4_ (fun c1_ h5_ => ?_) (fun c1_ h5_ => ?_)
    ·
      exact run_at (S := sp85_0) (G := []) (sc := [(2, .eq (.bool true)), (3, .core ⟨[(23, .imm (enc3 x7_))], []⟩), (4, .core ⟨[(28, .imm (enc3 x12_))], []⟩), (1, .call 86 (res86 x14_) (outs86 x14_)), (0, .eq (.bool true))]) (obs := [AV.bool (!x14_) = .bool true, CallOK Try.prog ann 86 [.int .i64 x7_, .int .i64 x12_] (res86 x14_) (outs86 x14_), indexAddrA Try.prog an85 (some 28) 30 (.slice .sh (rows3 data0)) (.int .i64 (w64 (i7 - 1))) = some ⟨[(28, .imm (enc3 x12_))], []⟩, indexAddrA Try.prog an85 (some 23) 30 (.slice .sh (rows3 data0)) (.int .i64 i7) = some ⟨[(23, .imm (enc3 x7_))], []⟩, AV.bool (decide (i7 < b2)) = .bool true]) (by kernel_rfl) ⟨congrArg AV.bool c1_, ev86 n _ _ _ hx14_, R30.idxOb (A := an85) hx12_, R30.idxOb (A := an85) hx7_, congrArg AV.bool c0_, trivial⟩ (hback _ _ _ _ _ _ h5_)
    ·
      exact run_at (S := sp85_0) (G := []) (sc := [(2, .eq (.bool true)), (3, .core ⟨[(23, .imm (enc3 x7_))], []⟩), (4, .core ⟨[(28, .imm (enc3 x12_))], []⟩), (1, .call 86 (res86 x14_) (outs86 x14_)), (0, .eq (.bool false))]) (obs := [AV.bool (!x14_) = .bool false, CallOK Try.prog ann 86 [.int .i64 x7_, .int .i64 x12_] (res86 x14_) (outs86 x14_), indexAddrA Try.prog an85 (some 28) 30 (.slice .sh (rows3 data0)) (.int .i64 (w64 (i7 - 1))) = some ⟨[(28, .imm (enc3 x12_))], []⟩, indexAddrA Try.prog an85 (some 23) 30 (.slice .sh (rows3 data0)) (.int .i64 i7) = some ⟨[(23, .imm (enc3 x7_))], []⟩, AV.bool (decide (i7 < b2)) = .bool true]) (by kernel_rfl) ⟨congrArg AV.bool c1_, ev86 n _ _ _ hx14_, R30.idxOb (A := an85) hx12_, R30.idxOb (A := an85) hx7_, congrArg AV.bool c0_, trivial⟩ (hk_1 _ _ _ _ _ _ h5_)
  ·
    exact run_at (S := sp85_0) (G := []) (sc := [(2, .eq (.bool false))]) (obs := [AV.bool (decide (i7 < b2)) = .bool false]) (by kernel_rfl) ⟨congrArg AV.bool c0_, trivial⟩ (hk_1 _ _ _ _ _ _ h1_)

def L85_0 (k_1 : (List Int) → Int → Int → Int → Int → Option Bool) : Nat → (List Int) → Int → Int → Int → Int → Option Bool
  | 0, _, _, _, _, _ => none
  | n + 1, data0, a1, b2, i7, j8 => B85_0 k_1 (L85_0 k_1 n) n data0 a1 b2 i7 j8
theorem l85_0 (k_1 : (List Int) → Int → Int → Int → Int → Option Bool) (hk_1 : ∀ (data0 : (List Int)) (a1 : Int) (b2 : Int) (i7 : Int) (j8 : Int) (r : Bool), k_1 data0 a1 b2 i7 j8 = some r → At e85 [1, 0, 0, 1, 0, 0, 1, 0, 1, 1] (st85_1 data0 a1 b2 i7 j8) (res85 r) (outs85 r)) : ∀ (n : Nat) (data0 : (List Int)) (a1 : Int) (b2 : Int) (i7 : Int) (j8 : Int) (r : Bool), L85_0 k_1 n data0 a1 b2 i7 j8 = some r → At e85 [0, 0, 0, 0, 1, 0, 0, 1, 0, 1, 1] (st85_0 data0 a1 b2 i7 j8) (res85 r) (outs85 r)
  | 0, _, _, _, _, _, _, h => by simp [L85_0] at h
  | n + 1, data0, a1, b2, i7, j8, r, h => b85_0 k_1 hk_1 (L85_0 k_1 n) (l85_0 k_1 hk_1 n) n data0 a1 b2 i7 j8 r h
def sp85_1 : Stops := []
def B85_1 (n : Nat) (data0 : (List Int)) (a1 : Int) (b2 : Int) (i7 : Int) (j8 : Int) : Option Bool :=
  if i7 == b2 then
    some true
  else
    if decide ((w64 (b2 - a1)) < 50) then
      some false
    else
      (idx data0 (w64 (i7 - 1))).bind fun x16_ =>
      (idx data0 i7).bind fun x20_ =>
      (idx data0 i7).bind fun x22_ =>
      none

theorem b85_1 (n : Nat) (data0 : (List Int)) (a1 : Int) (b2 : Int) (i7 : Int) (j8 : Int) (r : Bool) (h : B85_1 n data0 a1 b2 i7 j8 = some r) : At e85 [1, 0, 0, 1, 0, 0, 1, 0, 1, 1] (st85_1 data0 a1 b2 i7 j8) (res85 r) (outs85 r) := by
  unfold B85_1 at h
  refine ite_elim h (fun c0_ h6_ => ?_) (fun c0_ h6_ => ?_)
  ·
    have e_ := Option.some.inj h6_
    subst e_
    exact run_ret (S := sp85_1) (G := []) (sc := [(2, .eq (.bool true))]) (obs := [AV.bool (i7 == b2) = .bool true]) (by kernel_rfl) ⟨congrArg AV.bool c0_, trivial⟩
  ·
    refine ite_elim h6_ (fun c1_ h7_ => ?_) (fun c1_ h7_ => ?_)
    ·
      have e_ := Option.some.inj h7_
      subst e_
      exact run_ret (S := sp85_1) (G := []) (sc := [(2, .eq (.bool false)), (3, .eq (.bool true))]) (obs := [AV.bool (decide ((w64 (b2 - a1)) < 50)) = .bool true, AV.bool (i7 == b2) = .bool false]) (by kernel_rfl) ⟨congrArg AV.bool c1_, congrArg AV.bool c0_, trivial⟩
    ·
      refine bind_elim h7_ (fun x16_ hx16_ h8_ => ?_)
      refine bind_elim h8_ (fun x20_ hx20_ h9_ => ?_)
      refine bind_elim h9_ (fun x22_ hx22_ h10_ => ?_)
      cases h10_

def sp85_2 : Stops := [([0, 0, 0, 0, 1, 0, 0, 1, 0, 1, 1], [(0, .nrm), (1, .same), (2, .same), (7, .same), (8, .same)], []), ([1, 1, 1], [], [])]
def B85_2 (k_3 : Option Bool) (back : (List Int) → Int → Int → Int → Int → Option Bool) (n : Nat) (data0 : (List Int)) (a1 : Int) (b2 : Int) (i7 : Int) (j8 : Int) : Option Bool :=
  if decide (j8 < 5) then
    L85_0 (B85_1 n) n data0 a1 b2 i7 j8
  else
    k_3

theorem b85_2 (k_3 : Option Bool) (hk_3 : ∀  (r : Bool), k_3 = some r → At e85 [1, 1, 1] (st85_3) (res85 r) (outs85 r)) (back : (List Int) → Int → Int → Int → Int → Option Bool) (hback : ∀ (data0 : (List Int)) (a1 : Int) (b2 : Int) (i7 : Int) (j8 : Int) (r : Bool), back data0 a1 b2 i7 j8 = some r → At e85 [0, 1, 0, 1, 1] (st85_2 data0 a1 b2 i7 j8) (res85 r) (outs85 r)) (n : Nat) (data0 : (List Int)) (a1 : Int) (b2 : Int) (i7 : Int) (j8 : Int) (r : Bool) (h : B85_2 k_3 back n data0 a1 b2 i7 j8 = some r) : At e85 [0, 1, 0, 1, 1] (st85_2 data0 a1 b2 i7 j8) (res85 r) (outs85 r) := by
  unfold B85_2 at h
  refine ite_elim h (fun c0_ h11_ => ?_) (fun c0_ h11_ => ?_)
  ·
    exact run_at (S := sp85_2) (G := []) (sc := [(1, .eq (.bool true))]) (obs := [AV.bool (decide (j8 < 5)) = .bool true]) (by kernel_rfl) ⟨congrArg AV.bool c0_, trivial⟩ (l85_0 (B85_1 n) (b85_1 n) n _ _ _ _ _ _ h11_)
  ·
    exact run_at (S := sp85_2) (G := []) (sc := [(1, .eq (.bool false))]) (obs := [AV.bool (decide (j8 < 5)) = .bool false]) (by kernel_rfl) ⟨congrArg AV.bool c0_, trivial⟩ (hk_3 _ h11_)

def L85_2 (k_3 : Option Bool) : Nat → (List Int) → Int → Int → Int → Int → Option Bool
  | 0, _, _, _, _, _ => none
  | n + 1, data0, a1, b2, i7, j8 => B85_2 k_3 (L85_2 k_3 n) n data0 a1 b2 i7 j8
theorem l85_2 (k_3 : Option Bool) (hk_3 : ∀  (r : Bool), k_3 = some r → At e85 [1, 1, 1] (st85_3) (res85 r) (outs85 r)) : ∀ (n : Nat) (data0 : (List Int)) (a1 : Int) (b2 : Int) (i7 : Int) (j8 : Int) (r : Bool), L85_2 k_3 n data0 a1 b2 i7 j8 = some r → At e85 [0, 1, 0, 1, 1] (st85_2 data0 a1 b2 i7 j8) (res85 r) (outs85 r)
  | 0, _, _, _, _, _, _, h => by simp [L85_2] at h
  | n + 1, data0, a1, b2, i7, j8, r, h => b85_2 k_3 hk_3 (L85_2 k_3 n) (l85_2 k_3 hk_3 n) n data0 a1 b2 i7 j8 r h
def sp85_3 : Stops := []
def B85_3 (n : Nat)  : Option Bool :=
  some false

theorem b85_3 (n : Nat)  (r : Bool) (h : B85_3 n = some r) : At e85 [1, 1, 1] (st85_3) (res85 r) (outs85 r) := by
  unfold B85_3 at h
  have e_ := Option.some.inj h
  subst e_
  exact run_ret (S := sp85_3) (G := []) (sc := []) (obs := []) (by kernel_rfl) trivial

def sp85_4 : Stops := [([0, 1, 0, 1, 1], [(0, .nrm), (1, .same), (2, .same), (7, .same), (8, .same)], [])]
def B85_4 (n : Nat) (data0 : (List Int)) (a1 : Int) (b2 : Int) : Option Bool :=
  L85_2 (B85_3 n) n data0 a1 b2 (w64 (a1 + 1)) 0

theorem b85_4 (n : Nat) (data0 : (List Int)) (a1 : Int) (b2 : Int) (r : Bool) (h : B85_4 n data0 a1 b2 = some r) : At e85 [] (st85_4 data0 a1 b2) (res85 r) (outs85 r) := by
  unfold B85_4 at h
  exact run_at (S := sp85_4) (G := []) (sc := []) (obs := []) (by kernel_rfl) trivial (l85_2 (B85_3 n) (b85_3 n) n _ _ _ _ _ _ h)

def F85 (n : Nat) (data0 : (List Int)) (a1 : Int) (b2 : Int) : Option Bool := B85_4 n data0 a1 b2
theorem ev85 (n : Nat) (data0 : (List Int)) (a1 : Int) (b2 : Int) (r : Bool) (h : F85 n data0 a1 b2 = some r) : CallOK Try.prog ann 85 [.slice .sh (rows3 data0), .int .i64 a1, .int .i64 b2] (res85 r) (outs85 r) :=
  call_of_at (E := e85) (s := st85_4 data0 a1 b2) body85 Try.func85 (by kernel_rfl) (by kernel_rfl) (by kernel_rfl) (by kernel_rfl) (by kernel_rfl) (emptyOK_of (by kernel_rfl)) (by kernel_rfl) (b85_4 n data0 a1 b2 r h)

end Go.Proofs.Ytalbakjfbgkjjaa
