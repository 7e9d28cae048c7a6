/- Functions of the program as plain functions, and that the program answers as they do; written by a program (comp.py). -/
import Derived.Test.YtalbakjfbgkjjaaRes
import Derived.Test.YtalbakjfbgkjjaaHand
import Derived.Test.YtalbakjfbgkjjaaHand2
set_option maxRecDepth 100000
set_option linter.all false
namespace Go.Proofs.Ytalbakjfbgkjjaa
open Go.Abs

/-- partsync/partsynccase.New -/
noncomputable def e10 : Env := { P := Try.prog, ann := ann, f := 10, fn := Try.f10, ptrs := [], rets := [(4, .same)] }
def st10_0 (codes0 : (List Int)) (most1 : Int) : LS := ⟨[(0, .slice .sh (rows5 codes0)), (1, .int .i64 most1)], []⟩
def sp10_0 : Stops := []
def B10_0 (n : Nat) (codes0 : (List Int)) (most1 : Int) : Option TCase :=
  (cut codes0 none (some (if most1 < (codes0.length : Int) then most1 else (codes0.length : Int)))).bind fun x7_ =>
  (app [] x7_).bind fun x8_ =>
  some (TCase.mk x8_ 0)

theorem b10_0 (n : Nat) (codes0 : (List Int)) (most1 : Int) (r : TCase) (h : B10_0 n codes0 most1 = some r) : At e10 [] (st10_0 codes0 most1) (res10 r) (outs10 r) := by
  unfold B10_0 at h
  refine bind_elim h (fun x7_ hx7_ h1_ => ?_)
  refine bind_elim h1_ (fun x8_ hx8_ h2_ => ?_)
  have e_ := Option.some.inj h2_
  subst e_
  exact run_ret (S := sp10_0) (G := []) (sc := [(3, .eq (.int .i64 (codes0.length : Int))), (2, .core ⟨[(10, .slice .sh (rows5 x7_))], []⟩), (0, .core ⟨[(11, .slice (.own 5) (rows5 x8_))], []⟩)]) (obs := [appendA Try.prog an10 11 22 (.const (.slice none 0 0)) (.slice .nil []) (.slice .sh (rows5 x7_)) (fun _ => none) = some ⟨[(11, .slice (.own 5) (rows5 x8_))], []⟩, sliceV Try.prog an10 (some 10) 22 (.slice .sh (rows5 codes0)) (none.map (AV.int .i64)) ((some (if most1 < (codes0.length : Int) then most1 else (codes0.length : Int))).map (AV.int .i64)) = some ⟨[(10, .slice .sh (rows5 x7_))], []⟩, AV.int .i64 ((rows5 codes0).length : Int) = .int .i64 (codes0.length : Int)]) (by kernel_rfl) ⟨(R22.appNilU (A := an10) hx8_).trans (freshU_own (by kernel_rfl) (by kernel_rfl)), R22.cutOb (A := an10) hx7_, R22.lenOb codes0, trivial⟩

def F10 (n : Nat) (codes0 : (List Int)) (most1 : Int) : Option TCase := B10_0 n codes0 most1
theorem ev10 (n : Nat) (codes0 : (List Int)) (most1 : Int) (r : TCase) (h : F10 n codes0 most1 = some r) : CallOK Try.prog ann 10 [.slice .sh (rows5 codes0), .int .i64 most1] (res10 r) (outs10 r) :=
  call_of_at (E := e10) (s := st10_0 codes0 most1) body10 Try.func10 (by kernel_rfl) (by kernel_rfl) (by kernel_rfl) (by kernel_rfl) (by kernel_rfl) (emptyOK_of (by kernel_rfl)) (by kernel_rfl) (b10_0 n codes0 most1 r h)

/-- (*partsync/partsynccase.Case).Int -/
noncomputable def e21 : Env := { P := Try.prog, ann := ann, f := 21, fn := Try.f21, ptrs := [0], rets := [(4, .same)] }
def st21_0 (c0 : TCase) (n1 : Int) : LS := ⟨[(0, .loc 0 0), (1, .int .i64 n1)], [(0, (enc57 c0))]⟩
def sp21_0 : Stops := []
def B21_0 (n : Nat) (c0 : TCase) (n1 : Int) : Option (Int × TCase) :=
  if decide (c0.fat ≥ (c0.fcodes.length : Int)) then
    some (0, c0)
  else
    if decide (n1 < 1) then
      some (0, c0)
    else
      (idx c0.fcodes (w64 ((w64 (c0.fat + 1)) - 1))).bind fun x33_ =>
      (rem (w64 (x33_)) n1).bind fun x37_ =>
      some (x37_, (TCase.mk c0.fcodes (w64 (c0.fat + 1))))

theorem b21_0 (n : Nat) (c0 : TCase) (n1 : Int) (r : (Int × TCase)) (h : B21_0 n c0 n1 = some r) : At e21 [] (st21_0 c0 n1) (res21 r) (outs21 r) := by
  unfold B21_0 at h
  refine ite_elim h (fun c0_ h1_ => ?_) (fun c0_ h1_ => ?_)
  ·
    have e_ := Option.some.inj h1_
    subst e_
    exact run_ret (S := sp21_0) (G := []) (sc := [(9, .eq (.int .i64 (c0.fcodes.length : Int))), (0, .eq (.bool true))]) (obs := [AV.bool (decide (c0.fat ≥ (c0.fcodes.length : Int))) = .bool true, AV.int .i64 ((rows5 c0.fcodes).length : Int) = .int .i64 (c0.fcodes.length : Int)]) (by kernel_rfl) ⟨congrArg AV.bool c0_, R22.lenOb c0.fcodes, trivial⟩
  ·
    refine ite_elim h1_ (fun c1_ h2_ => ?_) (fun c1_ h2_ => ?_)
    ·
      have e_ := Option.some.inj h2_
      subst e_
      exact run_ret (S := sp21_0) (G := []) (sc := [(9, .eq (.int .i64 (c0.fcodes.length : Int))), (0, .eq (.bool false)), (2, .eq (.bool true))]) (obs := [AV.bool (decide (n1 < 1)) = .bool true, AV.bool (decide (c0.fat ≥ (c0.fcodes.length : Int))) = .bool false, AV.int .i64 ((rows5 c0.fcodes).length : Int) = .int .i64 (c0.fcodes.length : Int)]) (by kernel_rfl) ⟨congrArg AV.bool c1_, congrArg AV.bool c0_, R22.lenOb c0.fcodes, trivial⟩
    ·
      refine bind_elim h2_ (fun x33_ hx33_ h3_ => ?_)
      refine bind_elim h3_ (fun x37_ hx37_ h4_ => ?_)
      have e_ := Option.some.inj h4_
      subst e_
      exact run_ret (S := sp21_0) (G := []) (sc := [(9, .eq (.int .i64 (c0.fcodes.length : Int))), (0, .eq (.bool false)), (2, .eq (.bool false)), (18, .core ⟨[(35, .imm (enc5 x33_))], []⟩), (3, .core ⟨[(39, .int .i64 x37_)], []⟩)]) (obs := [(binA Try.prog .rem 3 (.int .i64 (w64 (x33_))) (.int .i64 n1)).bind (putA an21 (some 39)) = some ⟨[(39, .int .i64 x37_)], []⟩, indexAddrA Try.prog an21 (some 35) 22 (.slice .sh (rows5 c0.fcodes)) (.int .i64 (w64 ((w64 (c0.fat + 1)) - 1))) = some ⟨[(35, .imm (enc5 x33_))], []⟩, AV.bool (decide (n1 < 1)) = .bool false, AV.bool (decide (c0.fat ≥ (c0.fcodes.length : Int))) = .bool false, AV.int .i64 ((rows5 c0.fcodes).length : Int) = .int .i64 (c0.fcodes.length : Int)]) (by kernel_rfl) ⟨rem_ob (A := an21) hx37_, R22.idxOb (A := an21) hx33_, congrArg AV.bool c1_, congrArg AV.bool c0_, R22.lenOb c0.fcodes, trivial⟩

def F21 (n : Nat) (c0 : TCase) (n1 : Int) : Option (Int × TCase) := B21_0 n c0 n1
theorem ev21 (n : Nat) (c0 : TCase) (n1 : Int) (r : (Int × TCase)) (h : F21 n c0 n1 = some r) : CallOK Try.prog ann 21 [.ptr (enc57 c0), .int .i64 n1] (res21 r) (outs21 r) :=
  call_of_at (E := e21) (s := st21_0 c0 n1) body21 Try.func21 (by kernel_rfl) (by kernel_rfl) (by kernel_rfl) (by kernel_rfl) (by kernel_rfl) (emptyOK_of (by kernel_rfl)) (by kernel_rfl) (b21_0 n c0 n1 r h)

/-- partsync/partsynclaw05.kinds -/
noncomputable def e11 : Env := { P := Try.prog, ann := ann, f := 11, fn := Try.f11, ptrs := [0], rets := [(4, .own 3)] }
def st11_0 (out5 : (List Int)) (n6 : Int) (bc0 : TCase) : LS := ⟨[(0, .loc 0 0), (5, .slice (.own 3) (rows3 out5)), (6, .int .i64 n6)], [(0, (enc57 bc0))]⟩
def st11_1 (out5 : (List Int)) (bc0 : TCase) : LS := ⟨[(5, .slice (.own 3) (rows3 out5))], [(0, (enc57 bc0))]⟩
def st11_2 (c0 : TCase) (most1 : Int) : LS := ⟨[(0, .loc 0 0), (1, .int .i64 most1)], [(0, (enc57 c0))]⟩
def sp11_0 : Stops := [([0, 1, 0, 1, 1], [(0, .same), (5, .own 3), (6, .same)], [(0, [.nrm, .same])]), ([1, 1, 1], [(5, .own 3)], [(0, [.nrm, .same])])]
def B11_0 (k_1 : (List Int) → TCase → Option ((List Int) × TCase)) (back : (List Int) → Int → TCase → Option ((List Int) × TCase)) (n : Nat) (out5 : (List Int)) (n6 : Int) (bc0 : TCase) : Option ((List Int) × TCase) :=
  if decide (n6 > 0) then
    (F21 n bc0 3).bind fun x5_ =>
    (app out5 [w64 (3 + x5_.1)]).bind fun x8_ =>
    back x8_ (w64 (n6 - 1)) x5_.2
  else
    k_1 out5 bc0

theorem b11_0 (k_1 : (List Int) → TCase → Option ((List Int) × TCase)) (hk_1 : ∀ (out5 : (List Int)) (bc0 : TCase) (r : ((List Int) × TCase)), k_1 out5 bc0 = some r → At e11 [1, 1, 1] (st11_1 out5 bc0) (res11 r) (outs11 r)) (back : (List Int) → Int → TCase → Option ((List Int) × TCase)) (hback : ∀ (out5 : (List Int)) (n6 : Int) (bc0 : TCase) (r : ((List Int) × TCase)), back out5 n6 bc0 = some r → At e11 [0, 1, 0, 1, 1] (st11_0 out5 n6 bc0) (res11 r) (outs11 r)) (n : Nat) (out5 : (List Int)) (n6 : Int) (bc0 : TCase) (r : ((List Int) × TCase)) (h : B11_0 k_1 back n out5 n6 bc0 = some r) : At e11 [0, 1, 0, 1, 1] (st11_0 out5 n6 bc0) (res11 r) (outs11 r) := by
  unfold B11_0 at h
  refine ite_elim h (fun c0_ h1_ => ?_) (fun c0_ h1_ => ?_)
  ·
    refine bind_elim h1_ (fun x5_ hx5_ h2_ => ?_)
    refine bind_elim h2_ (fun x8_ hx8_ h3_ => ?_)
    exact run_at (S := sp11_0) (G := []) (sc := [(1, .eq (.bool true)), (2, .call 21 (res21 x5_) (outs21 x5_)), (2, .core ⟨[(20, .slice (.own 3) (rows3 x8_)), (15, .slice .sh (rows3 out5))], []⟩)]) (obs := [appendA Try.prog an11 20 30 (.tmp 15) (.slice (.own 3) (rows3 out5)) (.slice (.own 3) (rows3 [w64 (3 + x5_.1)])) (fun _ => none) = some ⟨[(20, .slice (.own 3) (rows3 x8_)), (15, .slice .sh (rows3 out5))], []⟩, CallOK Try.prog ann 21 [.ptr (enc57 bc0), .int .i64 3] (res21 x5_) (outs21 x5_), AV.bool (decide (n6 > 0)) = .bool true]) (by kernel_rfl) ⟨R30.appOb (A := an11) (by decide) hx8_, ev21 n _ _ _ hx5_, congrArg AV.bool c0_, trivial⟩ (hback _ _ _ _ h3_)
  ·
    exact run_at (S := sp11_0) (G := []) (sc := [(1, .eq (.bool false))]) (obs := [AV.bool (decide (n6 > 0)) = .bool false]) (by kernel_rfl) ⟨congrArg AV.bool c0_, trivial⟩ (hk_1 _ _ _ h1_)

def L11_0 (k_1 : (List Int) → TCase → Option ((List Int) × TCase)) : Nat → (List Int) → Int → TCase → Option ((List Int) × TCase)
  | 0, _, _, _ => none
  | n + 1, out5, n6, bc0 => B11_0 k_1 (L11_0 k_1 n) n out5 n6 bc0
theorem l11_0 (k_1 : (List Int) → TCase → Option ((List Int) × TCase)) (hk_1 : ∀ (out5 : (List Int)) (bc0 : TCase) (r : ((List Int) × TCase)), k_1 out5 bc0 = some r → At e11 [1, 1, 1] (st11_1 out5 bc0) (res11 r) (outs11 r)) : ∀ (n : Nat) (out5 : (List Int)) (n6 : Int) (bc0 : TCase) (r : ((List Int) × TCase)), L11_0 k_1 n out5 n6 bc0 = some r → At e11 [0, 1, 0, 1, 1] (st11_0 out5 n6 bc0) (res11 r) (outs11 r)
  | 0, _, _, _, _, h => by simp [L11_0] at h
  | n + 1, out5, n6, bc0, r, h => b11_0 k_1 hk_1 (L11_0 k_1 n) (l11_0 k_1 hk_1 n) n out5 n6 bc0 r h
def sp11_1 : Stops := []
def B11_1 (n : Nat) (out5 : (List Int)) (bc0 : TCase) : Option ((List Int) × TCase) :=
  some (out5, bc0)

theorem b11_1 (n : Nat) (out5 : (List Int)) (bc0 : TCase) (r : ((List Int) × TCase)) (h : B11_1 n out5 bc0 = some r) : At e11 [1, 1, 1] (st11_1 out5 bc0) (res11 r) (outs11 r) := by
  unfold B11_1 at h
  have e_ := Option.some.inj h
  subst e_
  exact run_ret (S := sp11_1) (G := []) (sc := []) (obs := []) (by kernel_rfl) trivial

def sp11_2 : Stops := [([0, 1, 0, 1, 1], [(0, .same), (5, .own 3), (6, .same)], [(0, [.nrm, .same])])]
def B11_2 (n : Nat) (c0 : TCase) (most1 : Int) : Option ((List Int) × TCase) :=
  (F21 n c0 (w64 (most1 + 1))).bind fun x6_ =>
  L11_0 (B11_1 n) n [] x6_.1 x6_.2

theorem b11_2 (n : Nat) (c0 : TCase) (most1 : Int) (r : ((List Int) × TCase)) (h : B11_2 n c0 most1 = some r) : At e11 [] (st11_2 c0 most1) (res11 r) (outs11 r) := by
  unfold B11_2 at h
  refine bind_elim h (fun x6_ hx6_ h4_ => ?_)
  exact run_at (S := sp11_2) (G := []) (sc := [(5, .call 21 (res21 x6_) (outs21 x6_))]) (obs := [CallOK Try.prog ann 21 [.ptr (enc57 c0), .int .i64 (w64 (most1 + 1))] (res21 x6_) (outs21 x6_)]) (by kernel_rfl) ⟨ev21 n _ _ _ hx6_, trivial⟩ (l11_0 (B11_1 n) (b11_1 n) n _ _ _ _ h4_)

def F11 (n : Nat) (c0 : TCase) (most1 : Int) : Option ((List Int) × TCase) := B11_2 n c0 most1
theorem ev11 (n : Nat) (c0 : TCase) (most1 : Int) (r : ((List Int) × TCase)) (h : F11 n c0 most1 = some r) : CallOK Try.prog ann 11 [.ptr (enc57 c0), .int .i64 most1] (res11 r) (outs11 r) :=
  call_of_at (E := e11) (s := st11_2 c0 most1) body11 Try.func11 (by kernel_rfl) (by kernel_rfl) (by kernel_rfl) (by kernel_rfl) (by kernel_rfl) (emptyOK_of (by kernel_rfl)) (by kernel_rfl) (b11_2 n c0 most1 r h)

/-- partsync/partsyncref05.ColumnKind -/
noncomputable def e60 : Env := { P := Try.prog, ann := ann, f := 60, fn := Try.f60, ptrs := [], rets := [(2, .same)] }
def st60_0 (k0 : Int) : LS := ⟨[(0, .int .i64 k0)], []⟩
def sp60_0 : Stops := []
def B60_0 (n : Nat) (k0 : Int) : Option Bool :=
  if k0 == 3 then
    some true
  else
    if k0 == 4 then
      some true
    else
      some (k0 == 5)

theorem b60_0 (n : Nat) (k0 : Int) (r : Bool) (h : B60_0 n k0 = some r) : At e60 [] (st60_0 k0) (res60 r) (outs60 r) := by
  unfold B60_0 at h
  refine ite_elim h (fun c0_ h1_ => ?_) (fun c0_ h1_ => ?_)
  ·
    have e_ := Option.some.inj h1_
    subst e_
    exact run_ret (S := sp60_0) (G := []) (sc := [(2, .eq (.bool true))]) (obs := [AV.bool (k0 == 3) = .bool true]) (by kernel_rfl) ⟨congrArg AV.bool c0_, trivial⟩
  ·
    refine ite_elim h1_ (fun c1_ h2_ => ?_) (fun c1_ h2_ => ?_)
    ·
      have e_ := Option.some.inj h2_
      subst e_
      exact run_ret (S := sp60_0) (G := []) (sc := [(2, .eq (.bool false)), (2, .eq (.bool true))]) (obs := [AV.bool (k0 == 4) = .bool true, AV.bool (k0 == 3) = .bool false]) (by kernel_rfl) ⟨congrArg AV.bool c1_, congrArg AV.bool c0_, trivial⟩
    ·
      have e_ := Option.some.inj h2_
      subst e_
      exact run_ret (S := sp60_0) (G := []) (sc := [(2, .eq (.bool false)), (2, .eq (.bool false))]) (obs := [AV.bool (k0 == 4) = .bool false, AV.bool (k0 == 3) = .bool false]) (by kernel_rfl) ⟨congrArg AV.bool c1_, congrArg AV.bool c0_, trivial⟩

def F60 (n : Nat) (k0 : Int) : Option Bool := B60_0 n k0
theorem ev60 (n : Nat) (k0 : Int) (r : Bool) (h : F60 n k0 = some r) : CallOK Try.prog ann 60 [.int .i64 k0] (res60 r) (outs60 r) :=
  call_of_at (E := e60) (s := st60_0 k0) body60 Try.func60 (by kernel_rfl) (by kernel_rfl) (by kernel_rfl) (by kernel_rfl) (by kernel_rfl) (emptyOK_of (by kernel_rfl)) (by kernel_rfl) (b60_0 n k0 r h)

/-- partsync/partsyncref05.ColumnKinds -/
noncomputable def e38 : Env := { P := Try.prog, ann := ann, f := 38, fn := Try.f38, ptrs := [], rets := [(2, .same)] }
def st38_0 (t5 : (List Int)) (t6 : Int) (t7 : Int) : LS := ⟨[(5, .slice .sh (rows3 t5)), (6, .int .i64 t6), (7, .int .i64 t7)], []⟩
def st38_1  : LS := ⟨[], []⟩
def st38_2 (l0 : (List Int)) : LS := ⟨[(0, .slice .sh (rows3 l0))], []⟩
def sp38_0 : Stops := [([0, 1, 0, 1], [(5, .nrm), (6, .same), (7, .same)], []), ([1, 1], [], [])]
def B38_0 (k_1 : Option Bool) (back : (List Int) → Int → Int → Option Bool) (n : Nat) (t5 : (List Int)) (t6 : Int) (t7 : Int) : Option Bool :=
  if decide (t7 < t6) then
    (idx t5 t7).bind fun x2_ =>
    (F60 n x2_).bind fun x6_ =>
    if !x6_ then
      some false
    else
      back t5 t6 (w64 (t7 + 1))
  else
    k_1

theorem b38_0 (k_1 : Option Bool) (hk_1 : ∀  (r : Bool), k_1 = some r → At e38 [1, 1] (st38_1) (res38 r) (outs38 r)) (back : (List Int) → Int → Int → Option Bool) (hback : ∀ (t5 : (List Int)) (t6 : Int) (t7 : Int) (r : Bool), back t5 t6 t7 = some r → At e38 [0, 1, 0, 1] (st38_0 t5 t6 t7) (res38 r) (outs38 r)) (n : Nat) (t5 : (List Int)) (t6 : Int) (t7 : Int) (r : Bool) (h : B38_0 k_1 back n t5 t6 t7 = some r) : At e38 [0, 1, 0, 1] (st38_0 t5 t6 t7) (res38 r) (outs38 r) := by
  unfold B38_0 at h
  refine ite_elim h (fun c0_ h1_ => ?_) (fun c0_ h1_ => ?_)
  ·
    refine bind_elim h1_ (fun x2_ hx2_ h2_ => ?_)
    refine bind_elim h2_ (fun x6_ hx6_ h3_ => ?_)
    refine ite_elim h3_ (fun c1_ h4_ => ?_) (fun c1_ h4_ => ?_)
    ·
      have e_ := Option.some.inj h4_
      subst e_
      exact run_ret (S := sp38_0) (G := []) (sc := [(0, .eq (.bool true)), (0, .core ⟨[(9, .imm (enc3 x2_))], []⟩), (3, .call 60 (res60 x6_) (outs60 x6_)), (0, .eq (.bool true))]) (obs := [AV.bool (!x6_) = .bool true, CallOK Try.prog ann 60 [.int .i64 x2_] (res60 x6_) (outs60 x6_), indexAddrA Try.prog an38 (some 9) 30 (.slice .sh (rows3 t5)) (.int .i64 t7) = some ⟨[(9, .imm (enc3 x2_))], []⟩, AV.bool (decide (t7 < t6)) = .bool true]) (by kernel_rfl) ⟨congrArg AV.bool c1_, ev60 n _ _ hx6_, R30.idxOb (A := an38) hx2_, congrArg AV.bool c0_, trivial⟩
    ·
      exact run_at (S := sp38_0) (G := []) (sc := [(0, .eq (.bool true)), (0, .core ⟨[(9, .imm (enc3 x2_))], []⟩), (3, .call 60 (res60 x6_) (outs60 x6_)), (0, .eq (.bool false))]) (obs := [AV.bool (!x6_) = .bool false, CallOK Try.prog ann 60 [.int .i64 x2_] (res60 x6_) (outs60 x6_), indexAddrA Try.prog an38 (some 9) 30 (.slice .sh (rows3 t5)) (.int .i64 t7) = some ⟨[(9, .imm (enc3 x2_))], []⟩, AV.bool (decide (t7 < t6)) = .bool true]) (by kernel_rfl) ⟨congrArg AV.bool c1_, ev60 n _ _ hx6_, R30.idxOb (A := an38) hx2_, congrArg AV.bool c0_, trivial⟩ (hback _ _ _ _ h4_)
  ·
    exact run_at (S := sp38_0) (G := []) (sc := [(0, .eq (.bool false))]) (obs := [AV.bool (decide (t7 < t6)) = .bool false]) (by kernel_rfl) ⟨congrArg AV.bool c0_, trivial⟩ (hk_1 _ h1_)

def L38_0 (k_1 : Option Bool) : Nat → (List Int) → Int → Int → Option Bool
  | 0, _, _, _ => none
  | n + 1, t5, t6, t7 => B38_0 k_1 (L38_0 k_1 n) n t5 t6 t7
theorem l38_0 (k_1 : Option Bool) (hk_1 : ∀  (r : Bool), k_1 = some r → At e38 [1, 1] (st38_1) (res38 r) (outs38 r)) : ∀ (n : Nat) (t5 : (List Int)) (t6 : Int) (t7 : Int) (r : Bool), L38_0 k_1 n t5 t6 t7 = some r → At e38 [0, 1, 0, 1] (st38_0 t5 t6 t7) (res38 r) (outs38 r)
  | 0, _, _, _, _, h => by simp [L38_0] at h
  | n + 1, t5, t6, t7, r, h => b38_0 k_1 hk_1 (L38_0 k_1 n) (l38_0 k_1 hk_1 n) n t5 t6 t7 r h
def sp38_1 : Stops := []
def B38_1 (n : Nat)  : Option Bool :=
  some true

theorem b38_1 (n : Nat)  (r : Bool) (h : B38_1 n = some r) : At e38 [1, 1] (st38_1) (res38 r) (outs38 r) := by
  unfold B38_1 at h
  have e_ := Option.some.inj h
  subst e_
  exact run_ret (S := sp38_1) (G := []) (sc := []) (obs := []) (by kernel_rfl) trivial

def sp38_2 : Stops := [([0, 1, 0, 1], [(5, .nrm), (6, .same), (7, .same)], [])]
def B38_2 (n : Nat) (l0 : (List Int)) : Option Bool :=
  L38_0 (B38_1 n) n l0 (l0.length : Int) 0

theorem b38_2 (n : Nat) (l0 : (List Int)) (r : Bool) (h : B38_2 n l0 = some r) : At e38 [] (st38_2 l0) (res38 r) (outs38 r) := by
  unfold B38_2 at h
  exact run_at (S := sp38_2) (G := []) (sc := [(2, .eq (.int .i64 (l0.length : Int)))]) (obs := [AV.int .i64 ((rows3 l0).length : Int) = .int .i64 (l0.length : Int)]) (by kernel_rfl) ⟨R30.lenOb l0, trivial⟩ (l38_0 (B38_1 n) (b38_1 n) n _ _ _ _ h)

def F38 (n : Nat) (l0 : (List Int)) : Option Bool := B38_2 n l0
theorem ev38 (n : Nat) (l0 : (List Int)) (r : Bool) (h : F38 n l0 = some r) : CallOK Try.prog ann 38 [.slice .sh (rows3 l0)] (res38 r) (outs38 r) :=
  call_of_at (E := e38) (s := st38_2 l0) body38 Try.func38 (by kernel_rfl) (by kernel_rfl) (by kernel_rfl) (by kernel_rfl) (by kernel_rfl) (emptyOK_of (by kernel_rfl)) (by kernel_rfl) (b38_2 n l0 r h)

/-- partsync/partsyncref05.nodes -/
noncomputable def e39 : Env := { P := Try.prog, ann := ann, f := 39, fn := Try.f39, ptrs := [], rets := [(4, .same)] }
def st39_0 (n1 : Int) (i5 : Int) (bp2 : TPredicate) : LS := ⟨[(1, .int .i64 n1), (2, .loc 2 0), (5, .int .i64 i5)], [(2, (enc28 bp2))]⟩
def st39_1 (n1 : Int) : LS := ⟨[(1, .int .i64 n1)], []⟩
def st39_2 (p0 : TPredicate) (n1 : Int) : LS := ⟨[(0, .agg (enc28 p0)), (1, .int .i64 n1)], []⟩
def sp39_0 : Stops := [([0, 1, 0, 1, 1], [(1, .same), (2, .same), (5, .same)], [(2, [.same, .same, .same, .same, .same, .same, .same, .same, .same, .same, .same, .same, .nrm])]), ([1, 1, 1], [(1, .same)], [])]
def B39_0 (s_39 : TPredicate → Int → Option Int) (k_1 : Int → Option Int) (back : Int → Int → TPredicate → Option Int) (n : Nat) (n1 : Int) (i5 : Int) (bp2 : TPredicate) : Option Int :=
  if decide (i5 < (bp2.fArgs.length : Int)) then
    if decide (n1 ≤ 24) then
      (idx bp2.fArgs i5).bind fun x13_ =>
      (s_39 x13_ n1).bind fun x16_ =>
      back x16_ (w64 (i5 + 1)) bp2
    else
      k_1 n1
  else
    k_1 n1

theorem b39_0 (s_39 : TPredicate → Int → Option Int) (hs_39 : ∀ (a0_ : TPredicate) (a1_ : Int) (r : Int), s_39 a0_ a1_ = some r → CallOK Try.prog ann 39 [.agg (enc28 a0_), .int .i64 a1_] (res39 r) (outs39 r)) (k_1 : Int → Option Int) (hk_1 : ∀ (n1 : Int) (r : Int), k_1 n1 = some r → At e39 [1, 1, 1] (st39_1 n1) (res39 r) (outs39 r)) (back : Int → Int → TPredicate → Option Int) (hback : ∀ (n1 : Int) (i5 : Int) (bp2 : TPredicate) (r : Int), back n1 i5 bp2 = some r → At e39 [0, 1, 0, 1, 1] (st39_0 n1 i5 bp2) (res39 r) (outs39 r)) (n : Nat) (n1 : Int) (i5 : Int) (bp2 : TPredicate) (r : Int) (h : B39_0 s_39 k_1 back n n1 i5 bp2 = some r) : At e39 [0, 1, 0, 1, 1] (st39_0 n1 i5 bp2) (res39 r) (outs39 r) := by
  unfold B39_0 at h
  refine ite_elim h (fun c0_ h1_ => ?_) (fun c0_ h1_ => ?_)
  ·
    refine ite_elim h1_ (fun c1_ h2_ => ?_) (fun c1_ h2_ => ?_)
    ·
      refine bind_elim h2_ (fun x13_ hx13_ h3_ => ?_)
      refine bind_elim h3_ (fun x16_ hx16_ h4_ => ?_)
      exact run_at (S := sp39_0) (G := []) (sc := [(3, .eq (.int .i64 (bp2.fArgs.length : Int))), (0, .eq (.bool true)), (2, .eq (.bool true)), (4, .core ⟨[(22, .imm (enc28 x13_))], []⟩), (2, .call 39 (res39 x16_) (outs39 x16_))]) (obs := [CallOK Try.prog ann 39 [.agg (enc28 x13_), .int .i64 n1] (res39 x16_) (outs39 x16_), indexAddrA Try.prog an39 (some 22) 27 (.slice .sh (rows28 bp2.fArgs)) (.int .i64 i5) = some ⟨[(22, .imm (enc28 x13_))], []⟩, AV.bool (decide (n1 ≤ 24)) = .bool true, AV.bool (decide (i5 < (bp2.fArgs.length : Int))) = .bool true, AV.int .i64 ((rows28 bp2.fArgs).length : Int) = .int .i64 (bp2.fArgs.length : Int)]) (by kernel_rfl) ⟨hs_39 _ _ _ hx16_, R27.idxOb (A := an39) hx13_, congrArg AV.bool c1_, congrArg AV.bool c0_, R27.lenOb bp2.fArgs, trivial⟩ (hback _ _ _ _ h4_)
    ·
      exact run_at (S := sp39_0) (G := []) (sc := [(3, .eq (.int .i64 (bp2.fArgs.length : Int))), (0, .eq (.bool true)), (2, .eq (.bool false))]) (obs := [AV.bool (decide (n1 ≤ 24)) = .bool false, AV.bool (decide (i5 < (bp2.fArgs.length : Int))) = .bool true, AV.int .i64 ((rows28 bp2.fArgs).length : Int) = .int .i64 (bp2.fArgs.length : Int)]) (by kernel_rfl) ⟨congrArg AV.bool c1_, congrArg AV.bool c0_, R27.lenOb bp2.fArgs, trivial⟩ (hk_1 _ _ h2_)
  ·
    exact run_at (S := sp39_0) (G := []) (sc := [(3, .eq (.int .i64 (bp2.fArgs.length : Int))), (0, .eq (.bool false))]) (obs := [AV.bool (decide (i5 < (bp2.fArgs.length : Int))) = .bool false, AV.int .i64 ((rows28 bp2.fArgs).length : Int) = .int .i64 (bp2.fArgs.length : Int)]) (by kernel_rfl) ⟨congrArg AV.bool c0_, R27.lenOb bp2.fArgs, trivial⟩ (hk_1 _ _ h1_)

def L39_0 (s_39 : TPredicate → Int → Option Int) (k_1 : Int → Option Int) : Nat → Int → Int → TPredicate → Option Int
  | 0, _, _, _ => none
  | n + 1, n1, i5, bp2 => B39_0 s_39 k_1 (L39_0 s_39 k_1 n) n n1 i5 bp2
theorem l39_0 (s_39 : TPredicate → Int → Option Int) (hs_39 : ∀ (a0_ : TPredicate) (a1_ : Int) (r : Int), s_39 a0_ a1_ = some r → CallOK Try.prog ann 39 [.agg (enc28 a0_), .int .i64 a1_] (res39 r) (outs39 r)) (k_1 : Int → Option Int) (hk_1 : ∀ (n1 : Int) (r : Int), k_1 n1 = some r → At e39 [1, 1, 1] (st39_1 n1) (res39 r) (outs39 r)) : ∀ (n : Nat) (n1 : Int) (i5 : Int) (bp2 : TPredicate) (r : Int), L39_0 s_39 k_1 n n1 i5 bp2 = some r → At e39 [0, 1, 0, 1, 1] (st39_0 n1 i5 bp2) (res39 r) (outs39 r)
  | 0, _, _, _, _, h => by simp [L39_0] at h
  | n + 1, n1, i5, bp2, r, h => b39_0 s_39 hs_39 k_1 hk_1 (L39_0 s_39 k_1 n) (l39_0 s_39 hs_39 k_1 hk_1 n) n n1 i5 bp2 r h
def sp39_1 : Stops := []
def B39_1 (s_39 : TPredicate → Int → Option Int) (n : Nat) (n1 : Int) : Option Int :=
  some n1

theorem b39_1 (s_39 : TPredicate → Int → Option Int) (hs_39 : ∀ (a0_ : TPredicate) (a1_ : Int) (r : Int), s_39 a0_ a1_ = some r → CallOK Try.prog ann 39 [.agg (enc28 a0_), .int .i64 a1_] (res39 r) (outs39 r)) (n : Nat) (n1 : Int) (r : Int) (h : B39_1 s_39 n n1 = some r) : At e39 [1, 1, 1] (st39_1 n1) (res39 r) (outs39 r) := by
  unfold B39_1 at h
  have e_ := Option.some.inj h
  subst e_
  exact run_ret (S := sp39_1) (G := []) (sc := []) (obs := []) (by kernel_rfl) trivial

def sp39_2 : Stops := [([0, 1, 0, 1, 1], [(1, .same), (2, .same), (5, .same)], [(2, [.same, .same, .same, .same, .same, .same, .same, .same, .same, .same, .same, .same, .nrm])])]
def B39_2 (s_39 : TPredicate → Int → Option Int) (n : Nat) (p0 : TPredicate) (n1 : Int) : Option Int :=
  L39_0 s_39 (B39_1 s_39 n) n (w64 (n1 + 1)) 0 p0

theorem b39_2 (s_39 : TPredicate → Int → Option Int) (hs_39 : ∀ (a0_ : TPredicate) (a1_ : Int) (r : Int), s_39 a0_ a1_ = some r → CallOK Try.prog ann 39 [.agg (enc28 a0_), .int .i64 a1_] (res39 r) (outs39 r)) (n : Nat) (p0 : TPredicate) (n1 : Int) (r : Int) (h : B39_2 s_39 n p0 n1 = some r) : At e39 [] (st39_2 p0 n1) (res39 r) (outs39 r) := by
  unfold B39_2 at h
  exact run_at (S := sp39_2) (G := []) (sc := []) (obs := []) (by kernel_rfl) trivial (l39_0 s_39 hs_39 (B39_1 s_39 n) (b39_1 s_39 hs_39 n) n _ _ _ _ h)

def F39 : Nat → TPredicate → Int → Option Int
  | 0, _, _ => none
  | n + 1, p0, n1 => B39_2 (F39 n) n p0 n1
theorem ev39 : ∀ (n : Nat) (p0 : TPredicate) (n1 : Int) (r : Int), F39 n p0 n1 = some r → CallOK Try.prog ann 39 [.agg (enc28 p0), .int .i64 n1] (res39 r) (outs39 r)
  | 0, _, _, _, h => by simp [F39] at h
  | n + 1, p0, n1, r, h => call_of_at (E := e39) (s := st39_2 p0 n1) body39 Try.func39 (by kernel_rfl) (by kernel_rfl) (by kernel_rfl) (by kernel_rfl) (by kernel_rfl) (emptyOK_of (by kernel_rfl)) (by kernel_rfl) (b39_2 (F39 n) (ev39 n) n p0 n1 r h)

/-- partsync/partsyncref05.deeper -/
noncomputable def e40 : Env := { P := Try.prog, ann := ann, f := 40, fn := Try.f40, ptrs := [], rets := [(4, .same)] }
def st40_0 (n1 : Int) (t10 : Int) (t11 : Int) (bp2 : TPredicate) : LS := ⟨[(1, .int .i64 n1), (2, .loc 2 0), (10, .int .i64 t10), (11, .int .i64 t11)], [(2, (enc28 bp2))]⟩
def st40_1  : LS := ⟨[], []⟩
def st40_2 (p0 : TPredicate) (n1 : Int) : LS := ⟨[(0, .agg (enc28 p0)), (1, .int .i64 n1)], []⟩
def sp40_0 : Stops := [([0, 1, 0, 1, 1], [(1, .same), (2, .same), (10, .same), (11, .same)], [(2, [.same, .same, .same, .same, .same, .same, .same, .same, .same, .same, .same, .same, .nrm])]), ([1, 1, 1], [], [])]
def B40_0 (s_40 : TPredicate → Int → Option Bool) (k_1 : Option Bool) (back : Int → Int → Int → TPredicate → Option Bool) (n : Nat) (n1 : Int) (t10 : Int) (t11 : Int) (bp2 : TPredicate) : Option Bool :=
  if decide (t11 < t10) then
    (idx bp2.fArgs t11).bind fun x7_ =>
    (s_40 x7_ (w64 (n1 - 1))).bind fun x11_ =>
    if x11_ then
      some true
    else
      back n1 t10 (w64 (t11 + 1)) bp2
  else
    k_1

theorem b40_0 (s_40 : TPredicate → Int → Option Bool) (hs_40 : ∀ (a0_ : TPredicate) (a1_ : Int) (r : Bool), s_40 a0_ a1_ = some r → CallOK Try.prog ann 40 [.agg (enc28 a0_), .int .i64 a1_] (res40 r) (outs40 r)) (k_1 : Option Bool) (hk_1 : ∀  (r : Bool), k_1 = some r → At e40 [1, 1, 1] (st40_1) (res40 r) (outs40 r)) (back : Int → Int → Int → TPredicate → Option Bool) (hback : ∀ (n1 : Int) (t10 : Int) (t11 : Int) (bp2 : TPredicate) (r : Bool), back n1 t10 t11 bp2 = some r → At e40 [0, 1, 0, 1, 1] (st40_0 n1 t10 t11 bp2) (res40 r) (outs40 r)) (n : Nat) (n1 : Int) (t10 : Int) (t11 : Int) (bp2 : TPredicate) (r : Bool) (h : B40_0 s_40 k_1 back n n1 t10 t11 bp2 = some r) : At e40 [0, 1, 0, 1, 1] (st40_0 n1 t10 t11 bp2) (res40 r) (outs40 r) := by
  unfold B40_0 at h
  refine ite_elim h (fun c0_ h1_ => ?_) (fun c0_ h1_ => ?_)
  ·
    refine bind_elim h1_ (fun x7_ hx7_ h2_ => ?_)
    refine bind_elim h2_ (fun x11_ hx11_ h3_ => ?_)
    refine ite_elim h3_ (fun c1_ h4_ => ?_) (fun c1_ h4_ => ?_)
    ·
      subst c1_
      have e_ := Option.some.inj h4_
      subst e_
      exact run_ret (S := sp40_0) (G := []) (sc := [(0, .eq (.bool true)), (5, .core ⟨[(17, .imm (enc28 x7_))], []⟩), (3, .call 40 (res40 true) (outs40 true))]) (obs := [CallOK Try.prog ann 40 [.agg (enc28 x7_), .int .i64 (w64 (n1 - 1))] (res40 true) (outs40 true), indexAddrA Try.prog an40 (some 17) 27 (.slice .sh (rows28 bp2.fArgs)) (.int .i64 t11) = some ⟨[(17, .imm (enc28 x7_))], []⟩, AV.bool (decide (t11 < t10)) = .bool true]) (by kernel_rfl) ⟨hs_40 _ _ _ hx11_, R27.idxOb (A := an40) hx7_, congrArg AV.bool c0_, trivial⟩
    ·
      subst c1_
      exact run_at (S := sp40_0) (G := []) (sc := [(0, .eq (.bool true)), (5, .core ⟨[(17, .imm (enc28 x7_))], []⟩), (3, .call 40 (res40 false) (outs40 false))]) (obs := [CallOK Try.prog ann 40 [.agg (enc28 x7_), .int .i64 (w64 (n1 - 1))] (res40 false) (outs40 false), indexAddrA Try.prog an40 (some 17) 27 (.slice .sh (rows28 bp2.fArgs)) (.int .i64 t11) = some ⟨[(17, .imm (enc28 x7_))], []⟩, AV.bool (decide (t11 < t10)) = .bool true]) (by kernel_rfl) ⟨hs_40 _ _ _ hx11_, R27.idxOb (A := an40) hx7_, congrArg AV.bool c0_, trivial⟩ (hback _ _ _ _ _ h4_)
  ·
    exact run_at (S := sp40_0) (G := []) (sc := [(0, .eq (.bool false))]) (obs := [AV.bool (decide (t11 < t10)) = .bool false]) (by kernel_rfl) ⟨congrArg AV.bool c0_, trivial⟩ (hk_1 _ h1_)

def L40_0 (s_40 : TPredicate → Int → Option Bool) (k_1 : Option Bool) : Nat → Int → Int → Int → TPredicate → Option Bool
  | 0, _, _, _, _ => none
  | n + 1, n1, t10, t11, bp2 => B40_0 s_40 k_1 (L40_0 s_40 k_1 n) n n1 t10 t11 bp2
theorem l40_0 (s_40 : TPredicate → Int → Option Bool) (hs_40 : ∀ (a0_ : TPredicate) (a1_ : Int) (r : Bool), s_40 a0_ a1_ = some r → CallOK Try.prog ann 40 [.agg (enc28 a0_), .int .i64 a1_] (res40 r) (outs40 r)) (k_1 : Option Bool) (hk_1 : ∀  (r : Bool), k_1 = some r → At e40 [1, 1, 1] (st40_1) (res40 r) (outs40 r)) : ∀ (n : Nat) (n1 : Int) (t10 : Int) (t11 : Int) (bp2 : TPredicate) (r : Bool), L40_0 s_40 k_1 n n1 t10 t11 bp2 = some r → At e40 [0, 1, 0, 1, 1] (st40_0 n1 t10 t11 bp2) (res40 r) (outs40 r)
  | 0, _, _, _, _, _, h => by simp [L40_0] at h
  | n + 1, n1, t10, t11, bp2, r, h => b40_0 s_40 hs_40 k_1 hk_1 (L40_0 s_40 k_1 n) (l40_0 s_40 hs_40 k_1 hk_1 n) n n1 t10 t11 bp2 r h
def sp40_1 : Stops := []
def B40_1 (s_40 : TPredicate → Int → Option Bool) (n : Nat)  : Option Bool :=
  some false

theorem b40_1 (s_40 : TPredicate → Int → Option Bool) (hs_40 : ∀ (a0_ : TPredicate) (a1_ : Int) (r : Bool), s_40 a0_ a1_ = some r → CallOK Try.prog ann 40 [.agg (enc28 a0_), .int .i64 a1_] (res40 r) (outs40 r)) (n : Nat)  (r : Bool) (h : B40_1 s_40 n = some r) : At e40 [1, 1, 1] (st40_1) (res40 r) (outs40 r) := by
  unfold B40_1 at h
  have e_ := Option.some.inj h
  subst e_
  exact run_ret (S := sp40_1) (G := []) (sc := []) (obs := []) (by kernel_rfl) trivial

def sp40_2 : Stops := [([0, 1, 0, 1, 1], [(1, .same), (2, .same), (10, .same), (11, .same)], [(2, [.same, .same, .same, .same, .same, .same, .same, .same, .same, .same, .same, .same, .nrm])])]
def B40_2 (s_40 : TPredicate → Int → Option Bool) (n : Nat) (p0 : TPredicate) (n1 : Int) : Option Bool :=
  if n1 == 0 then
    some true
  else
    L40_0 s_40 (B40_1 s_40 n) n n1 (p0.fArgs.length : Int) 0 p0

theorem b40_2 (s_40 : TPredicate → Int → Option Bool) (hs_40 : ∀ (a0_ : TPredicate) (a1_ : Int) (r : Bool), s_40 a0_ a1_ = some r → CallOK Try.prog ann 40 [.agg (enc28 a0_), .int .i64 a1_] (res40 r) (outs40 r)) (n : Nat) (p0 : TPredicate) (n1 : Int) (r : Bool) (h : B40_2 s_40 n p0 n1 = some r) : At e40 [] (st40_2 p0 n1) (res40 r) (outs40 r) := by
  unfold B40_2 at h
  refine ite_elim h (fun c0_ h5_ => ?_) (fun c0_ h5_ => ?_)
  ·
    have e_ := Option.some.inj h5_
    subst e_
    exact run_ret (S := sp40_2) (G := []) (sc := [(3, .eq (.bool true))]) (obs := [AV.bool (n1 == 0) = .bool true]) (by kernel_rfl) ⟨congrArg AV.bool c0_, trivial⟩
  ·
    exact run_at (S := sp40_2) (G := []) (sc := [(3, .eq (.bool false)), (2, .eq (.int .i64 (p0.fArgs.length : Int)))]) (obs := [AV.int .i64 ((rows28 p0.fArgs).length : Int) = .int .i64 (p0.fArgs.length : Int), AV.bool (n1 == 0) = .bool false]) (by kernel_rfl) ⟨R27.lenOb p0.fArgs, congrArg AV.bool c0_, trivial⟩ (l40_0 s_40 hs_40 (B40_1 s_40 n) (b40_1 s_40 hs_40 n) n _ _ _ _ _ h5_)

def F40 : Nat → TPredicate → Int → Option Bool
  | 0, _, _ => none
  | n + 1, p0, n1 => B40_2 (F40 n) n p0 n1
theorem ev40 : ∀ (n : Nat) (p0 : TPredicate) (n1 : Int) (r : Bool), F40 n p0 n1 = some r → CallOK Try.prog ann 40 [.agg (enc28 p0), .int .i64 n1] (res40 r) (outs40 r)
  | 0, _, _, _, h => by simp [F40] at h
  | n + 1, p0, n1, r, h => call_of_at (E := e40) (s := st40_2 p0 n1) body40 Try.func40 (by kernel_rfl) (by kernel_rfl) (by kernel_rfl) (by kernel_rfl) (by kernel_rfl) (emptyOK_of (by kernel_rfl)) (by kernel_rfl) (b40_2 (F40 n) (ev40 n) n p0 n1 r h)

/-- partsync/partsyncref05.plain -/
noncomputable def e61 : Env := { P := Try.prog, ann := ann, f := 61, fn := Try.f61, ptrs := [], rets := [(2, .same)] }
def st61_0 (p0 : TPredicate) : LS := ⟨[(0, .agg (enc28 p0))], []⟩
def sp61_0 : Stops := []
def B61_0 (n : Nat) (p0 : TPredicate) : Option Bool :=
  if p0.fCmp == 0 then
    if ((p0.fLeft.fKind == 0) && ((p0.fLeft.fIndex == 0) && (((p0.fLeft.fValue.fKind == 0) && ((p0.fLeft.fValue.fInt == 0) && ((decide (p0.fLeft.fValue.fText = ByteArray.empty)) && true))) && true))) then
      some ((p0.fRight.fKind == 0) && ((p0.fRight.fIndex == 0) && (((p0.fRight.fValue.fKind == 0) && ((p0.fRight.fValue.fInt == 0) && ((decide (p0.fRight.fValue.fText = ByteArray.empty)) && true))) && true)))
    else
      some false
  else
    some false

theorem b61_0 (n : Nat) (p0 : TPredicate) (r : Bool) (h : B61_0 n p0 = some r) : At e61 [] (st61_0 p0) (res61 r) (outs61 r) := by
  unfold B61_0 at h
  refine ite_elim h (fun c0_ h1_ => ?_) (fun c0_ h1_ => ?_)
  ·
    refine ite_elim h1_ (fun c1_ h2_ => ?_) (fun c1_ h2_ => ?_)
    ·
      have e_ := Option.some.inj h2_
      subst e_
      exact run_ret (S := sp61_0) (G := []) (sc := [(4, .eq (.bool true)), (4, .eq (.bool true))]) (obs := [AV.bool ((p0.fLeft.fKind == 0) && ((p0.fLeft.fIndex == 0) && (((p0.fLeft.fValue.fKind == 0) && ((p0.fLeft.fValue.fInt == 0) && ((decide (p0.fLeft.fValue.fText = ByteArray.empty)) && true))) && true))) = .bool true, AV.bool (p0.fCmp == 0) = .bool true]) (by kernel_rfl) ⟨congrArg AV.bool c1_, congrArg AV.bool c0_, trivial⟩
    ·
      have e_ := Option.some.inj h2_
      subst e_
      exact run_ret (S := sp61_0) (G := []) (sc := [(4, .eq (.bool true)), (4, .eq (.bool false))]) (obs := [AV.bool ((p0.fLeft.fKind == 0) && ((p0.fLeft.fIndex == 0) && (((p0.fLeft.fValue.fKind == 0) && ((p0.fLeft.fValue.fInt == 0) && ((decide (p0.fLeft.fValue.fText = ByteArray.empty)) && true))) && true))) = .bool false, AV.bool (p0.fCmp == 0) = .bool true]) (by kernel_rfl) ⟨congrArg AV.bool c1_, congrArg AV.bool c0_, trivial⟩
  ·
    have e_ := Option.some.inj h1_
    subst e_
    exact run_ret (S := sp61_0) (G := []) (sc := [(4, .eq (.bool false))]) (obs := [AV.bool (p0.fCmp == 0) = .bool false]) (by kernel_rfl) ⟨congrArg AV.bool c0_, trivial⟩

def F61 (n : Nat) (p0 : TPredicate) : Option Bool := B61_0 n p0
theorem ev61 (n : Nat) (p0 : TPredicate) (r : Bool) (h : F61 n p0 = some r) : CallOK Try.prog ann 61 [.agg (enc28 p0)] (res61 r) (outs61 r) :=
  call_of_at (E := e61) (s := st61_0 p0) body61 Try.func61 (by kernel_rfl) (by kernel_rfl) (by kernel_rfl) (by kernel_rfl) (by kernel_rfl) (emptyOK_of (by kernel_rfl)) (by kernel_rfl) (b61_0 n p0 r h)

/-- partsync/partsyncref01.Valid -/
noncomputable def e73 : Env := { P := Try.prog, ann := ann, f := 73, fn := Try.f73, ptrs := [], rets := [(2, .same)] }
def st73_0 (v0 : TValue) : LS := ⟨[(0, .agg (enc23 v0))], []⟩
def sp73_0 : Stops := []
def B73_0 (n : Nat) (v0 : TValue) : Option Bool :=
  if v0.fKind == 1 then
    if v0.fInt == 0 then
      some (decide (v0.fText = ByteArray.empty))
    else
      some false
  else
    if v0.fKind == 2 then
      if v0.fInt == 0 then
        some (decide (v0.fText = ByteArray.empty))
      else
        some false
    else
      if v0.fKind == 3 then
        if v0.fInt == 0 then
          some (decide (v0.fText = ByteArray.empty))
        else
          if v0.fInt == 1 then
            some (decide (v0.fText = ByteArray.empty))
          else
            some false
      else
        if v0.fKind == 4 then
          some (decide (v0.fText = ByteArray.empty))
        else
          if v0.fKind == 5 then
            if v0.fInt == 0 then
              some (decide ((v0.fText.size : Int) ≤ 64))
            else
              some false
          else
            some false

theorem b73_0 (n : Nat) (v0 : TValue) (r : Bool) (h : B73_0 n v0 = some r) : At e73 [] (st73_0 v0) (res73 r) (outs73 r) := by
  unfold B73_0 at h
  refine ite_elim h (fun c0_ h1_ => ?_) (fun c0_ h1_ => ?_)
  ·
    refine ite_elim h1_ (fun c1_ h2_ => ?_) (fun c1_ h2_ => ?_)
    ·
      have e_ := Option.some.inj h2_
      subst e_
      exact run_ret (S := sp73_0) (G := []) (sc := [(4, .eq (.bool true)), (3, .eq (.bool true))]) (obs := [AV.bool (v0.fInt == 0) = .bool true, AV.bool (v0.fKind == 1) = .bool true]) (by kernel_rfl) ⟨congrArg AV.bool c1_, congrArg AV.bool c0_, trivial⟩
    ·
      have e_ := Option.some.inj h2_
      subst e_
      exact run_ret (S := sp73_0) (G := []) (sc := [(4, .eq (.bool true)), (3, .eq (.bool false))]) (obs := [AV.bool (v0.fInt == 0) = .bool false, AV.bool (v0.fKind == 1) = .bool true]) (by kernel_rfl) ⟨congrArg AV.bool c1_, congrArg AV.bool c0_, trivial⟩
  ·
    refine ite_elim h1_ (fun c1_ h3_ => ?_) (fun c1_ h3_ => ?_)
    ·
      refine ite_elim h3_ (fun c2_ h4_ => ?_) (fun c2_ h4_ => ?_)
      ·
        have e_ := Option.some.inj h4_
        subst e_
        exact run_ret (S := sp73_0) (G := []) (sc := [(4, .eq (.bool false)), (1, .eq (.bool true)), (3, .eq (.bool true))]) (obs := [AV.bool (v0.fInt == 0) = .bool true, AV.bool (v0.fKind == 2) = .bool true, AV.bool (v0.fKind == 1) = .bool false]) (by kernel_rfl) ⟨congrArg AV.bool c2_, congrArg AV.bool c1_, congrArg AV.bool c0_, trivial⟩
      ·
        have e_ := Option.some.inj h4_
        subst e_
        exact run_ret (S := sp73_0) (G := []) (sc := [(4, .eq (.bool false)), (1, .eq (.bool true)), (3, .eq (.bool false))]) (obs := [AV.bool (v0.fInt == 0) = .bool false, AV.bool (v0.fKind == 2) = .bool true, AV.bool (v0.fKind == 1) = .bool false]) (by kernel_rfl) ⟨congrArg AV.bool c2_, congrArg AV.bool c1_, congrArg AV.bool c0_, trivial⟩
    ·
      refine ite_elim h3_ (fun c2_ h5_ => ?_) (fun c2_ h5_ => ?_)
      ·
        refine ite_elim h5_ (fun c3_ h6_ => ?_) (fun c3_ h6_ => ?_)
        ·
          have e_ := Option.some.inj h6_
          subst e_
          exact run_ret (S := sp73_0) (G := []) (sc := [(4, .eq (.bool false)), (1, .eq (.bool false)), (1, .eq (.bool true)), (3, .eq (.bool true))]) (obs := [AV.bool (v0.fInt == 0) = .bool true, AV.bool (v0.fKind == 3) = .bool true, AV.bool (v0.fKind == 2) = .bool false, AV.bool (v0.fKind == 1) = .bool false]) (by kernel_rfl) ⟨congrArg AV.bool c3_, congrArg AV.bool c2_, congrArg AV.bool c1_, congrArg AV.bool c0_, trivial⟩
        ·
          refine ite_elim h6_ (fun c4_ h7_ => ?_) (fun c4_ h7_ => ?_)
          ·
            have e_ := Option.some.inj h7_
            subst e_
            exact run_ret (S := sp73_0) (G := []) (sc := [(4, .eq (.bool false)), (1, .eq (.bool false)), (1, .eq (.bool true)), (3, .eq (.bool false)), (3, .eq (.bool true))]) (obs := [AV.bool (v0.fInt == 1) = .bool true, AV.bool (v0.fInt == 0) = .bool false, AV.bool (v0.fKind == 3) = .bool true, AV.bool (v0.fKind == 2) = .bool false, AV.bool (v0.fKind == 1) = .bool false]) (by kernel_rfl) ⟨congrArg AV.bool c4_, congrArg AV.bool c3_, congrArg AV.bool c2_, congrArg AV.bool c1_, congrArg AV.bool c0_, trivial⟩
          ·
            have e_ := Option.some.inj h7_
            subst e_
            exact run_ret (S := sp73_0) (G := []) (sc := [(4, .eq (.bool false)), (1, .eq (.bool false)), (1, .eq (.bool true)), (3, .eq (.bool false)), (3, .eq (.bool false))]) (obs := [AV.bool (v0.fInt == 1) = .bool false, AV.bool (v0.fInt == 0) = .bool false, AV.bool (v0.fKind == 3) = .bool true, AV.bool (v0.fKind == 2) = .bool false, AV.bool (v0.fKind == 1) = .bool false]) (by kernel_rfl) ⟨congrArg AV.bool c4_, congrArg AV.bool c3_, congrArg AV.bool c2_, congrArg AV.bool c1_, congrArg AV.bool c0_, trivial⟩
      ·
        refine ite_elim h5_ (fun c3_ h8_ => ?_) (fun c3_ h8_ => ?_)
        ·
          have e_ := Option.some.inj h8_
          subst e_
          exact run_ret (S := sp73_0) (G := []) (sc := [(4, .eq (.bool false)), (1, .eq (.bool false)), (1, .eq (.bool false)), (1, .eq (.bool true))]) (obs := [AV.bool (v0.fKind == 4) = .bool true, AV.bool (v0.fKind == 3) = .bool false, AV.bool (v0.fKind == 2) = .bool false, AV.bool (v0.fKind == 1) = .bool false]) (by kernel_rfl) ⟨congrArg AV.bool c3_, congrArg AV.bool c2_, congrArg AV.bool c1_, congrArg AV.bool c0_, trivial⟩
        ·
          refine ite_elim h8_ (fun c4_ h9_ => ?_) (fun c4_ h9_ => ?_)
          ·
            refine ite_elim h9_ (fun c5_ h10_ => ?_) (fun c5_ h10_ => ?_)
            ·
              have e_ := Option.some.inj h10_
              subst e_
              exact run_ret (S := sp73_0) (G := []) (sc := [(4, .eq (.bool false)), (1, .eq (.bool false)), (1, .eq (.bool false)), (1, .eq (.bool false)), (1, .eq (.bool true)), (3, .eq (.bool true))]) (obs := [AV.bool (v0.fInt == 0) = .bool true, AV.bool (v0.fKind == 5) = .bool true, AV.bool (v0.fKind == 4) = .bool false, AV.bool (v0.fKind == 3) = .bool false, AV.bool (v0.fKind == 2) = .bool false, AV.bool (v0.fKind == 1) = .bool false]) (by kernel_rfl) ⟨congrArg AV.bool c5_, congrArg AV.bool c4_, congrArg AV.bool c3_, congrArg AV.bool c2_, congrArg AV.bool c1_, congrArg AV.bool c0_, trivial⟩
            ·
              have e_ := Option.some.inj h10_
              subst e_
              exact run_ret (S := sp73_0) (G := []) (sc := [(4, .eq (.bool false)), (1, .eq (.bool false)), (1, .eq (.bool false)), (1, .eq (.bool false)), (1, .eq (.bool true)), (3, .eq (.bool false))]) (obs := [AV.bool (v0.fInt == 0) = .bool false, AV.bool (v0.fKind == 5) = .bool true, AV.bool (v0.fKind == 4) = .bool false, AV.bool (v0.fKind == 3) = .bool false, AV.bool (v0.fKind == 2) = .bool false, AV.bool (v0.fKind == 1) = .bool false]) (by kernel_rfl) ⟨congrArg AV.bool c5_, congrArg AV.bool c4_, congrArg AV.bool c3_, congrArg AV.bool c2_, congrArg AV.bool c1_, congrArg AV.bool c0_, trivial⟩
          ·
            have e_ := Option.some.inj h9_
            subst e_
            exact run_ret (S := sp73_0) (G := []) (sc := [(4, .eq (.bool false)), (1, .eq (.bool false)), (1, .eq (.bool false)), (1, .eq (.bool false)), (1, .eq (.bool false))]) (obs := [AV.bool (v0.fKind == 5) = .bool false, AV.bool (v0.fKind == 4) = .bool false, AV.bool (v0.fKind == 3) = .bool false, AV.bool (v0.fKind == 2) = .bool false, AV.bool (v0.fKind == 1) = .bool false]) (by kernel_rfl) ⟨congrArg AV.bool c4_, congrArg AV.bool c3_, congrArg AV.bool c2_, congrArg AV.bool c1_, congrArg AV.bool c0_, trivial⟩

def F73 (n : Nat) (v0 : TValue) : Option Bool := B73_0 n v0
theorem ev73 (n : Nat) (v0 : TValue) (r : Bool) (h : F73 n v0 = some r) : CallOK Try.prog ann 73 [.agg (enc23 v0)] (res73 r) (outs73 r) :=
  call_of_at (E := e73) (s := st73_0 v0) body73 Try.func73 (by kernel_rfl) (by kernel_rfl) (by kernel_rfl) (by kernel_rfl) (by kernel_rfl) (emptyOK_of (by kernel_rfl)) (by kernel_rfl) (b73_0 n v0 r h)

/-- partsync/partsyncref01.Real -/
noncomputable def e49 : Env := { P := Try.prog, ann := ann, f := 49, fn := Try.f49, ptrs := [], rets := [(2, .same)] }
def st49_0 (v0 : TValue) : LS := ⟨[(0, .agg (enc23 v0))], []⟩
def sp49_0 : Stops := []
def B49_0 (n : Nat) (v0 : TValue) : Option Bool :=
  (F73 n v0).bind fun x4_ =>
  if x4_ then
    some (decide (v0.fKind ≥ 3))
  else
    some false

theorem b49_0 (n : Nat) (v0 : TValue) (r : Bool) (h : B49_0 n v0 = some r) : At e49 [] (st49_0 v0) (res49 r) (outs49 r) := by
  unfold B49_0 at h
  refine bind_elim h (fun x4_ hx4_ h1_ => ?_)
  refine ite_elim h1_ (fun c0_ h2_ => ?_) (fun c0_ h2_ => ?_)
  ·
    subst c0_
    have e_ := Option.some.inj h2_
    subst e_
    exact run_ret (S := sp49_0) (G := []) (sc := [(3, .call 73 (res73 true) (outs73 true))]) (obs := [CallOK Try.prog ann 73 [.agg (enc23 v0)] (res73 true) (outs73 true)]) (by kernel_rfl) ⟨ev73 n _ _ hx4_, trivial⟩
  ·
    subst c0_
    have e_ := Option.some.inj h2_
    subst e_
    exact run_ret (S := sp49_0) (G := []) (sc := [(3, .call 73 (res73 false) (outs73 false))]) (obs := [CallOK Try.prog ann 73 [.agg (enc23 v0)] (res73 false) (outs73 false)]) (by kernel_rfl) ⟨ev73 n _ _ hx4_, trivial⟩

def F49 (n : Nat) (v0 : TValue) : Option Bool := B49_0 n v0
theorem ev49 (n : Nat) (v0 : TValue) (r : Bool) (h : F49 n v0 = some r) : CallOK Try.prog ann 49 [.agg (enc23 v0)] (res49 r) (outs49 r) :=
  call_of_at (E := e49) (s := st49_0 v0) body49 Try.func49 (by kernel_rfl) (by kernel_rfl) (by kernel_rfl) (by kernel_rfl) (by kernel_rfl) (emptyOK_of (by kernel_rfl)) (by kernel_rfl) (b49_0 n v0 r h)

/-- partsync/partsyncref05.kind -/
noncomputable def e62 : Env := { P := Try.prog, ann := ann, f := 62, fn := Try.f62, ptrs := [], rets := [(6, .same)] }
def st62_0 (list7 : (List Int)) (bo5 : TOperand) : LS := ⟨[(5, .loc 5 0), (7, .slice .sh (rows3 list7))], [(5, (enc25 bo5))]⟩
def st62_1 (columns0 : (List Int)) (params1 : (List Int)) (o2 : TOperand) : LS := ⟨[(0, .slice .sh (rows3 columns0)), (1, .slice .sh (rows3 params1)), (2, .agg (enc25 o2))], []⟩
def sp62_0 : Stops := []
def B62_0 (n : Nat) (list7 : (List Int)) (bo5 : TOperand) : Option Int :=
  if decide (bo5.fIndex < 0) then
    some 0
  else
    if decide (bo5.fIndex ≥ (list7.length : Int)) then
      some 0
    else
      if !((bo5.fValue.fKind == 0) && ((bo5.fValue.fInt == 0) && ((decide (bo5.fValue.fText = ByteArray.empty)) && true))) then
        some 0
      else
        (idx list7 bo5.fIndex).bind fun x20_ =>
        some x20_

theorem b62_0 (n : Nat) (list7 : (List Int)) (bo5 : TOperand) (r : Int) (h : B62_0 n list7 bo5 = some r) : At e62 [1, 1, 1] (st62_0 list7 bo5) (res62 r) (outs62 r) := by
  unfold B62_0 at h
  refine ite_elim h (fun c0_ h1_ => ?_) (fun c0_ h1_ => ?_)
  ·
    have e_ := Option.some.inj h1_
    subst e_
    exact run_ret (S := sp62_0) (G := []) (sc := [(2, .eq (.bool true))]) (obs := [AV.bool (decide (bo5.fIndex < 0)) = .bool true]) (by kernel_rfl) ⟨congrArg AV.bool c0_, trivial⟩
  ·
    refine ite_elim h1_ (fun c1_ h2_ => ?_) (fun c1_ h2_ => ?_)
    ·
      have e_ := Option.some.inj h2_
      subst e_
      exact run_ret (S := sp62_0) (G := []) (sc := [(2, .eq (.bool false)), (4, .eq (.int .i64 (list7.length : Int))), (0, .eq (.bool true))]) (obs := [AV.bool (decide (bo5.fIndex ≥ (list7.length : Int))) = .bool true, AV.int .i64 ((rows3 list7).length : Int) = .int .i64 (list7.length : Int), AV.bool (decide (bo5.fIndex < 0)) = .bool false]) (by kernel_rfl) ⟨congrArg AV.bool c1_, R30.lenOb list7, congrArg AV.bool c0_, trivial⟩
    ·
      refine ite_elim h2_ (fun c2_ h3_ => ?_) (fun c2_ h3_ => ?_)
      ·
        have e_ := Option.some.inj h3_
        subst e_
        exact run_ret (S := sp62_0) (G := []) (sc := [(2, .eq (.bool false)), (4, .eq (.int .i64 (list7.length : Int))), (0, .eq (.bool false)), (5, .eq (.bool true))]) (obs := [AV.bool (!((bo5.fValue.fKind == 0) && ((bo5.fValue.fInt == 0) && ((decide (bo5.fValue.fText = ByteArray.empty)) && true)))) = .bool true, AV.bool (decide (bo5.fIndex ≥ (list7.length : Int))) = .bool false, AV.int .i64 ((rows3 list7).length : Int) = .int .i64 (list7.length : Int), AV.bool (decide (bo5.fIndex < 0)) = .bool false]) (by kernel_rfl) ⟨congrArg AV.bool c2_, congrArg AV.bool c1_, R30.lenOb list7, congrArg AV.bool c0_, trivial⟩
      ·
        refine bind_elim h3_ (fun x20_ hx20_ h4_ => ?_)
        have e_ := Option.some.inj h4_
        subst e_
        exact run_ret (S := sp62_0) (G := []) (sc := [(2, .eq (.bool false)), (4, .eq (.int .i64 (list7.length : Int))), (0, .eq (.bool false)), (5, .eq (.bool false)), (4, .core ⟨[(49, .imm (enc3 x20_))], []⟩)]) (obs := [indexAddrA Try.prog an62 (some 49) 30 (.slice .sh (rows3 list7)) (.int .i64 bo5.fIndex) = some ⟨[(49, .imm (enc3 x20_))], []⟩, AV.bool (!((bo5.fValue.fKind == 0) && ((bo5.fValue.fInt == 0) && ((decide (bo5.fValue.fText = ByteArray.empty)) && true)))) = .bool false, AV.bool (decide (bo5.fIndex ≥ (list7.length : Int))) = .bool false, AV.int .i64 ((rows3 list7).length : Int) = .int .i64 (list7.length : Int), AV.bool (decide (bo5.fIndex < 0)) = .bool false]) (by kernel_rfl) ⟨R30.idxOb (A := an62) hx20_, congrArg AV.bool c2_, congrArg AV.bool c1_, R30.lenOb list7, congrArg AV.bool c0_, trivial⟩

def sp62_1 : Stops := [([1, 1, 1], [(5, .same), (7, .nrm)], [(5, [.same, .same, .same, .same, .same])])]
def B62_1 (n : Nat) (columns0 : (List Int)) (params1 : (List Int)) (o2 : TOperand) : Option Int :=
  if o2.fKind == 3 then
    if o2.fIndex != 0 then
      some 0
    else
      (F49 n o2.fValue).bind fun x15_ =>
      if !x15_ then
        some 0
      else
        some o2.fValue.fKind
  else
    if o2.fKind == 2 then
      B62_0 n params1 o2
    else
      if o2.fKind == 1 then
        B62_0 n columns0 o2
      else
        some 0

theorem b62_1 (n : Nat) (columns0 : (List Int)) (params1 : (List Int)) (o2 : TOperand) (r : Int) (h : B62_1 n columns0 params1 o2 = some r) : At e62 [] (st62_1 columns0 params1 o2) (res62 r) (outs62 r) := by
  unfold B62_1 at h
  refine ite_elim h (fun c0_ h5_ => ?_) (fun c0_ h5_ => ?_)
  ·
    refine ite_elim h5_ (fun c1_ h6_ => ?_) (fun c1_ h6_ => ?_)
    ·
      have e_ := Option.some.inj h6_
      subst e_
      exact run_ret (S := sp62_1) (G := []) (sc := [(6, .eq (.bool true)), (3, .eq (.bool true))]) (obs := [AV.bool (o2.fIndex != 0) = .bool true, AV.bool (o2.fKind == 3) = .bool true]) (by kernel_rfl) ⟨congrArg AV.bool c1_, congrArg AV.bool c0_, trivial⟩
    ·
      refine bind_elim h6_ (fun x15_ hx15_ h7_ => ?_)
      refine ite_elim h7_ (fun c2_ h8_ => ?_) (fun c2_ h8_ => ?_)
      ·
        have e_ := Option.some.inj h8_
        subst e_
        exact run_ret (S := sp62_1) (G := []) (sc := [(6, .eq (.bool true)), (3, .eq (.bool false)), (3, .call 49 (res49 x15_) (outs49 x15_)), (0, .eq (.bool true))]) (obs := [AV.bool (!x15_) = .bool true, CallOK Try.prog ann 49 [.agg (enc23 o2.fValue)] (res49 x15_) (outs49 x15_), AV.bool (o2.fIndex != 0) = .bool false, AV.bool (o2.fKind == 3) = .bool true]) (by kernel_rfl) ⟨congrArg AV.bool c2_, ev49 n _ _ hx15_, congrArg AV.bool c1_, congrArg AV.bool c0_, trivial⟩
      ·
        have e_ := Option.some.inj h8_
        subst e_
        exact run_ret (S := sp62_1) (G := []) (sc := [(6, .eq (.bool true)), (3, .eq (.bool false)), (3, .call 49 (res49 x15_) (outs49 x15_)), (0, .eq (.bool false))]) (obs := [AV.bool (!x15_) = .bool false, CallOK Try.prog ann 49 [.agg (enc23 o2.fValue)] (res49 x15_) (outs49 x15_), AV.bool (o2.fIndex != 0) = .bool false, AV.bool (o2.fKind == 3) = .bool true]) (by kernel_rfl) ⟨congrArg AV.bool c2_, ev49 n _ _ hx15_, congrArg AV.bool c1_, congrArg AV.bool c0_, trivial⟩
  ·
    refine ite_elim h5_ (fun c1_ h9_ => ?_) (fun c1_ h9_ => ?_)
    ·
      exact run_at (S := sp62_1) (G := []) (sc := [(6, .eq (.bool false)), (1, .eq (.bool true))]) (obs := [AV.bool (o2.fKind == 2) = .bool true, AV.bool (o2.fKind == 3) = .bool false]) (by kernel_rfl) ⟨congrArg AV.bool c1_, congrArg AV.bool c0_, trivial⟩ (b62_0 n _ _ _ h9_)
    ·
      refine ite_elim h9_ (fun c2_ h10_ => ?_) (fun c2_ h10_ => ?_)
      ·
        exact run_at (S := sp62_1) (G := []) (sc := [(6, .eq (.bool false)), (1, .eq (.bool false)), (1, .eq (.bool true))]) (obs := [AV.bool (o2.fKind == 1) = .bool true, AV.bool (o2.fKind == 2) = .bool false, AV.bool (o2.fKind == 3) = .bool false]) (by kernel_rfl) ⟨congrArg AV.bool c2_, congrArg AV.bool c1_, congrArg AV.bool c0_, trivial⟩ (b62_0 n _ _ _ h10_)
      ·
        have e_ := Option.some.inj h10_
        subst e_
        exact run_ret (S := sp62_1) (G := []) (sc := [(6, .eq (.bool false)), (1, .eq (.bool false)), (1, .eq (.bool false))]) (obs := [AV.bool (o2.fKind == 1) = .bool false, AV.bool (o2.fKind == 2) = .bool false, AV.bool (o2.fKind == 3) = .bool false]) (by kernel_rfl) ⟨congrArg AV.bool c2_, congrArg AV.bool c1_, congrArg AV.bool c0_, trivial⟩

def F62 (n : Nat) (columns0 : (List Int)) (params1 : (List Int)) (o2 : TOperand) : Option Int := B62_1 n columns0 params1 o2
theorem ev62 (n : Nat) (columns0 : (List Int)) (params1 : (List Int)) (o2 : TOperand) (r : Int) (h : F62 n columns0 params1 o2 = some r) : CallOK Try.prog ann 62 [.slice .sh (rows3 columns0), .slice .sh (rows3 params1), .agg (enc25 o2)] (res62 r) (outs62 r) :=
  call_of_at (E := e62) (s := st62_1 columns0 params1 o2) body62 Try.func62 (by kernel_rfl) (by kernel_rfl) (by kernel_rfl) (by kernel_rfl) (by kernel_rfl) (emptyOK_of (by kernel_rfl)) (by kernel_rfl) (b62_1 n columns0 params1 o2 r h)

/-- partsync/partsyncref05.valid -/
noncomputable def e41 : Env := { P := Try.prog, ann := ann, f := 41, fn := Try.f41, ptrs := [], rets := [(6, .same)] }
def st41_0 (columns0 : (List Int)) (params1 : (List Int)) (t70 : Int) (t71 : Int) (bp5 : TPredicate) : LS := ⟨[(0, .slice .sh (rows3 columns0)), (1, .slice .sh (rows3 params1)), (5, .loc 5 0), (70, .int .i64 t70), (71, .int .i64 t71)], [(5, (enc28 bp5))]⟩
def st41_1  : LS := ⟨[], []⟩
def st41_2 (columns0 : (List Int)) (params1 : (List Int)) (bp5 : TPredicate) : LS := ⟨[(0, .slice .sh (rows3 columns0)), (1, .slice .sh (rows3 params1)), (5, .loc 5 0)], [(5, (enc28 bp5))]⟩
def st41_3 (columns0 : (List Int)) (params1 : (List Int)) (p2 : TPredicate) : LS := ⟨[(0, .slice .sh (rows3 columns0)), (1, .slice .sh (rows3 params1)), (2, .agg (enc28 p2))], []⟩
def sp41_0 : Stops := [([0, 1, 0, 1, 1, 1], [(0, .nrm), (1, .nrm), (5, .same), (70, .same), (71, .same)], [(5, [.same, .same, .same, .same, .same, .same, .same, .same, .same, .same, .same, .same, .nrm])]), ([1, 1, 1, 1], [], [])]
def B41_0 (s_41 : (List Int) → (List Int) → TPredicate → Option Bool) (k_1 : Option Bool) (back : (List Int) → (List Int) → Int → Int → TPredicate → Option Bool) (n : Nat) (columns0 : (List Int)) (params1 : (List Int)) (t70 : Int) (t71 : Int) (bp5 : TPredicate) : Option Bool :=
  if decide (t71 < t70) then
    (idx bp5.fArgs t71).bind fun x9_ =>
    (s_41 columns0 params1 x9_).bind fun x11_ =>
    if !x11_ then
      some false
    else
      back columns0 params1 t70 (w64 (t71 + 1)) bp5
  else
    k_1

theorem b41_0 (s_41 : (List Int) → (List Int) → TPredicate → Option Bool) (hs_41 : ∀ (a0_ : (List Int)) (a1_ : (List Int)) (a2_ : TPredicate) (r : Bool), s_41 a0_ a1_ a2_ = some r → CallOK Try.prog ann 41 [.slice .sh (rows3 a0_), .slice .sh (rows3 a1_), .agg (enc28 a2_)] (res41 r) (outs41 r)) (k_1 : Option Bool) (hk_1 : ∀  (r : Bool), k_1 = some r → At e41 [1, 1, 1, 1] (st41_1) (res41 r) (outs41 r)) (back : (List Int) → (List Int) → Int → Int → TPredicate → Option Bool) (hback : ∀ (columns0 : (List Int)) (params1 : (List Int)) (t70 : Int) (t71 : Int) (bp5 : TPredicate) (r : Bool), back columns0 params1 t70 t71 bp5 = some r → At e41 [0, 1, 0, 1, 1, 1] (st41_0 columns0 params1 t70 t71 bp5) (res41 r) (outs41 r)) (n : Nat) (columns0 : (List Int)) (params1 : (List Int)) (t70 : Int) (t71 : Int) (bp5 : TPredicate) (r : Bool) (h : B41_0 s_41 k_1 back n columns0 params1 t70 t71 bp5 = some r) : At e41 [0, 1, 0, 1, 1, 1] (st41_0 columns0 params1 t70 t71 bp5) (res41 r) (outs41 r) := by
  unfold B41_0 at h
  refine ite_elim h (fun c0_ h1_ => ?_) (fun c0_ h1_ => ?_)
  ·
    refine bind_elim h1_ (fun x9_ hx9_ h2_ => ?_)
    refine bind_elim h2_ (fun x11_ hx11_ h3_ => ?_)
    refine ite_elim h3_ (fun c1_ h4_ => ?_) (fun c1_ h4_ => ?_)
    ·
      have e_ := Option.some.inj h4_
      subst e_
      exact run_ret (S := sp41_0) (G := []) (sc := [(0, .eq (.bool true)), (7, .core ⟨[(79, .imm (enc28 x9_))], []⟩), (1, .call 41 (res41 x11_) (outs41 x11_)), (0, .eq (.bool true))]) (obs := [AV.bool (!x11_) = .bool true, CallOK Try.prog ann 41 [.slice .sh (rows3 columns0), .slice .sh (rows3 params1), .agg (enc28 x9_)] (res41 x11_) (outs41 x11_), indexAddrA Try.prog an41 (some 79) 27 (.slice .sh (rows28 bp5.fArgs)) (.int .i64 t71) = some ⟨[(79, .imm (enc28 x9_))], []⟩, AV.bool (decide (t71 < t70)) = .bool true]) (by kernel_rfl) ⟨congrArg AV.bool c1_, hs_41 _ _ _ _ hx11_, R27.idxOb (A := an41) hx9_, congrArg AV.bool c0_, trivial⟩
    ·
      exact run_at (S := sp41_0) (G := []) (sc := [(0, .eq (.bool true)), (7, .core ⟨[(79, .imm (enc28 x9_))], []⟩), (1, .call 41 (res41 x11_) (outs41 x11_)), (0, .eq (.bool false))]) (obs := [AV.bool (!x11_) = .bool false, CallOK Try.prog ann 41 [.slice .sh (rows3 columns0), .slice .sh (rows3 params1), .agg (enc28 x9_)] (res41 x11_) (outs41 x11_), indexAddrA Try.prog an41 (some 79) 27 (.slice .sh (rows28 bp5.fArgs)) (.int .i64 t71) = some ⟨[(79, .imm (enc28 x9_))], []⟩, AV.bool (decide (t71 < t70)) = .bool true]) (by kernel_rfl) ⟨congrArg AV.bool c1_, hs_41 _ _ _ _ hx11_, R27.idxOb (A := an41) hx9_, congrArg AV.bool c0_, trivial⟩ (hback _ _ _ _ _ _ h4_)
  ·
    exact run_at (S := sp41_0) (G := []) (sc := [(0, .eq (.bool false))]) (obs := [AV.bool (decide (t71 < t70)) = .bool false]) (by kernel_rfl) ⟨congrArg AV.bool c0_, trivial⟩ (hk_1 _ h1_)

def L41_0 (s_41 : (List Int) → (List Int) → TPredicate → Option Bool) (k_1 : Option Bool) : Nat → (List Int) → (List Int) → Int → Int → TPredicate → Option Bool
  | 0, _, _, _, _, _ => none
  | n + 1, columns0, params1, t70, t71, bp5 => B41_0 s_41 k_1 (L41_0 s_41 k_1 n) n columns0 params1 t70 t71 bp5
theorem l41_0 (s_41 : (List Int) → (List Int) → TPredicate → Option Bool) (hs_41 : ∀ (a0_ : (List Int)) (a1_ : (List Int)) (a2_ : TPredicate) (r : Bool), s_41 a0_ a1_ a2_ = some r → CallOK Try.prog ann 41 [.slice .sh (rows3 a0_), .slice .sh (rows3 a1_), .agg (enc28 a2_)] (res41 r) (outs41 r)) (k_1 : Option Bool) (hk_1 : ∀  (r : Bool), k_1 = some r → At e41 [1, 1, 1, 1] (st41_1) (res41 r) (outs41 r)) : ∀ (n : Nat) (columns0 : (List Int)) (params1 : (List Int)) (t70 : Int) (t71 : Int) (bp5 : TPredicate) (r : Bool), L41_0 s_41 k_1 n columns0 params1 t70 t71 bp5 = some r → At e41 [0, 1, 0, 1, 1, 1] (st41_0 columns0 params1 t70 t71 bp5) (res41 r) (outs41 r)
  | 0, _, _, _, _, _, _, h => by simp [L41_0] at h
  | n + 1, columns0, params1, t70, t71, bp5, r, h => b41_0 s_41 hs_41 k_1 hk_1 (L41_0 s_41 k_1 n) (l41_0 s_41 hs_41 k_1 hk_1 n) n columns0 params1 t70 t71 bp5 r h
def sp41_1 : Stops := []
def B41_1 (s_41 : (List Int) → (List Int) → TPredicate → Option Bool) (n : Nat)  : Option Bool :=
  some true

theorem b41_1 (s_41 : (List Int) → (List Int) → TPredicate → Option Bool) (hs_41 : ∀ (a0_ : (List Int)) (a1_ : (List Int)) (a2_ : TPredicate) (r : Bool), s_41 a0_ a1_ a2_ = some r → CallOK Try.prog ann 41 [.slice .sh (rows3 a0_), .slice .sh (rows3 a1_), .agg (enc28 a2_)] (res41 r) (outs41 r)) (n : Nat)  (r : Bool) (h : B41_1 s_41 n = some r) : At e41 [1, 1, 1, 1] (st41_1) (res41 r) (outs41 r) := by
  unfold B41_1 at h
  have e_ := Option.some.inj h
  subst e_
  exact run_ret (S := sp41_1) (G := []) (sc := []) (obs := []) (by kernel_rfl) trivial

def sp41_2 : Stops := [([0, 1, 0, 1, 1, 1], [(0, .nrm), (1, .nrm), (5, .same), (70, .same), (71, .same)], [(5, [.same, .same, .same, .same, .same, .same, .same, .same, .same, .same, .same, .same, .nrm])])]
def B41_2 (s_41 : (List Int) → (List Int) → TPredicate → Option Bool) (n : Nat) (columns0 : (List Int)) (params1 : (List Int)) (bp5 : TPredicate) : Option Bool :=
  (F61 n bp5).bind fun x2_ =>
  if !x2_ then
    some false
  else
    L41_0 s_41 (B41_1 s_41 n) n columns0 params1 (bp5.fArgs.length : Int) 0 bp5

theorem b41_2 (s_41 : (List Int) → (List Int) → TPredicate → Option Bool) (hs_41 : ∀ (a0_ : (List Int)) (a1_ : (List Int)) (a2_ : TPredicate) (r : Bool), s_41 a0_ a1_ a2_ = some r → CallOK Try.prog ann 41 [.slice .sh (rows3 a0_), .slice .sh (rows3 a1_), .agg (enc28 a2_)] (res41 r) (outs41 r)) (n : Nat) (columns0 : (List Int)) (params1 : (List Int)) (bp5 : TPredicate) (r : Bool) (h : B41_2 s_41 n columns0 params1 bp5 = some r) : At e41 [1, 1] (st41_2 columns0 params1 bp5) (res41 r) (outs41 r) := by
  unfold B41_2 at h
  refine bind_elim h (fun x2_ hx2_ h5_ => ?_)
  refine ite_elim h5_ (fun c0_ h6_ => ?_) (fun c0_ h6_ => ?_)
  ·
    have e_ := Option.some.inj h6_
    subst e_
    exact run_ret (S := sp41_2) (G := []) (sc := [(1, .call 61 (res61 x2_) (outs61 x2_)), (0, .eq (.bool true))]) (obs := [AV.bool (!x2_) = .bool true, CallOK Try.prog ann 61 [.agg (enc28 bp5)] (res61 x2_) (outs61 x2_)]) (by kernel_rfl) ⟨congrArg AV.bool c0_, ev61 n _ _ hx2_, trivial⟩
  ·
    exact run_at (S := sp41_2) (G := []) (sc := [(1, .call 61 (res61 x2_) (outs61 x2_)), (0, .eq (.bool false)), (2, .eq (.int .i64 (bp5.fArgs.length : Int)))]) (obs := [AV.int .i64 ((rows28 bp5.fArgs).length : Int) = .int .i64 (bp5.fArgs.length : Int), AV.bool (!x2_) = .bool false, CallOK Try.prog ann 61 [.agg (enc28 bp5)] (res61 x2_) (outs61 x2_)]) (by kernel_rfl) ⟨R27.lenOb bp5.fArgs, congrArg AV.bool c0_, ev61 n _ _ hx2_, trivial⟩ (l41_0 s_41 hs_41 (B41_1 s_41 n) (b41_1 s_41 hs_41 n) n _ _ _ _ _ _ h6_)

def sp41_3 : Stops := [([1, 1], [(0, .nrm), (1, .nrm), (5, .same)], [(5, [.same, .same, .same, .same, .same, .same, .same, .same, .same, .same, .same, .same, .nrm])])]
def B41_3 (s_41 : (List Int) → (List Int) → TPredicate → Option Bool) (n : Nat) (columns0 : (List Int)) (params1 : (List Int)) (p2 : TPredicate) : Option Bool :=
  if p2.fOp == 1 then
    (F61 n p2).bind fun x8_ =>
    if x8_ then
      some ((p2.fArgs.length : Int) == 0)
    else
      some false
  else
    if p2.fOp == 2 then
      (F61 n p2).bind fun x10_ =>
      if x10_ then
        some ((p2.fArgs.length : Int) == 0)
      else
        some false
    else
      if p2.fOp == 3 then
        (F62 n columns0 params1 p2.fLeft).bind fun x15_ =>
        if (p2.fArgs.length : Int) == 0 then
          if decide (p2.fCmp ≥ 1) then
            if decide (p2.fCmp ≤ 6) then
              if x15_ != 0 then
                (F62 n columns0 params1 p2.fRight).bind fun x41_ =>
                some (x15_ == x41_)
              else
                some false
            else
              some false
          else
            some false
        else
          some false
      else
        if p2.fOp == 4 then
          B41_2 s_41 n columns0 params1 p2
        else
          if p2.fOp == 5 then
            B41_2 s_41 n columns0 params1 p2
          else
            if p2.fOp == 6 then
              if (p2.fArgs.length : Int) != 1 then
                some false
              else
                B41_2 s_41 n columns0 params1 p2
            else
              some false

theorem b41_3 (s_41 : (List Int) → (List Int) → TPredicate → Option Bool) (hs_41 : ∀ (a0_ : (List Int)) (a1_ : (List Int)) (a2_ : TPredicate) (r : Bool), s_41 a0_ a1_ a2_ = some r → CallOK Try.prog ann 41 [.slice .sh (rows3 a0_), .slice .sh (rows3 a1_), .agg (enc28 a2_)] (res41 r) (outs41 r)) (n : Nat) (columns0 : (List Int)) (params1 : (List Int)) (p2 : TPredicate) (r : Bool) (h : B41_3 s_41 n columns0 params1 p2 = some r) : At e41 [] (st41_3 columns0 params1 p2) (res41 r) (outs41 r) := by
  unfold B41_3 at h
  refine ite_elim h (fun c0_ h7_ => ?_) (fun c0_ h7_ => ?_)
  ·
    refine bind_elim h7_ (fun x8_ hx8_ h8_ => ?_)
    refine ite_elim h8_ (fun c1_ h9_ => ?_) (fun c1_ h9_ => ?_)
    ·
      subst c1_
      have e_ := Option.some.inj h9_
      subst e_
      exact run_ret (S := sp41_3) (G := []) (sc := [(4, .eq (.bool true)), (2, .call 61 (res61 true) (outs61 true)), (3, .eq (.int .i64 (p2.fArgs.length : Int)))]) (obs := [AV.int .i64 ((rows28 p2.fArgs).length : Int) = .int .i64 (p2.fArgs.length : Int), CallOK Try.prog ann 61 [.agg (enc28 p2)] (res61 true) (outs61 true), AV.bool (p2.fOp == 1) = .bool true]) (by kernel_rfl) ⟨R27.lenOb p2.fArgs, ev61 n _ _ hx8_, congrArg AV.bool c0_, trivial⟩
    ·
      subst c1_
      have e_ := Option.some.inj h9_
      subst e_
      exact run_ret (S := sp41_3) (G := []) (sc := [(4, .eq (.bool true)), (2, .call 61 (res61 false) (outs61 false))]) (obs := [CallOK Try.prog ann 61 [.agg (enc28 p2)] (res61 false) (outs61 false), AV.bool (p2.fOp == 1) = .bool true]) (by kernel_rfl) ⟨ev61 n _ _ hx8_, congrArg AV.bool c0_, trivial⟩
  ·
    refine ite_elim h7_ (fun c1_ h10_ => ?_) (fun c1_ h10_ => ?_)
    ·
      refine bind_elim h10_ (fun x10_ hx10_ h11_ => ?_)
      refine ite_elim h11_ (fun c2_ h12_ => ?_) (fun c2_ h12_ => ?_)
      ·
        subst c2_
        have e_ := Option.some.inj h12_
        subst e_
        exact run_ret (S := sp41_3) (G := []) (sc := [(4, .eq (.bool false)), (1, .eq (.bool true)), (2, .call 61 (res61 true) (outs61 true)), (3, .eq (.int .i64 (p2.fArgs.length : Int)))]) (obs := [AV.int .i64 ((rows28 p2.fArgs).length : Int) = .int .i64 (p2.fArgs.length : Int), CallOK Try.prog ann 61 [.agg (enc28 p2)] (res61 true) (outs61 true), AV.bool (p2.fOp == 2) = .bool true, AV.bool (p2.fOp == 1) = .bool false]) (by kernel_rfl) ⟨R27.lenOb p2.fArgs, ev61 n _ _ hx10_, congrArg AV.bool c1_, congrArg AV.bool c0_, trivial⟩
      ·
        subst c2_
        have e_ := Option.some.inj h12_
        subst e_
        exact run_ret (S := sp41_3) (G := []) (sc := [(4, .eq (.bool false)), (1, .eq (.bool true)), (2, .call 61 (res61 false) (outs61 false))]) (obs := [CallOK Try.prog ann 61 [.agg (enc28 p2)] (res61 false) (outs61 false), AV.bool (p2.fOp == 2) = .bool true, AV.bool (p2.fOp == 1) = .bool false]) (by kernel_rfl) ⟨ev61 n _ _ hx10_, congrArg AV.bool c1_, congrArg AV.bool c0_, trivial⟩
    ·
      refine ite_elim h10_ (fun c2_ h13_ => ?_) (fun c2_ h13_ => ?_)
      ·
        refine bind_elim h13_ (fun x15_ hx15_ h14_ => ?_)
        refine ite_elim h14_ (fun c3_ h15_ => ?_) (fun c3_ h15_ => ?_)
        ·
          refine ite_elim h15_ (fun c4_ h16_ => ?_) (fun c4_ h16_ => ?_)
          ·
            refine ite_elim h16_ (fun c5_ h17_ => ?_) (fun c5_ h17_ => ?_)
            ·
              refine ite_elim h17_ (fun c6_ h18_ => ?_) (fun c6_ h18_ => ?_)
              ·
                refine bind_elim h18_ (fun x41_ hx41_ h19_ => ?_)
                have e_ := Option.some.inj h19_
                subst e_
                exact run_ret (S := sp41_3) (G := []) (sc := [(4, .eq (.bool false)), (1, .eq (.bool false)), (1, .eq (.bool true)), (5, .call 62 (res62 x15_) (outs62 x15_)), (3, .eq (.int .i64 (p2.fArgs.length : Int))), (0, .eq (.bool true)), (3, .eq (.bool true)), (4, .eq (.bool true)), (3, .eq (.bool true)), (7, .call 62 (res62 x41_) (outs62 x41_))]) (obs := [CallOK Try.prog ann 62 [.slice .sh (rows3 columns0), .slice .sh (rows3 params1), .agg (enc25 p2.fRight)] (res62 x41_) (outs62 x41_), AV.bool (x15_ != 0) = .bool true, AV.bool (decide (p2.fCmp ≤ 6)) = .bool true, AV.bool (decide (p2.fCmp ≥ 1)) = .bool true, AV.bool ((p2.fArgs.length : Int) == 0) = .bool true, AV.int .i64 ((rows28 p2.fArgs).length : Int) = .int .i64 (p2.fArgs.length : Int), CallOK Try.prog ann 62 [.slice .sh (rows3 columns0), .slice .sh (rows3 params1), .agg (enc25 p2.fLeft)] (res62 x15_) (outs62 x15_), AV.bool (p2.fOp == 3) = .bool true, AV.bool (p2.fOp == 2) = .bool false, AV.bool (p2.fOp == 1) = .bool false]) (by kernel_rfl) ⟨ev62 n _ _ _ _ hx41_, congrArg AV.bool c6_, congrArg AV.bool c5_, congrArg AV.bool c4_, congrArg AV.bool c3_, R27.lenOb p2.fArgs, ev62 n _ _ _ _ hx15_, congrArg AV.bool c2_, congrArg AV.bool c1_, congrArg AV.bool c0_, trivial⟩
              ·
                have e_ := Option.some.inj h18_
                subst e_
                exact run_ret (S := sp41_3) (G := []) (sc := [(4, .eq (.bool false)), (1, .eq (.bool false)), (1, .eq (.bool true)), (5, .call 62 (res62 x15_) (outs62 x15_)), (3, .eq (.int .i64 (p2.fArgs.length : Int))), (0, .eq (.bool true)), (3, .eq (.bool true)), (4, .eq (.bool true)), (3, .eq (.bool false))]) (obs := [AV.bool (x15_ != 0) = .bool false, AV.bool (decide (p2.fCmp ≤ 6)) = .bool true, AV.bool (decide (p2.fCmp ≥ 1)) = .bool true, AV.bool ((p2.fArgs.length : Int) == 0) = .bool true, AV.int .i64 ((rows28 p2.fArgs).length : Int) = .int .i64 (p2.fArgs.length : Int), CallOK Try.prog ann 62 [.slice .sh (rows3 columns0), .slice .sh (rows3 params1), .agg (enc25 p2.fLeft)] (res62 x15_) (outs62 x15_), AV.bool (p2.fOp == 3) = .bool true, AV.bool (p2.fOp == 2) = .bool false, AV.bool (p2.fOp == 1) = .bool false]) (by kernel_rfl) ⟨congrArg AV.bool c6_, congrArg AV.bool c5_, congrArg AV.bool c4_, congrArg AV.bool c3_, R27.lenOb p2.fArgs, ev62 n _ _ _ _ hx15_, congrArg AV.bool c2_, congrArg AV.bool c1_, congrArg AV.bool c0_, trivial⟩
            ·
              have e_ := Option.some.inj h17_
              subst e_
              exact run_ret (S := sp41_3) (G := []) (sc := [(4, .eq (.bool false)), (1, .eq (.bool false)), (1, .eq (.bool true)), (5, .call 62 (res62 x15_) (outs62 x15_)), (3, .eq (.int .i64 (p2.fArgs.length : Int))), (0, .eq (.bool true)), (3, .eq (.bool true)), (4, .eq (.bool false))]) (obs := [AV.bool (decide (p2.fCmp ≤ 6)) = .bool false, AV.bool (decide (p2.fCmp ≥ 1)) = .bool true, AV.bool ((p2.fArgs.length : Int) == 0) = .bool true, AV.int .i64 ((rows28 p2.fArgs).length : Int) = .int .i64 (p2.fArgs.length : Int), CallOK Try.prog ann 62 [.slice .sh (rows3 columns0), .slice .sh (rows3 params1), .agg (enc25 p2.fLeft)] (res62 x15_) (outs62 x15_), AV.bool (p2.fOp == 3) = .bool true, AV.bool (p2.fOp == 2) = .bool false, AV.bool (p2.fOp == 1) = .bool false]) (by kernel_rfl) ⟨congrArg AV.bool c5_, congrArg AV.bool c4_, congrArg AV.bool c3_, R27.lenOb p2.fArgs, ev62 n _ _ _ _ hx15_, congrArg AV.bool c2_, congrArg AV.bool c1_, congrArg AV.bool c0_, trivial⟩
          ·
            have e_ := Option.some.inj h16_
            subst e_
            exact run_ret (S := sp41_3) (G := []) (sc := [(4, .eq (.bool false)), (1, .eq (.bool false)), (1, .eq (.bool true)), (5, .call 62 (res62 x15_) (outs62 x15_)), (3, .eq (.int .i64 (p2.fArgs.length : Int))), (0, .eq (.bool true)), (3, .eq (.bool false))]) (obs := [AV.bool (decide (p2.fCmp ≥ 1)) = .bool false, AV.bool ((p2.fArgs.length : Int) == 0) = .bool true, AV.int .i64 ((rows28 p2.fArgs).length : Int) = .int .i64 (p2.fArgs.length : Int), CallOK Try.prog ann 62 [.slice .sh (rows3 columns0), .slice .sh (rows3 params1), .agg (enc25 p2.fLeft)] (res62 x15_) (outs62 x15_), AV.bool (p2.fOp == 3) = .bool true, AV.bool (p2.fOp == 2) = .bool false, AV.bool (p2.fOp == 1) = .bool false]) (by kernel_rfl) ⟨congrArg AV.bool c4_, congrArg AV.bool c3_, R27.lenOb p2.fArgs, ev62 n _ _ _ _ hx15_, congrArg AV.bool c2_, congrArg AV.bool c1_, congrArg AV.bool c0_, trivial⟩
        ·
          have e_ := Option.some.inj h15_
          subst e_
          exact run_ret (S := sp41_3) (G := []) (sc := [(4, .eq (.bool false)), (1, .eq (.bool false)), (1, .eq (.bool true)), (5, .call 62 (res62 x15_) (outs62 x15_)), (3, .eq (.int .i64 (p2.fArgs.length : Int))), (0, .eq (.bool false))]) (obs := [AV.bool ((p2.fArgs.length : Int) == 0) = .bool false, AV.int .i64 ((rows28 p2.fArgs).length : Int) = .int .i64 (p2.fArgs.length : Int), CallOK Try.prog ann 62 [.slice .sh (rows3 columns0), .slice .sh (rows3 params1), .agg (enc25 p2.fLeft)] (res62 x15_) (outs62 x15_), AV.bool (p2.fOp == 3) = .bool true, AV.bool (p2.fOp == 2) = .bool false, AV.bool (p2.fOp == 1) = .bool false]) (by kernel_rfl) ⟨congrArg AV.bool c3_, R27.lenOb p2.fArgs, ev62 n _ _ _ _ hx15_, congrArg AV.bool c2_, congrArg AV.bool c1_, congrArg AV.bool c0_, trivial⟩
      ·
        refine ite_elim h13_ (fun c3_ h20_ => ?_) (fun c3_ h20_ => ?_)
        ·
          exact run_at (S := sp41_3) (G := []) (sc := [(4, .eq (.bool false)), (1, .eq (.bool false)), (1, .eq (.bool false)), (1, .eq (.bool true))]) (obs := [AV.bool (p2.fOp == 4) = .bool true, AV.bool (p2.fOp == 3) = .bool false, AV.bool (p2.fOp == 2) = .bool false, AV.bool (p2.fOp == 1) = .bool false]) (by kernel_rfl) ⟨congrArg AV.bool c3_, congrArg AV.bool c2_, congrArg AV.bool c1_, congrArg AV.bool c0_, trivial⟩ (b41_2 s_41 hs_41 n _ _ _ _ h20_)
        ·
          refine ite_elim h20_ (fun c4_ h21_ => ?_) (fun c4_ h21_ => ?_)
          ·
            exact run_at (S := sp41_3) (G := []) (sc := [(4, .eq (.bool false)), (1, .eq (.bool false)), (1, .eq (.bool false)), (1, .eq (.bool false)), (1, .eq (.bool true))]) (obs := [AV.bool (p2.fOp == 5) = .bool true, AV.bool (p2.fOp == 4) = .bool false, AV.bool (p2.fOp == 3) = .bool false, AV.bool (p2.fOp == 2) = .bool false, AV.bool (p2.fOp == 1) = .bool false]) (by kernel_rfl) ⟨congrArg AV.bool c4_, congrArg AV.bool c3_, congrArg AV.bool c2_, congrArg AV.bool c1_, congrArg AV.bool c0_, trivial⟩ (b41_2 s_41 hs_41 n _ _ _ _ h21_)
          ·
            refine ite_elim h21_ (fun c5_ h22_ => ?_) (fun c5_ h22_ => ?_)
            ·
              refine ite_elim h22_ (fun c6_ h23_ => ?_) (fun c6_ h23_ => ?_)
              ·
                have e_ := Option.some.inj h23_
                subst e_
                exact run_ret (S := sp41_3) (G := []) (sc := [(4, .eq (.bool false)), (1, .eq (.bool false)), (1, .eq (.bool false)), (1, .eq (.bool false)), (1, .eq (.bool false)), (1, .eq (.bool true)), (3, .eq (.int .i64 (p2.fArgs.length : Int))), (0, .eq (.bool true))]) (obs := [AV.bool ((p2.fArgs.length : Int) != 1) = .bool true, AV.int .i64 ((rows28 p2.fArgs).length : Int) = .int .i64 (p2.fArgs.length : Int), AV.bool (p2.fOp == 6) = .bool true, AV.bool (p2.fOp == 5) = .bool false, AV.bool (p2.fOp == 4) = .bool false, AV.bool (p2.fOp == 3) = .bool false, AV.bool (p2.fOp == 2) = .bool false, AV.bool (p2.fOp == 1) = .bool false]) (by kernel_rfl) ⟨congrArg AV.bool c6_, R27.lenOb p2.fArgs, congrArg AV.bool c5_, congrArg AV.bool c4_, congrArg AV.bool c3_, congrArg AV.bool c2_, congrArg AV.bool c1_, congrArg AV.bool c0_, trivial⟩
              ·
                exact run_at (S := sp41_3) (G := []) (sc := [(4, .eq (.bool false)), (1, .eq (.bool false)), (1, .eq (.bool false)), (1, .eq (.bool false)), (1, .eq (.bool false)), (1, .eq (.bool true)), (3, .eq (.int .i64 (p2.fArgs.length : Int))), (0, .eq (.bool false))]) (obs := [AV.bool ((p2.fArgs.length : Int) != 1) = .bool false, AV.int .i64 ((rows28 p2.fArgs).length : Int) = .int .i64 (p2.fArgs.length : Int), AV.bool (p2.fOp == 6) = .bool true, AV.bool (p2.fOp == 5) = .bool false, AV.bool (p2.fOp == 4) = .bool false, AV.bool (p2.fOp == 3) = .bool false, AV.bool (p2.fOp == 2) = .bool false, AV.bool (p2.fOp == 1) = .bool false]) (by kernel_rfl) ⟨congrArg AV.bool c6_, R27.lenOb p2.fArgs, congrArg AV.bool c5_, congrArg AV.bool c4_, congrArg AV.bool c3_, congrArg AV.bool c2_, congrArg AV.bool c1_, congrArg AV.bool c0_, trivial⟩ (b41_2 s_41 hs_41 n _ _ _ _ h23_)
            ·
              have e_ := Option.some.inj h22_
              subst e_
              exact run_ret (S := sp41_3) (G := []) (sc := [(4, .eq (.bool false)), (1, .eq (.bool false)), (1, .eq (.bool false)), (1, .eq (.bool false)), (1, .eq (.bool false)), (1, .eq (.bool false))]) (obs := [AV.bool (p2.fOp == 6) = .bool false, AV.bool (p2.fOp == 5) = .bool false, AV.bool (p2.fOp == 4) = .bool false, AV.bool (p2.fOp == 3) = .bool false, AV.bool (p2.fOp == 2) = .bool false, AV.bool (p2.fOp == 1) = .bool false]) (by kernel_rfl) ⟨congrArg AV.bool c5_, congrArg AV.bool c4_, congrArg AV.bool c3_, congrArg AV.bool c2_, congrArg AV.bool c1_, congrArg AV.bool c0_, trivial⟩

def F41 : Nat → (List Int) → (List Int) → TPredicate → Option Bool
  | 0, _, _, _ => none
  | n + 1, columns0, params1, p2 => B41_3 (F41 n) n columns0 params1 p2
theorem ev41 : ∀ (n : Nat) (columns0 : (List Int)) (params1 : (List Int)) (p2 : TPredicate) (r : Bool), F41 n columns0 params1 p2 = some r → CallOK Try.prog ann 41 [.slice .sh (rows3 columns0), .slice .sh (rows3 params1), .agg (enc28 p2)] (res41 r) (outs41 r)
  | 0, _, _, _, _, h => by simp [F41] at h
  | n + 1, columns0, params1, p2, r, h => call_of_at (E := e41) (s := st41_3 columns0 params1 p2) body41 Try.func41 (by kernel_rfl) (by kernel_rfl) (by kernel_rfl) (by kernel_rfl) (by kernel_rfl) (emptyOK_of (by kernel_rfl)) (by kernel_rfl) (b41_3 (F41 n) (ev41 n) n columns0 params1 p2 r h)

end Go.Proofs.Ytalbakjfbgkjjaa
