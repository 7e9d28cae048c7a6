/- Functions of the program as plain functions, and that the program answers as they do; written by a program (comp.py). -/
import Derived.Test.YtalbakjfbgkjjaaFun4
set_option maxRecDepth 100000
set_option linter.all false
namespace Go.Proofs.Ytalbakjfbgkjjaa
open Go.Abs

/-- (*partsync/partsynccase.Case).Row -/
noncomputable def e17 : Env := { P := Try.prog, ann := ann, f := 17, fn := Try.f17, ptrs := [0], rets := [(8, .ex 24)] }
def st17_0 (key2 : Int) (mode3 : Int) (out9 : (List TValue)) (k11 : Int) (t12 : (List Int)) (t13 : Int) (t14 : Int) (t41 : Bool) (bc0 : TCase) : LS := ⟨[(0, .loc 0 0), (2, .int .i64 key2), (3, .int .i64 mode3), (9, .ex 24 (rows23 out9)), (11, .int .i64 k11), (12, .slice .sh (rows3 t12)), (13, .int .i64 t13), (14, .int .i64 t14), (41, .bool t41)], [(0, (enc57 bc0))]⟩
def st17_1 (key2 : Int) (mode3 : Int) (out9 : (List TValue)) (t12 : (List Int)) (t13 : Int) (t14 : Int) (bc0 : TCase) : LS := ⟨[(0, .loc 0 0), (2, .int .i64 key2), (3, .int .i64 mode3), (9, .ex 24 (rows23 out9)), (12, .slice .sh (rows3 t12)), (13, .int .i64 t13), (14, .int .i64 t14)], [(0, (enc57 bc0))]⟩
def st17_2 (key2 : Int) (mode3 : Int) (out9 : (List TValue)) (t12 : (List Int)) (t13 : Int) (t14 : Int) (bc0 : TCase) : LS := ⟨[(0, .loc 0 0), (2, .int .i64 key2), (3, .int .i64 mode3), (9, .ex 24 (rows23 out9)), (12, .slice .sh (rows3 t12)), (13, .int .i64 t13), (14, .int .i64 t14)], [(0, (enc57 bc0))]⟩
def st17_3 (out9 : (List TValue)) (bc0 : TCase) : LS := ⟨[(9, .ex 24 (rows23 out9))], [(0, (enc57 bc0))]⟩
def st17_4 (c0 : TCase) (kinds1 : (List Int)) (key2 : Int) (mode3 : Int) : LS := ⟨[(0, .loc 0 0), (1, .slice .sh (rows3 kinds1)), (2, .int .i64 key2), (3, .int .i64 mode3)], [(0, (enc57 c0))]⟩
def sp17_0 : Stops := [([1, 1, 1, 0, 0, 1, 0, 1, 1], [(0, .same), (2, .same), (3, .same), (9, .ex 24), (12, .nrm), (13, .same), (14, .same)], [(0, [.nrm, .same])])]
def B17_0 (k_1 : Int → Int → (List TValue) → (List Int) → Int → Int → TCase → Option ((List TValue) × TCase)) (n : Nat) (key2 : Int) (mode3 : Int) (out9 : (List TValue)) (k11 : Int) (t12 : (List Int)) (t13 : Int) (t14 : Int) (t41 : Bool) (bc0 : TCase) : Option ((List TValue) × TCase) :=
  if t41 then
    (app out9 [(TValue.mk 1 0 ByteArray.empty)]).bind fun x4_ =>
    k_1 key2 mode3 x4_ t12 t13 t14 bc0
  else
    (F22 n bc0 k11).bind fun x4_ =>
    (app out9 [x4_.1]).bind fun x6_ =>
    k_1 key2 mode3 x6_ t12 t13 t14 x4_.2

theorem b17_0 (k_1 : Int → Int → (List TValue) → (List Int) → Int → Int → TCase → Option ((List TValue) × TCase)) (hk_1 : ∀ (key2 : Int) (mode3 : Int) (out9 : (List TValue)) (t12 : (List Int)) (t13 : Int) (t14 : Int) (bc0 : TCase) (r : ((List TValue) × TCase)), k_1 key2 mode3 out9 t12 t13 t14 bc0 = some r → At e17 [1, 1, 1, 0, 0, 1, 0, 1, 1] (st17_1 key2 mode3 out9 t12 t13 t14 bc0) (res17 r) (outs17 r)) (n : Nat) (key2 : Int) (mode3 : Int) (out9 : (List TValue)) (k11 : Int) (t12 : (List Int)) (t13 : Int) (t14 : Int) (t41 : Bool) (bc0 : TCase) (r : ((List TValue) × TCase)) (h : B17_0 k_1 n key2 mode3 out9 k11 t12 t13 t14 t41 bc0 = some r) : At e17 [1, 1, 1, 0, 1, 0, 0, 1, 1, 0, 0, 1, 0, 1, 1] (st17_0 key2 mode3 out9 k11 t12 t13 t14 t41 bc0) (res17 r) (outs17 r) := by
  unfold B17_0 at h
  refine ite_elim h (fun c0_ h1_ => ?_) (fun c0_ h1_ => ?_)
  ·
    subst c0_
    refine bind_elim h1_ (fun x4_ hx4_ h2_ => ?_)
    exact run_at (S := sp17_0) (G := []) (sc := [(3, .core ⟨[(56, .ex 24 (rows23 x4_)), (53, .undef)], []⟩)]) (obs := [appendA Try.prog an17 56 41 (.tmp 53) (.ex 24 (rows23 out9)) (.slice (.own 24) (rows23 [(TValue.mk 1 0 ByteArray.empty)])) (fun _ => none) = some ⟨[(56, .ex 24 (rows23 x4_)), (53, .undef)], []⟩]) (by kernel_rfl) ⟨R41.appEx (A := an17) (by decide) hx4_, trivial⟩ (hk_1 _ _ _ _ _ _ _ _ h2_)
  ·
    subst c0_
    refine bind_elim h1_ (fun x4_ hx4_ h3_ => ?_)
    refine bind_elim h3_ (fun x6_ hx6_ h4_ => ?_)
    exact run_at (S := sp17_0) (G := []) (sc := [(3, .call 22 (res22 x4_) (outs22 x4_)), (1, .core ⟨[(24, .ex 24 (rows23 x6_)), (19, .undef)], []⟩)]) (obs := [appendA Try.prog an17 24 41 (.tmp 19) (.ex 24 (rows23 out9)) (.slice (.own 24) (rows23 [x4_.1])) (fun _ => none) = some ⟨[(24, .ex 24 (rows23 x6_)), (19, .undef)], []⟩, CallOK Try.prog ann 22 [.ptr (enc57 bc0), .int .i64 k11] (res22 x4_) (outs22 x4_)]) (by kernel_rfl) ⟨R41.appEx (A := an17) (by decide) hx6_, ev22 n _ _ _ hx4_, trivial⟩ (hk_1 _ _ _ _ _ _ _ _ h4_)

def sp17_1 : Stops := [([0, 1, 0, 1, 1], [(0, .same), (2, .same), (3, .same), (9, .ex 24), (12, .nrm), (13, .same), (14, .same)], [(0, [.nrm, .same])])]
def B17_1 (k_2 : Int → Int → (List TValue) → (List Int) → Int → Int → TCase → Option ((List TValue) × TCase)) (n : Nat) (key2 : Int) (mode3 : Int) (out9 : (List TValue)) (t12 : (List Int)) (t13 : Int) (t14 : Int) (bc0 : TCase) : Option ((List TValue) × TCase) :=
  k_2 key2 mode3 out9 t12 t13 (w64 (t14 + 1)) bc0

theorem b17_1 (k_2 : Int → Int → (List TValue) → (List Int) → Int → Int → TCase → Option ((List TValue) × TCase)) (hk_2 : ∀ (key2 : Int) (mode3 : Int) (out9 : (List TValue)) (t12 : (List Int)) (t13 : Int) (t14 : Int) (bc0 : TCase) (r : ((List TValue) × TCase)), k_2 key2 mode3 out9 t12 t13 t14 bc0 = some r → At e17 [0, 1, 0, 1, 1] (st17_2 key2 mode3 out9 t12 t13 t14 bc0) (res17 r) (outs17 r)) (n : Nat) (key2 : Int) (mode3 : Int) (out9 : (List TValue)) (t12 : (List Int)) (t13 : Int) (t14 : Int) (bc0 : TCase) (r : ((List TValue) × TCase)) (h : B17_1 k_2 n key2 mode3 out9 t12 t13 t14 bc0 = some r) : At e17 [1, 1, 1, 0, 0, 1, 0, 1, 1] (st17_1 key2 mode3 out9 t12 t13 t14 bc0) (res17 r) (outs17 r) := by
  unfold B17_1 at h
  exact run_at (S := sp17_1) (G := []) (sc := []) (obs := []) (by kernel_rfl) trivial (hk_2 _ _ _ _ _ _ _ _ h)

def sp17_2 : Stops := [([1, 1, 1, 0, 1, 0, 0, 1, 1, 0, 0, 1, 0, 1, 1], [(0, .same), (2, .same), (3, .same), (9, .ex 24), (11, .same), (12, .nrm), (13, .same), (14, .same), (41, .same)], [(0, [.nrm, .same])]), ([1, 1, 1, 0, 0, 1, 0, 1, 1], [(0, .same), (2, .same), (3, .same), (9, .ex 24), (12, .nrm), (13, .same), (14, .same)], [(0, [.nrm, .same])]), ([1, 1, 1], [(9, .ex 24)], [(0, [.nrm, .same])])]
def B17_2 (k_3 : (List TValue) → TCase → Option ((List TValue) × TCase)) (back : Int → Int → (List TValue) → (List Int) → Int → Int → TCase → Option ((List TValue) × TCase)) (n : Nat) (key2 : Int) (mode3 : Int) (out9 : (List TValue)) (t12 : (List Int)) (t13 : Int) (t14 : Int) (bc0 : TCase) : Option ((List TValue) × TCase) :=
  if decide (t14 < t13) then
    (idx t12 t14).bind fun x3_ =>
    if decide (t14 ≥ key2) then
      if mode3 != 1 then
        (F33 n bc0 5).bind fun x16_ =>
        if x16_.1 then
          (app out9 [(TValue.mk 2 0 ByteArray.empty)]).bind fun x22_ =>
          B17_1 back n key2 mode3 x22_ t12 t13 t14 x16_.2
        else
          if mode3 == 3 then
            (F33 n x16_.2 5).bind fun x28_ =>
            B17_0 (B17_1 back n) n key2 mode3 out9 x3_ t12 t13 t14 x28_.1 x28_.2
          else
            B17_0 (B17_1 back n) n key2 mode3 out9 x3_ t12 t13 t14 false x16_.2
      else
        if mode3 == 3 then
          (F33 n bc0 5).bind fun x26_ =>
          B17_0 (B17_1 back n) n key2 mode3 out9 x3_ t12 t13 t14 x26_.1 x26_.2
        else
          B17_0 (B17_1 back n) n key2 mode3 out9 x3_ t12 t13 t14 false bc0
    else
      B17_0 (B17_1 back n) n key2 mode3 out9 x3_ t12 t13 t14 false bc0
  else
    k_3 out9 bc0

theorem b17_2 (k_3 : (List TValue) → TCase → Option ((List TValue) × TCase)) (hk_3 : ∀ (out9 : (List TValue)) (bc0 : TCase) (r : ((List TValue) × TCase)), k_3 out9 bc0 = some r → At e17 [1, 1, 1] (st17_3 out9 bc0) (res17 r) (outs17 r)) (back : Int → Int → (List TValue) → (List Int) → Int → Int → TCase → Option ((List TValue) × TCase)) (hback : ∀ (key2 : Int) (mode3 : Int) (out9 : (List TValue)) (t12 : (List Int)) (t13 : Int) (t14 : Int) (bc0 : TCase) (r : ((List TValue) × TCase)), back key2 mode3 out9 t12 t13 t14 bc0 = some r → At e17 [0, 1, 0, 1, 1] (st17_2 key2 mode3 out9 t12 t13 t14 bc0) (res17 r) (outs17 r)) (n : Nat) (key2 : Int) (mode3 : Int) (out9 : (List TValue)) (t12 : (List Int)) (t13 : Int) (t14 : Int) (bc0 : TCase) (r : ((List TValue) × TCase)) (h : B17_2 k_3 back n key2 mode3 out9 t12 t13 t14 bc0 = some r) : At e17 [0, 1, 0, 1, 1] (st17_2 key2 mode3 out9 t12 t13 t14 bc0) (res17 r) (outs17 r) := by
  unfold B17_2 at h
  refine ite_elim h (fun c0_ h5_ => ?_) (fun c0_ h5_ => ?_)
  ·
    refine bind_elim h5_ (fun x3_ hx3_ h6_ => ?_)
    refine ite_elim h6_ (fun c1_ h7_ => ?_) (fun c1_ h7_ => ?_)
    ·
      refine ite_elim h7_ (fun c2_ h8_ => ?_) (fun c2_ h8_ => ?_)
      ·
        refine bind_elim h8_ (fun x16_ hx16_ h9_ => ?_)
        refine ite_elim h9_ (fun c3_ h10_ => ?_) (fun c3_ h10_ => ?_)
        ·
          refine bind_elim h10_ (fun x22_ hx22_ h11_ => ?_)
          exact run_at (S := sp17_2) (G := []) (sc := [(0, .eq (.bool true)), (1, .core ⟨[(17, .imm (enc3 x3_))], []⟩), (5, .eq (.bool true)), (2, .eq (.bool true)), (3, .call 33 (.bool true) (outs33 x16_)), (5, .core ⟨[(40, .ex 24 (rows23 x22_)), (37, .undef)], []⟩)]) (obs := [appendA Try.prog an17 40 41 (.tmp 37) (.ex 24 (rows23 out9)) (.slice (.own 24) (rows23 [(TValue.mk 2 0 ByteArray.empty)])) (fun _ => none) = some ⟨[(40, .ex 24 (rows23 x22_)), (37, .undef)], []⟩, CallOK Try.prog ann 33 [.ptr (enc57 bc0), .int .i64 5] (.bool true) (outs33 x16_), AV.bool (mode3 != 1) = .bool true, AV.bool (decide (t14 ≥ key2)) = .bool true, indexAddrA Try.prog an17 (some 17) 30 (.slice .sh (rows3 t12)) (.int .i64 t14) = some ⟨[(17, .imm (enc3 x3_))], []⟩, AV.bool (decide (t14 < t13)) = .bool true]) (by kernel_rfl) ⟨R41.appEx (A := an17) (by decide) hx22_, callOK_bool (ev33 n _ _ _ hx16_) c3_, congrArg AV.bool c2_, congrArg AV.bool c1_, R30.idxOb (A := an17) hx3_, congrArg AV.bool c0_, trivial⟩ (b17_1 back hback n _ _ _ _ _ _ _ _ h11_)
        ·
          refine ite_elim h10_ (fun c4_ h12_ => ?_) (fun c4_ h12_ => ?_)
          ·
            refine bind_elim h12_ (fun x28_ hx28_ h13_ => ?_)
            exact run_at (S := sp17_2) (G := []) (sc := [(0, .eq (.bool true)), (1, .core ⟨[(17, .imm (enc3 x3_))], []⟩), (5, .eq (.bool true)), (2, .eq (.bool true)), (3, .call 33 (.bool false) (outs33 x16_)), (4, .eq (.bool true)), (2, .eq (.bool true)), (3, .call 33 (res33 x28_) (outs33 x28_))]) (obs := [CallOK Try.prog ann 33 [.ptr (enc57 x16_.2), .int .i64 5] (res33 x28_) (outs33 x28_), AV.bool (mode3 == 3) = .bool true, AV.bool (decide (t14 ≥ key2)) = .bool true, CallOK Try.prog ann 33 [.ptr (enc57 bc0), .int .i64 5] (.bool false) (outs33 x16_), AV.bool (mode3 != 1) = .bool true, AV.bool (decide (t14 ≥ key2)) = .bool true, indexAddrA Try.prog an17 (some 17) 30 (.slice .sh (rows3 t12)) (.int .i64 t14) = some ⟨[(17, .imm (enc3 x3_))], []⟩, AV.bool (decide (t14 < t13)) = .bool true]) (by kernel_rfl) ⟨ev33 n _ _ _ hx28_, congrArg AV.bool c4_, congrArg AV.bool c1_, callOK_bool (ev33 n _ _ _ hx16_) c3_, congrArg AV.bool c2_, congrArg AV.bool c1_, R30.idxOb (A := an17) hx3_, congrArg AV.bool c0_, trivial⟩ (b17_0 (B17_1 back n) (b17_1 back hback n) n _ _ _ _ _ _ _ _ _ _ h13_)
          ·
            exact run_at (S := sp17_2) (G := []) (sc := [(0, .eq (.bool true)), (1, .core ⟨[(17, .imm (enc3 x3_))], []⟩), (5, .eq (.bool true)), (2, .eq (.bool true)), (3, .call 33 (.bool false) (outs33 x16_)), (4, .eq (.bool true)), (2, .eq (.bool false))]) (obs := [AV.bool (mode3 == 3) = .bool false, AV.bool (decide (t14 ≥ key2)) = .bool true, CallOK Try.prog ann 33 [.ptr (enc57 bc0), .int .i64 5] (.bool false) (outs33 x16_), AV.bool (mode3 != 1) = .bool true, AV.bool (decide (t14 ≥ key2)) = .bool true, indexAddrA Try.prog an17 (some 17) 30 (.slice .sh (rows3 t12)) (.int .i64 t14) = some ⟨[(17, .imm (enc3 x3_))], []⟩, AV.bool (decide (t14 < t13)) = .bool true]) (by kernel_rfl) ⟨congrArg AV.bool c4_, congrArg AV.bool c1_, callOK_bool (ev33 n _ _ _ hx16_) c3_, congrArg AV.bool c2_, congrArg AV.bool c1_, R30.idxOb (A := an17) hx3_, congrArg AV.bool c0_, trivial⟩ (b17_0 (B17_1 back n) (b17_1 back hback n) n _ _ _ _ _ _ _ _ _ _ h12_)
      ·
        refine ite_elim h8_ (fun c3_ h14_ => ?_) (fun c3_ h14_ => ?_)
        ·
          refine bind_elim h14_ (fun x26_ hx26_ h15_ => ?_)
          exact run_at (S := sp17_2) (G := []) (sc := [(0, .eq (.bool true)), (1, .core ⟨[(17, .imm (enc3 x3_))], []⟩), (5, .eq (.bool true)), (2, .eq (.bool false)), (6, .eq (.bool true)), (2, .eq (.bool true)), (3, .call 33 (res33 x26_) (outs33 x26_))]) (obs := [CallOK Try.prog ann 33 [.ptr (enc57 bc0), .int .i64 5] (res33 x26_) (outs33 x26_), AV.bool (mode3 == 3) = .bool true, AV.bool (decide (t14 ≥ key2)) = .bool true, AV.bool (mode3 != 1) = .bool false, AV.bool (decide (t14 ≥ key2)) = .bool true, indexAddrA Try.prog an17 (some 17) 30 (.slice .sh (rows3 t12)) (.int .i64 t14) = some ⟨[(17, .imm (enc3 x3_))], []⟩, AV.bool (decide (t14 < t13)) = .bool true]) (by kernel_rfl) ⟨ev33 n _ _ _ hx26_, congrArg AV.bool c3_, congrArg AV.bool c1_, congrArg AV.bool c2_, congrArg AV.bool c1_, R30.idxOb (A := an17) hx3_, congrArg AV.bool c0_, trivial⟩ (b17_0 (B17_1 back n) (b17_1 back hback n) n _ _ _ _ _ _ _ _ _ _ h15_)
        ·
          exact run_at (S := sp17_2) (G := []) (sc := [(0, .eq (.bool true)), (1, .core ⟨[(17, .imm (enc3 x3_))], []⟩), (5, .eq (.bool true)), (2, .eq (.bool false)), (6, .eq (.bool true)), (2, .eq (.bool false))]) (obs := [AV.bool (mode3 == 3) = .bool false, AV.bool (decide (t14 ≥ key2)) = .bool true, AV.bool (mode3 != 1) = .bool false, AV.bool (decide (t14 ≥ key2)) = .bool true, indexAddrA Try.prog an17 (some 17) 30 (.slice .sh (rows3 t12)) (.int .i64 t14) = some ⟨[(17, .imm (enc3 x3_))], []⟩, AV.bool (decide (t14 < t13)) = .bool true]) (by kernel_rfl) ⟨congrArg AV.bool c3_, congrArg AV.bool c1_, congrArg AV.bool c2_, congrArg AV.bool c1_, R30.idxOb (A := an17) hx3_, congrArg AV.bool c0_, trivial⟩ (b17_0 (B17_1 back n) (b17_1 back hback n) n _ _ _ _ _ _ _ _ _ _ h14_)
    ·
      exact run_at (S := sp17_2) (G := []) (sc := [(0, .eq (.bool true)), (1, .core ⟨[(17, .imm (enc3 x3_))], []⟩), (5, .eq (.bool false)), (7, .eq (.bool false))]) (obs := [AV.bool (decide (t14 ≥ key2)) = .bool false, AV.bool (decide (t14 ≥ key2)) = .bool false, indexAddrA Try.prog an17 (some 17) 30 (.slice .sh (rows3 t12)) (.int .i64 t14) = some ⟨[(17, .imm (enc3 x3_))], []⟩, AV.bool (decide (t14 < t13)) = .bool true]) (by kernel_rfl) ⟨congrArg AV.bool c1_, congrArg AV.bool c1_, R30.idxOb (A := an17) hx3_, congrArg AV.bool c0_, trivial⟩ (b17_0 (B17_1 back n) (b17_1 back hback n) n _ _ _ _ _ _ _ _ _ _ h7_)
  ·
    exact run_at (S := sp17_2) (G := []) (sc := [(0, .eq (.bool false))]) (obs := [AV.bool (decide (t14 < t13)) = .bool false]) (by kernel_rfl) ⟨congrArg AV.bool c0_, trivial⟩ (hk_3 _ _ _ h5_)

def L17_2 (k_3 : (List TValue) → TCase → Option ((List TValue) × TCase)) : Nat → Int → Int → (List TValue) → (List Int) → Int → Int → TCase → Option ((List TValue) × TCase)
  | 0, _, _, _, _, _, _, _ => none
  | n + 1, key2, mode3, out9, t12, t13, t14, bc0 => B17_2 k_3 (L17_2 k_3 n) n key2 mode3 out9 t12 t13 t14 bc0
theorem l17_2 (k_3 : (List TValue) → TCase → Option ((List TValue) × TCase)) (hk_3 : ∀ (out9 : (List TValue)) (bc0 : TCase) (r : ((List TValue) × TCase)), k_3 out9 bc0 = some r → At e17 [1, 1, 1] (st17_3 out9 bc0) (res17 r) (outs17 r)) : ∀ (n : Nat) (key2 : Int) (mode3 : Int) (out9 : (List TValue)) (t12 : (List Int)) (t13 : Int) (t14 : Int) (bc0 : TCase) (r : ((List TValue) × TCase)), L17_2 k_3 n key2 mode3 out9 t12 t13 t14 bc0 = some r → At e17 [0, 1, 0, 1, 1] (st17_2 key2 mode3 out9 t12 t13 t14 bc0) (res17 r) (outs17 r)
  | 0, _, _, _, _, _, _, _, _, h => by simp [L17_2] at h
  | n + 1, key2, mode3, out9, t12, t13, t14, bc0, r, h => b17_2 k_3 hk_3 (L17_2 k_3 n) (l17_2 k_3 hk_3 n) n key2 mode3 out9 t12 t13 t14 bc0 r h
def sp17_3 : Stops := []
def B17_3 (n : Nat) (out9 : (List TValue)) (bc0 : TCase) : Option ((List TValue) × TCase) :=
  some (out9, bc0)

theorem b17_3 (n : Nat) (out9 : (List TValue)) (bc0 : TCase) (r : ((List TValue) × TCase)) (h : B17_3 n out9 bc0 = some r) : At e17 [1, 1, 1] (st17_3 out9 bc0) (res17 r) (outs17 r) := by
  unfold B17_3 at h
  have e_ := Option.some.inj h
  subst e_
  exact run_ret (S := sp17_3) (G := []) (sc := []) (obs := []) (by kernel_rfl) trivial

def sp17_4 : Stops := [([0, 1, 0, 1, 1], [(0, .same), (2, .same), (3, .same), (9, .ex 24), (12, .nrm), (13, .same), (14, .same)], [(0, [.nrm, .same])])]
def B17_4 (n : Nat) (c0 : TCase) (kinds1 : (List Int)) (key2 : Int) (mode3 : Int) : Option ((List TValue) × TCase) :=
  L17_2 (B17_3 n) n key2 mode3 [] kinds1 (kinds1.length : Int) 0 c0

theorem b17_4 (n : Nat) (c0 : TCase) (kinds1 : (List Int)) (key2 : Int) (mode3 : Int) (r : ((List TValue) × TCase)) (h : B17_4 n c0 kinds1 key2 mode3 = some r) : At e17 [] (st17_4 c0 kinds1 key2 mode3) (res17 r) (outs17 r) := by
  unfold B17_4 at h
  exact run_at (S := sp17_4) (G := []) (sc := [(3, .eq (.int .i64 (kinds1.length : Int)))]) (obs := [AV.int .i64 ((rows3 kinds1).length : Int) = .int .i64 (kinds1.length : Int)]) (by kernel_rfl) ⟨R30.lenOb kinds1, trivial⟩ (l17_2 (B17_3 n) (b17_3 n) n _ _ _ _ _ _ _ _ h)

def F17 (n : Nat) (c0 : TCase) (kinds1 : (List Int)) (key2 : Int) (mode3 : Int) : Option ((List TValue) × TCase) := B17_4 n c0 kinds1 key2 mode3
theorem ev17 (n : Nat) (c0 : TCase) (kinds1 : (List Int)) (key2 : Int) (mode3 : Int) (r : ((List TValue) × TCase)) (h : F17 n c0 kinds1 key2 mode3 = some r) : CallOK Try.prog ann 17 [.ptr (enc57 c0), .slice .sh (rows3 kinds1), .int .i64 key2, .int .i64 mode3] (res17 r) (outs17 r) :=
  call_of_at (E := e17) (s := st17_4 c0 kinds1 key2 mode3) body17 Try.func17 (by kernel_rfl) (by kernel_rfl) (by kernel_rfl) (by kernel_rfl) (by kernel_rfl) (emptyOK_of (by kernel_rfl)) (by kernel_rfl) (b17_4 n c0 kinds1 key2 mode3 r h)

/-- partsync/partsynclaw05.values -/
noncomputable def e18 : Env := { P := Try.prog, ann := ann, f := 18, fn := Try.f18, ptrs := [0], rets := [(4, .own 24)] }
def st18_0 (out5 : (List TValue)) (t8 : (List Int)) (t9 : Int) (t10 : Int) (bc0 : TCase) : LS := ⟨[(0, .loc 0 0), (5, .slice (.own 24) (rows23 out5)), (8, .slice .sh (rows3 t8)), (9, .int .i64 t9), (10, .int .i64 t10)], [(0, (enc57 bc0))]⟩
def st18_1 (out5 : (List TValue)) (bc0 : TCase) : LS := ⟨[(5, .slice (.own 24) (rows23 out5))], [(0, (enc57 bc0))]⟩
def st18_2 (c0 : TCase) (kinds1 : (List Int)) : LS := ⟨[(0, .loc 0 0), (1, .slice .sh (rows3 kinds1))], [(0, (enc57 c0))]⟩
def sp18_0 : Stops := [([0, 1, 0, 1, 1], [(0, .same), (5, .own 24), (8, .nrm), (9, .same), (10, .same)], [(0, [.nrm, .same])]), ([1, 1, 1], [(5, .own 24)], [(0, [.nrm, .same])])]
def B18_0 (k_1 : (List TValue) → TCase → Option ((List TValue) × TCase)) (back : (List TValue) → (List Int) → Int → Int → TCase → Option ((List TValue) × TCase)) (n : Nat) (out5 : (List TValue)) (t8 : (List Int)) (t9 : Int) (t10 : Int) (bc0 : TCase) : Option ((List TValue) × TCase) :=
  if decide (t10 < t9) then
    (idx t8 t10).bind fun x2_ =>
    (F22 n bc0 x2_).bind fun x8_ =>
    (app out5 [x8_.1]).bind fun x10_ =>
    back x10_ t8 t9 (w64 (t10 + 1)) x8_.2
  else
    k_1 out5 bc0

theorem b18_0 (k_1 : (List TValue) → TCase → Option ((List TValue) × TCase)) (hk_1 : ∀ (out5 : (List TValue)) (bc0 : TCase) (r : ((List TValue) × TCase)), k_1 out5 bc0 = some r → At e18 [1, 1, 1] (st18_1 out5 bc0) (res18 r) (outs18 r)) (back : (List TValue) → (List Int) → Int → Int → TCase → Option ((List TValue) × TCase)) (hback : ∀ (out5 : (List TValue)) (t8 : (List Int)) (t9 : Int) (t10 : Int) (bc0 : TCase) (r : ((List TValue) × TCase)), back out5 t8 t9 t10 bc0 = some r → At e18 [0, 1, 0, 1, 1] (st18_0 out5 t8 t9 t10 bc0) (res18 r) (outs18 r)) (n : Nat) (out5 : (List TValue)) (t8 : (List Int)) (t9 : Int) (t10 : Int) (bc0 : TCase) (r : ((List TValue) × TCase)) (h : B18_0 k_1 back n out5 t8 t9 t10 bc0 = some r) : At e18 [0, 1, 0, 1, 1] (st18_0 out5 t8 t9 t10 bc0) (res18 r) (outs18 r) := by
  unfold B18_0 at h
  refine ite_elim h (fun c0_ h1_ => ?_) (fun c0_ h1_ => ?_)
  ·
    refine bind_elim h1_ (fun x2_ hx2_ h2_ => ?_)
    refine bind_elim h2_ (fun x8_ hx8_ h3_ => ?_)
    refine bind_elim h3_ (fun x10_ hx10_ h4_ => ?_)
    exact run_at (S := sp18_0) (G := []) (sc := [(0, .eq (.bool true)), (0, .core ⟨[(12, .imm (enc3 x2_))], []⟩), (5, .call 22 (res22 x8_) (outs22 x8_)), (1, .core ⟨[(19, .slice (.own 24) (rows23 x10_)), (14, .slice .sh (rows23 out5))], []⟩)]) (obs := [appendA Try.prog an18 19 40 (.tmp 14) (.slice (.own 24) (rows23 out5)) (.slice (.own 24) (rows23 [x8_.1])) (fun _ => none) = some ⟨[(19, .slice (.own 24) (rows23 x10_)), (14, .slice .sh (rows23 out5))], []⟩, CallOK Try.prog ann 22 [.ptr (enc57 bc0), .int .i64 x2_] (res22 x8_) (outs22 x8_), indexAddrA Try.prog an18 (some 12) 30 (.slice .sh (rows3 t8)) (.int .i64 t10) = some ⟨[(12, .imm (enc3 x2_))], []⟩, AV.bool (decide (t10 < t9)) = .bool true]) (by kernel_rfl) ⟨R40.appOb (A := an18) (by decide) hx10_, ev22 n _ _ _ hx8_, R30.idxOb (A := an18) hx2_, congrArg AV.bool c0_, trivial⟩ (hback _ _ _ _ _ _ h4_)
  ·
    exact run_at (S := sp18_0) (G := []) (sc := [(0, .eq (.bool false))]) (obs := [AV.bool (decide (t10 < t9)) = .bool false]) (by kernel_rfl) ⟨congrArg AV.bool c0_, trivial⟩ (hk_1 _ _ _ h1_)

def L18_0 (k_1 : (List TValue) → TCase → Option ((List TValue) × TCase)) : Nat → (List TValue) → (List Int) → Int → Int → TCase → Option ((List TValue) × TCase)
  | 0, _, _, _, _, _ => none
  | n + 1, out5, t8, t9, t10, bc0 => B18_0 k_1 (L18_0 k_1 n) n out5 t8 t9 t10 bc0
theorem l18_0 (k_1 : (List TValue) → TCase → Option ((List TValue) × TCase)) (hk_1 : ∀ (out5 : (List TValue)) (bc0 : TCase) (r : ((List TValue) × TCase)), k_1 out5 bc0 = some r → At e18 [1, 1, 1] (st18_1 out5 bc0) (res18 r) (outs18 r)) : ∀ (n : Nat) (out5 : (List TValue)) (t8 : (List Int)) (t9 : Int) (t10 : Int) (bc0 : TCase) (r : ((List TValue) × TCase)), L18_0 k_1 n out5 t8 t9 t10 bc0 = some r → At e18 [0, 1, 0, 1, 1] (st18_0 out5 t8 t9 t10 bc0) (res18 r) (outs18 r)
  | 0, _, _, _, _, _, _, h => by simp [L18_0] at h
  | n + 1, out5, t8, t9, t10, bc0, r, h => b18_0 k_1 hk_1 (L18_0 k_1 n) (l18_0 k_1 hk_1 n) n out5 t8 t9 t10 bc0 r h
def sp18_1 : Stops := []
def B18_1 (n : Nat) (out5 : (List TValue)) (bc0 : TCase) : Option ((List TValue) × TCase) :=
  some (out5, bc0)

theorem b18_1 (n : Nat) (out5 : (List TValue)) (bc0 : TCase) (r : ((List TValue) × TCase)) (h : B18_1 n out5 bc0 = some r) : At e18 [1, 1, 1] (st18_1 out5 bc0) (res18 r) (outs18 r) := by
  unfold B18_1 at h
  have e_ := Option.some.inj h
  subst e_
  exact run_ret (S := sp18_1) (G := []) (sc := []) (obs := []) (by kernel_rfl) trivial

def sp18_2 : Stops := [([0, 1, 0, 1, 1], [(0, .same), (5, .own 24), (8, .nrm), (9, .same), (10, .same)], [(0, [.nrm, .same])])]
def B18_2 (n : Nat) (c0 : TCase) (kinds1 : (List Int)) : Option ((List TValue) × TCase) :=
  L18_0 (B18_1 n) n [] kinds1 (kinds1.length : Int) 0 c0

theorem b18_2 (n : Nat) (c0 : TCase) (kinds1 : (List Int)) (r : ((List TValue) × TCase)) (h : B18_2 n c0 kinds1 = some r) : At e18 [] (st18_2 c0 kinds1) (res18 r) (outs18 r) := by
  unfold B18_2 at h
  exact run_at (S := sp18_2) (G := []) (sc := [(3, .eq (.int .i64 (kinds1.length : Int)))]) (obs := [AV.int .i64 ((rows3 kinds1).length : Int) = .int .i64 (kinds1.length : Int)]) (by kernel_rfl) ⟨R30.lenOb kinds1, trivial⟩ (l18_0 (B18_1 n) (b18_1 n) n _ _ _ _ _ _ h)

def F18 (n : Nat) (c0 : TCase) (kinds1 : (List Int)) : Option ((List TValue) × TCase) := B18_2 n c0 kinds1
theorem ev18 (n : Nat) (c0 : TCase) (kinds1 : (List Int)) (r : ((List TValue) × TCase)) (h : F18 n c0 kinds1 = some r) : CallOK Try.prog ann 18 [.ptr (enc57 c0), .slice .sh (rows3 kinds1)] (res18 r) (outs18 r) :=
  call_of_at (E := e18) (s := st18_2 c0 kinds1) body18 Try.func18 (by kernel_rfl) (by kernel_rfl) (by kernel_rfl) (by kernel_rfl) (by kernel_rfl) (emptyOK_of (by kernel_rfl)) (by kernel_rfl) (b18_2 n c0 kinds1 r h)

/-- partsync/partsyncref01.Compare -/
noncomputable def e50 : Env := { P := Try.prog, ann := ann, f := 50, fn := Try.f50, ptrs := [], rets := [(4, .same)] }
def st50_0 (a0 : TValue) (b1 : TValue) : LS := ⟨[(0, .agg (enc23 a0)), (1, .agg (enc23 b1))], []⟩
def sp50_0 : Stops := []
def B50_0 (n : Nat) (a0 : TValue) (b1 : TValue) : Option Int :=
  if decide (a0.fKind < b1.fKind) then
    some (-1)
  else
    if decide (a0.fKind > b1.fKind) then
      some 1
    else
      if decide (a0.fInt < b1.fInt) then
        some (-1)
      else
        if decide (a0.fInt > b1.fInt) then
          some 1
        else
          if Op.bytesLess a0.fText.toList b1.fText.toList then
            some (-1)
          else
            if !(Op.bytesLess a0.fText.toList b1.fText.toList || decide (a0.fText = b1.fText)) then
              some 1
            else
              some 0

theorem b50_0 (n : Nat) (a0 : TValue) (b1 : TValue) (r : Int) (h : B50_0 n a0 b1 = some r) : At e50 [] (st50_0 a0 b1) (res50 r) (outs50 r) := by
  unfold B50_0 at h
  refine ite_elim h (fun c0_ h1_ => ?_) (fun c0_ h1_ => ?_)
  ·
    have e_ := Option.some.inj h1_
    subst e_
    exact run_ret (S := sp50_0) (G := []) (sc := [(7, .eq (.bool true))]) (obs := [AV.bool (decide (a0.fKind < b1.fKind)) = .bool true]) (by kernel_rfl) ⟨congrArg AV.bool c0_, trivial⟩
  ·
    refine ite_elim h1_ (fun c1_ h2_ => ?_) (fun c1_ h2_ => ?_)
    ·
      have e_ := Option.some.inj h2_
      subst e_
      exact run_ret (S := sp50_0) (G := []) (sc := [(7, .eq (.bool false)), (5, .eq (.bool true))]) (obs := [AV.bool (decide (a0.fKind > b1.fKind)) = .bool true, AV.bool (decide (a0.fKind < b1.fKind)) = .bool false]) (by kernel_rfl) ⟨congrArg AV.bool c1_, congrArg AV.bool c0_, trivial⟩
    ·
      refine ite_elim h2_ (fun c2_ h3_ => ?_) (fun c2_ h3_ => ?_)
      ·
        have e_ := Option.some.inj h3_
        subst e_
        exact run_ret (S := sp50_0) (G := []) (sc := [(7, .eq (.bool false)), (5, .eq (.bool false)), (5, .eq (.bool true))]) (obs := [AV.bool (decide (a0.fInt < b1.fInt)) = .bool true, AV.bool (decide (a0.fKind > b1.fKind)) = .bool false, AV.bool (decide (a0.fKind < b1.fKind)) = .bool false]) (by kernel_rfl) ⟨congrArg AV.bool c2_, congrArg AV.bool c1_, congrArg AV.bool c0_, trivial⟩
      ·
        refine ite_elim h3_ (fun c3_ h4_ => ?_) (fun c3_ h4_ => ?_)
        ·
          have e_ := Option.some.inj h4_
          subst e_
          exact run_ret (S := sp50_0) (G := []) (sc := [(7, .eq (.bool false)), (5, .eq (.bool false)), (5, .eq (.bool false)), (5, .eq (.bool true))]) (obs := [AV.bool (decide (a0.fInt > b1.fInt)) = .bool true, AV.bool (decide (a0.fInt < b1.fInt)) = .bool false, AV.bool (decide (a0.fKind > b1.fKind)) = .bool false, AV.bool (decide (a0.fKind < b1.fKind)) = .bool false]) (by kernel_rfl) ⟨congrArg AV.bool c3_, congrArg AV.bool c2_, congrArg AV.bool c1_, congrArg AV.bool c0_, trivial⟩
        ·
          refine ite_elim h4_ (fun c4_ h5_ => ?_) (fun c4_ h5_ => ?_)
          ·
            have e_ := Option.some.inj h5_
            subst e_
            exact run_ret (S := sp50_0) (G := []) (sc := [(7, .eq (.bool false)), (5, .eq (.bool false)), (5, .eq (.bool false)), (5, .eq (.bool false)), (5, .eq (.bool true))]) (obs := [AV.bool (Op.bytesLess a0.fText.toList b1.fText.toList) = .bool true, AV.bool (decide (a0.fInt > b1.fInt)) = .bool false, AV.bool (decide (a0.fInt < b1.fInt)) = .bool false, AV.bool (decide (a0.fKind > b1.fKind)) = .bool false, AV.bool (decide (a0.fKind < b1.fKind)) = .bool false]) (by kernel_rfl) ⟨congrArg AV.bool c4_, congrArg AV.bool c3_, congrArg AV.bool c2_, congrArg AV.bool c1_, congrArg AV.bool c0_, trivial⟩
          ·
            refine ite_elim h5_ (fun c5_ h6_ => ?_) (fun c5_ h6_ => ?_)
            ·
              have e_ := Option.some.inj h6_
              subst e_
              exact run_ret (S := sp50_0) (G := []) (sc := [(7, .eq (.bool false)), (5, .eq (.bool false)), (5, .eq (.bool false)), (5, .eq (.bool false)), (5, .eq (.bool false)), (5, .eq (.bool true))]) (obs := [AV.bool (!(Op.bytesLess a0.fText.toList b1.fText.toList || decide (a0.fText = b1.fText))) = .bool true, AV.bool (Op.bytesLess a0.fText.toList b1.fText.toList) = .bool false, AV.bool (decide (a0.fInt > b1.fInt)) = .bool false, AV.bool (decide (a0.fInt < b1.fInt)) = .bool false, AV.bool (decide (a0.fKind > b1.fKind)) = .bool false, AV.bool (decide (a0.fKind < b1.fKind)) = .bool false]) (by kernel_rfl) ⟨congrArg AV.bool c5_, congrArg AV.bool c4_, congrArg AV.bool c3_, congrArg AV.bool c2_, congrArg AV.bool c1_, congrArg AV.bool c0_, trivial⟩
            ·
              have e_ := Option.some.inj h6_
              subst e_
              exact run_ret (S := sp50_0) (G := []) (sc := [(7, .eq (.bool false)), (5, .eq (.bool false)), (5, .eq (.bool false)), (5, .eq (.bool false)), (5, .eq (.bool false)), (5, .eq (.bool false))]) (obs := [AV.bool (!(Op.bytesLess a0.fText.toList b1.fText.toList || decide (a0.fText = b1.fText))) = .bool false, AV.bool (Op.bytesLess a0.fText.toList b1.fText.toList) = .bool false, AV.bool (decide (a0.fInt > b1.fInt)) = .bool false, AV.bool (decide (a0.fInt < b1.fInt)) = .bool false, AV.bool (decide (a0.fKind > b1.fKind)) = .bool false, AV.bool (decide (a0.fKind < b1.fKind)) = .bool false]) (by kernel_rfl) ⟨congrArg AV.bool c5_, congrArg AV.bool c4_, congrArg AV.bool c3_, congrArg AV.bool c2_, congrArg AV.bool c1_, congrArg AV.bool c0_, trivial⟩

def F50 (n : Nat) (a0 : TValue) (b1 : TValue) : Option Int := B50_0 n a0 b1
theorem ev50 (n : Nat) (a0 : TValue) (b1 : TValue) (r : Int) (h : F50 n a0 b1 = some r) : CallOK Try.prog ann 50 [.agg (enc23 a0), .agg (enc23 b1)] (res50 r) (outs50 r) :=
  call_of_at (E := e50) (s := st50_0 a0 b1) body50 Try.func50 (by kernel_rfl) (by kernel_rfl) (by kernel_rfl) (by kernel_rfl) (by kernel_rfl) (emptyOK_of (by kernel_rfl)) (by kernel_rfl) (b50_0 n a0 b1 r h)

/-- partsync/partsyncref05.Compares -/
noncomputable def e24 : Env := { P := Try.prog, ann := ann, f := 24, fn := Try.f24, ptrs := [], rets := [(6, .same)] }
def st24_0 (cmp0 : Int) (a1 : TValue) (b2 : TValue) : LS := ⟨[(0, .int .i64 cmp0), (1, .agg (enc23 a1)), (2, .agg (enc23 b2))], []⟩
def sp24_0 : Stops := []
def B24_0 (n : Nat) (cmp0 : Int) (a1 : TValue) (b2 : TValue) : Option Bool :=
  (F49 n a1).bind fun x5_ =>
  if !x5_ then
    some false
  else
    (F49 n b2).bind fun x9_ =>
    if !x9_ then
      some false
    else
      if a1.fKind != b2.fKind then
        some false
      else
        (F50 n a1 b2).bind fun x21_ =>
        if cmp0 == 1 then
          some (x21_ == 0)
        else
          if cmp0 == 2 then
            some (x21_ != 0)
          else
            if cmp0 == 3 then
              some (decide (x21_ < 0))
            else
              if cmp0 == 4 then
                some (decide (x21_ ≤ 0))
              else
                if cmp0 == 5 then
                  some (decide (x21_ > 0))
                else
                  if cmp0 == 6 then
                    some (decide (x21_ ≥ 0))
                  else
                    some false

theorem b24_0 (n : Nat) (cmp0 : Int) (a1 : TValue) (b2 : TValue) (r : Bool) (h : B24_0 n cmp0 a1 b2 = some r) : At e24 [] (st24_0 cmp0 a1 b2) (res24 r) (outs24 r) := by
  unfold B24_0 at h
  refine bind_elim h (fun x5_ hx5_ h1_ => ?_)
  refine ite_elim h1_ (fun c0_ h2_ => ?_) (fun c0_ h2_ => ?_)
  ·
    have e_ := Option.some.inj h2_
    subst e_
    exact run_ret (S := sp24_0) (G := []) (sc := [(4, .call 49 (res49 x5_) (outs49 x5_)), (0, .eq (.bool true))]) (obs := [AV.bool (!x5_) = .bool true, CallOK Try.prog ann 49 [.agg (enc23 a1)] (res49 x5_) (outs49 x5_)]) (by kernel_rfl) ⟨congrArg AV.bool c0_, ev49 n _ _ hx5_, trivial⟩
  ·
    refine bind_elim h2_ (fun x9_ hx9_ h3_ => ?_)
    refine ite_elim h3_ (fun c1_ h4_ => ?_) (fun c1_ h4_ => ?_)
    ·
      have e_ := Option.some.inj h4_
      subst e_
      exact run_ret (S := sp24_0) (G := []) (sc := [(4, .call 49 (res49 x5_) (outs49 x5_)), (0, .eq (.bool false)), (2, .call 49 (res49 x9_) (outs49 x9_)), (0, .eq (.bool true))]) (obs := [AV.bool (!x9_) = .bool true, CallOK Try.prog ann 49 [.agg (enc23 b2)] (res49 x9_) (outs49 x9_), AV.bool (!x5_) = .bool false, CallOK Try.prog ann 49 [.agg (enc23 a1)] (res49 x5_) (outs49 x5_)]) (by kernel_rfl) ⟨congrArg AV.bool c1_, ev49 n _ _ hx9_, congrArg AV.bool c0_, ev49 n _ _ hx5_, trivial⟩
    ·
      refine ite_elim h4_ (fun c2_ h5_ => ?_) (fun c2_ h5_ => ?_)
      ·
        have e_ := Option.some.inj h5_
        subst e_
        exact run_ret (S := sp24_0) (G := []) (sc := [(4, .call 49 (res49 x5_) (outs49 x5_)), (0, .eq (.bool false)), (2, .call 49 (res49 x9_) (outs49 x9_)), (0, .eq (.bool false)), (6, .eq (.bool true))]) (obs := [AV.bool (a1.fKind != b2.fKind) = .bool true, AV.bool (!x9_) = .bool false, CallOK Try.prog ann 49 [.agg (enc23 b2)] (res49 x9_) (outs49 x9_), AV.bool (!x5_) = .bool false, CallOK Try.prog ann 49 [.agg (enc23 a1)] (res49 x5_) (outs49 x5_)]) (by kernel_rfl) ⟨congrArg AV.bool c2_, congrArg AV.bool c1_, ev49 n _ _ hx9_, congrArg AV.bool c0_, ev49 n _ _ hx5_, trivial⟩
      ·
        refine bind_elim h5_ (fun x21_ hx21_ h6_ => ?_)
        refine ite_elim h6_ (fun c3_ h7_ => ?_) (fun c3_ h7_ => ?_)
        ·
          have e_ := Option.some.inj h7_
          subst e_
          exact run_ret (S := sp24_0) (G := []) (sc := [(4, .call 49 (res49 x5_) (outs49 x5_)), (0, .eq (.bool false)), (2, .call 49 (res49 x9_) (outs49 x9_)), (0, .eq (.bool false)), (6, .eq (.bool false)), (3, .call 50 (res50 x21_) (outs50 x21_)), (2, .eq (.bool true))]) (obs := [AV.bool (cmp0 == 1) = .bool true, CallOK Try.prog ann 50 [.agg (enc23 a1), .agg (enc23 b2)] (res50 x21_) (outs50 x21_), AV.bool (a1.fKind != b2.fKind) = .bool false, AV.bool (!x9_) = .bool false, CallOK Try.prog ann 49 [.agg (enc23 b2)] (res49 x9_) (outs49 x9_), AV.bool (!x5_) = .bool false, CallOK Try.prog ann 49 [.agg (enc23 a1)] (res49 x5_) (outs49 x5_)]) (by kernel_rfl) ⟨congrArg AV.bool c3_, ev50 n _ _ _ hx21_, congrArg AV.bool c2_, congrArg AV.bool c1_, ev49 n _ _ hx9_, congrArg AV.bool c0_, ev49 n _ _ hx5_, trivial⟩
        ·
          refine ite_elim h7_ (fun c4_ h8_ => ?_) (fun c4_ h8_ => ?_)
          ·
            have e_ := Option.some.inj h8_
            subst e_
            exact run_ret (S := sp24_0) (G := []) (sc := [(4, .call 49 (res49 x5_) (outs49 x5_)), (0, .eq (.bool false)), (2, .call 49 (res49 x9_) (outs49 x9_)), (0, .eq (.bool false)), (6, .eq (.bool false)), (3, .call 50 (res50 x21_) (outs50 x21_)), (2, .eq (.bool false)), (1, .eq (.bool true))]) (obs := [AV.bool (cmp0 == 2) = .bool true, AV.bool (cmp0 == 1) = .bool false, CallOK Try.prog ann 50 [.agg (enc23 a1), .agg (enc23 b2)] (res50 x21_) (outs50 x21_), AV.bool (a1.fKind != b2.fKind) = .bool false, AV.bool (!x9_) = .bool false, CallOK Try.prog ann 49 [.agg (enc23 b2)] (res49 x9_) (outs49 x9_), AV.bool (!x5_) = .bool false, CallOK Try.prog ann 49 [.agg (enc23 a1)] (res49 x5_) (outs49 x5_)]) (by kernel_rfl) ⟨congrArg AV.bool c4_, congrArg AV.bool c3_, ev50 n _ _ _ hx21_, congrArg AV.bool c2_, congrArg AV.bool c1_, ev49 n _ _ hx9_, congrArg AV.bool c0_, ev49 n _ _ hx5_, trivial⟩
          ·
            refine ite_elim h8_ (fun c5_ h9_ => ?_) (fun c5_ h9_ => ?_)
            ·
              have e_ := Option.some.inj h9_
              subst e_
              exact run_ret (S := sp24_0) (G := []) (sc := [(4, .call 49 (res49 x5_) (outs49 x5_)), (0, .eq (.bool false)), (2, .call 49 (res49 x9_) (outs49 x9_)), (0, .eq (.bool false)), (6, .eq (.bool false)), (3, .call 50 (res50 x21_) (outs50 x21_)), (2, .eq (.bool false)), (1, .eq (.bool false)), (1, .eq (.bool true))]) (obs := [AV.bool (cmp0 == 3) = .bool true, AV.bool (cmp0 == 2) = .bool false, AV.bool (cmp0 == 1) = .bool false, CallOK Try.prog ann 50 [.agg (enc23 a1), .agg (enc23 b2)] (res50 x21_) (outs50 x21_), AV.bool (a1.fKind != b2.fKind) = .bool false, AV.bool (!x9_) = .bool false, CallOK Try.prog ann 49 [.agg (enc23 b2)] (res49 x9_) (outs49 x9_), AV.bool (!x5_) = .bool false, CallOK Try.prog ann 49 [.agg (enc23 a1)] (res49 x5_) (outs49 x5_)]) (by kernel_rfl) ⟨congrArg AV.bool c5_, congrArg AV.bool c4_, congrArg AV.bool c3_, ev50 n _ _ _ hx21_, congrArg AV.bool c2_, congrArg AV.bool c1_, ev49 n _ _ hx9_, congrArg AV.bool c0_, ev49 n _ _ hx5_, trivial⟩
            ·
              refine ite_elim h9_ (fun c6_ h10_ => ?_) (fun c6_ h10_ => ?_)
              ·
                have e_ := Option.some.inj h10_
                subst e_
                exact run_ret (S := sp24_0) (G := []) (sc := [(4, .call 49 (res49 x5_) (outs49 x5_)), (0, .eq (.bool false)), (2, .call 49 (res49 x9_) (outs49 x9_)), (0, .eq (.bool false)), (6, .eq (.bool false)), (3, .call 50 (res50 x21_) (outs50 x21_)), (2, .eq (.bool false)), (1, .eq (.bool false)), (1, .eq (.bool false)), (1, .eq (.bool true))]) (obs := [AV.bool (cmp0 == 4) = .bool true, AV.bool (cmp0 == 3) = .bool false, AV.bool (cmp0 == 2) = .bool false, AV.bool (cmp0 == 1) = .bool false, CallOK Try.prog ann 50 [.agg (enc23 a1), .agg (enc23 b2)] (res50 x21_) (outs50 x21_), AV.bool (a1.fKind != b2.fKind) = .bool false, AV.bool (!x9_) = .bool false, CallOK Try.prog ann 49 [.agg (enc23 b2)] (res49 x9_) (outs49 x9_), AV.bool (!x5_) = .bool false, CallOK Try.prog ann 49 [.agg (enc23 a1)] (res49 x5_) (outs49 x5_)]) (by kernel_rfl) ⟨congrArg AV.bool c6_, congrArg AV.bool c5_, congrArg AV.bool c4_, congrArg AV.bool c3_, ev50 n _ _ _ hx21_, congrArg AV.bool c2_, congrArg AV.bool c1_, ev49 n _ _ hx9_, congrArg AV.bool c0_, ev49 n _ _ hx5_, trivial⟩
              ·
                refine ite_elim h10_ (fun c7_ h11_ => ?_) (fun c7_ h11_ => ?_)
                ·
                  have e_ := Option.some.inj h11_
                  subst e_
                  exact run_ret (S := sp24_0) (G := []) (sc := [(4, .call 49 (res49 x5_) (outs49 x5_)), (0, .eq (.bool false)), (2, .call 49 (res49 x9_) (outs49 x9_)), (0, .eq (.bool false)), (6, .eq (.bool false)), (3, .call 50 (res50 x21_) (outs50 x21_)), (2, .eq (.bool false)), (1, .eq (.bool false)), (1, .eq (.bool false)), (1, .eq (.bool false)), (1, .eq (.bool true))]) (obs := [AV.bool (cmp0 == 5) = .bool true, AV.bool (cmp0 == 4) = .bool false, AV.bool (cmp0 == 3) = .bool false, AV.bool (cmp0 == 2) = .bool false, AV.bool (cmp0 == 1) = .bool false, CallOK Try.prog ann 50 [.agg (enc23 a1), .agg (enc23 b2)] (res50 x21_) (outs50 x21_), AV.bool (a1.fKind != b2.fKind) = .bool false, AV.bool (!x9_) = .bool false, CallOK Try.prog ann 49 [.agg (enc23 b2)] (res49 x9_) (outs49 x9_), AV.bool (!x5_) = .bool false, CallOK Try.prog ann 49 [.agg (enc23 a1)] (res49 x5_) (outs49 x5_)]) (by kernel_rfl) ⟨congrArg AV.bool c7_, congrArg AV.bool c6_, congrArg AV.bool c5_, congrArg AV.bool c4_, congrArg AV.bool c3_, ev50 n _ _ _ hx21_, congrArg AV.bool c2_, congrArg AV.bool c1_, ev49 n _ _ hx9_, congrArg AV.bool c0_, ev49 n _ _ hx5_, trivial⟩
                ·
                  refine ite_elim h11_ (fun c8_ h12_ => ?_) (fun c8_ h12_ => ?_)
                  ·
                    have e_ := Option.some.inj h12_
                    subst e_
                    exact run_ret (S := sp24_0) (G := []) (sc := [(4, .call 49 (res49 x5_) (outs49 x5_)), (0, .eq (.bool false)), (2, .call 49 (res49 x9_) (outs49 x9_)), (0, .eq (.bool false)), (6, .eq (.bool false)), (3, .call 50 (res50 x21_) (outs50 x21_)), (2, .eq (.bool false)), (1, .eq (.bool false)), (1, .eq (.bool false)), (1, .eq (.bool false)), (1, .eq (.bool false)), (1, .eq (.bool true))]) (obs := [AV.bool (cmp0 == 6) = .bool true, AV.bool (cmp0 == 5) = .bool false, AV.bool (cmp0 == 4) = .bool false, AV.bool (cmp0 == 3) = .bool false, AV.bool (cmp0 == 2) = .bool false, AV.bool (cmp0 == 1) = .bool false, CallOK Try.prog ann 50 [.agg (enc23 a1), .agg (enc23 b2)] (res50 x21_) (outs50 x21_), AV.bool (a1.fKind != b2.fKind) = .bool false, AV.bool (!x9_) = .bool false, CallOK Try.prog ann 49 [.agg (enc23 b2)] (res49 x9_) (outs49 x9_), AV.bool (!x5_) = .bool false, CallOK Try.prog ann 49 [.agg (enc23 a1)] (res49 x5_) (outs49 x5_)]) (by kernel_rfl) ⟨congrArg AV.bool c8_, congrArg AV.bool c7_, congrArg AV.bool c6_, congrArg AV.bool c5_, congrArg AV.bool c4_, congrArg AV.bool c3_, ev50 n _ _ _ hx21_, congrArg AV.bool c2_, congrArg AV.bool c1_, ev49 n _ _ hx9_, congrArg AV.bool c0_, ev49 n _ _ hx5_, trivial⟩
                  ·
                    have e_ := Option.some.inj h12_
                    subst e_
                    exact run_ret (S := sp24_0) (G := []) (sc := [(4, .call 49 (res49 x5_) (outs49 x5_)), (0, .eq (.bool false)), (2, .call 49 (res49 x9_) (outs49 x9_)), (0, .eq (.bool false)), (6, .eq (.bool false)), (3, .call 50 (res50 x21_) (outs50 x21_)), (2, .eq (.bool false)), (1, .eq (.bool false)), (1, .eq (.bool false)), (1, .eq (.bool false)), (1, .eq (.bool false)), (1, .eq (.bool false))]) (obs := [AV.bool (cmp0 == 6) = .bool false, AV.bool (cmp0 == 5) = .bool false, AV.bool (cmp0 == 4) = .bool false, AV.bool (cmp0 == 3) = .bool false, AV.bool (cmp0 == 2) = .bool false, AV.bool (cmp0 == 1) = .bool false, CallOK Try.prog ann 50 [.agg (enc23 a1), .agg (enc23 b2)] (res50 x21_) (outs50 x21_), AV.bool (a1.fKind != b2.fKind) = .bool false, AV.bool (!x9_) = .bool false, CallOK Try.prog ann 49 [.agg (enc23 b2)] (res49 x9_) (outs49 x9_), AV.bool (!x5_) = .bool false, CallOK Try.prog ann 49 [.agg (enc23 a1)] (res49 x5_) (outs49 x5_)]) (by kernel_rfl) ⟨congrArg AV.bool c8_, congrArg AV.bool c7_, congrArg AV.bool c6_, congrArg AV.bool c5_, congrArg AV.bool c4_, congrArg AV.bool c3_, ev50 n _ _ _ hx21_, congrArg AV.bool c2_, congrArg AV.bool c1_, ev49 n _ _ hx9_, congrArg AV.bool c0_, ev49 n _ _ hx5_, trivial⟩

def F24 (n : Nat) (cmp0 : Int) (a1 : TValue) (b2 : TValue) : Option Bool := B24_0 n cmp0 a1 b2
theorem ev24 (n : Nat) (cmp0 : Int) (a1 : TValue) (b2 : TValue) (r : Bool) (h : F24 n cmp0 a1 b2 = some r) : CallOK Try.prog ann 24 [.int .i64 cmp0, .agg (enc23 a1), .agg (enc23 b2)] (res24 r) (outs24 r) :=
  call_of_at (E := e24) (s := st24_0 cmp0 a1 b2) body24 Try.func24 (by kernel_rfl) (by kernel_rfl) (by kernel_rfl) (by kernel_rfl) (by kernel_rfl) (emptyOK_of (by kernel_rfl)) (by kernel_rfl) (b24_0 n cmp0 a1 b2 r h)

/-- partsync/partsyncref05.denoted -/
noncomputable def e46 : Env := { P := Try.prog, ann := ann, f := 46, fn := Try.f46, ptrs := [], rets := [(6, .same), (7, .same)] }
def st46_0 (params2 : (List TValue)) (t29 : Bool) (bo3 : TOperand) : LS := ⟨[(2, .slice .sh (rows23 params2)), (3, .loc 3 0), (6, .loc 6 0), (29, .bool t29)], [(3, (enc25 bo3)), (6, [.int .i64 0, .int .i64 0, .str ByteArray.empty])]⟩
def st46_1 (o0 : TOperand) (row1 : (List TValue)) (params2 : (List TValue)) : LS := ⟨[(0, .agg (enc25 o0)), (1, .slice .sh (rows23 row1)), (2, .slice .sh (rows23 params2))], []⟩
def sp46_0 : Stops := []
def B46_0 (n : Nat) (params2 : (List TValue)) (t29 : Bool) (bo3 : TOperand) : Option (TValue × Bool) :=
  if t29 then
    (idx params2 bo3.fIndex).bind fun x4_ =>
    some (x4_, true)
  else
    if bo3.fKind == 3 then
      some (bo3.fValue, true)
    else
      some ((TValue.mk 0 0 ByteArray.empty), false)

theorem b46_0 (n : Nat) (params2 : (List TValue)) (t29 : Bool) (bo3 : TOperand) (r : (TValue × Bool)) (h : B46_0 n params2 t29 bo3 = some r) : At e46 [1, 1, 1, 0, 0, 1] (st46_0 params2 t29 bo3) (res46 r) (outs46 r) := by
  unfold B46_0 at h
  refine ite_elim h (fun c0_ h1_ => ?_) (fun c0_ h1_ => ?_)
  ·
    subst c0_
    refine bind_elim h1_ (fun x4_ hx4_ h2_ => ?_)
    have e_ := Option.some.inj h2_
    subst e_
    exact run_ret (S := sp46_0) (G := []) (sc := [(3, .core ⟨[(48, .imm (enc23 x4_))], []⟩)]) (obs := [indexAddrA Try.prog an46 (some 48) 40 (.slice .sh (rows23 params2)) (.int .i64 bo3.fIndex) = some ⟨[(48, .imm (enc23 x4_))], []⟩]) (by kernel_rfl) ⟨R40.idxOb (A := an46) hx4_, trivial⟩
  ·
    subst c0_
    refine ite_elim h1_ (fun c1_ h3_ => ?_) (fun c1_ h3_ => ?_)
    ·
      have e_ := Option.some.inj h3_
      subst e_
      exact run_ret (S := sp46_0) (G := []) (sc := [(2, .eq (.bool true))]) (obs := [AV.bool (bo3.fKind == 3) = .bool true]) (by kernel_rfl) ⟨congrArg AV.bool c1_, trivial⟩
    ·
      have e_ := Option.some.inj h3_
      subst e_
      exact run_ret (S := sp46_0) (G := []) (sc := [(2, .eq (.bool false))]) (obs := [AV.bool (bo3.fKind == 3) = .bool false]) (by kernel_rfl) ⟨congrArg AV.bool c1_, trivial⟩

def sp46_1 : Stops := [([1, 1, 1, 0, 0, 1], [(2, .nrm), (3, .same), (6, .same), (29, .same)], [(3, [.same, .same, .same, .same, .same]), (6, [])])]
def B46_1 (n : Nat) (o0 : TOperand) (row1 : (List TValue)) (params2 : (List TValue)) : Option (TValue × Bool) :=
  if o0.fKind == 1 then
    if decide (o0.fIndex ≥ 0) then
      if decide (o0.fIndex < (row1.length : Int)) then
        (idx row1 o0.fIndex).bind fun x23_ =>
        some (x23_, true)
      else
        if o0.fKind == 2 then
          B46_0 n params2 (decide (o0.fIndex < (params2.length : Int))) o0
        else
          B46_0 n params2 false o0
    else
      if o0.fKind == 2 then
        B46_0 n params2 false o0
      else
        B46_0 n params2 false o0
  else
    if o0.fKind == 2 then
      if decide (o0.fIndex ≥ 0) then
        B46_0 n params2 (decide (o0.fIndex < (params2.length : Int))) o0
      else
        B46_0 n params2 false o0
    else
      B46_0 n params2 false o0

theorem b46_1 (n : Nat) (o0 : TOperand) (row1 : (List TValue)) (params2 : (List TValue)) (r : (TValue × Bool)) (h : B46_1 n o0 row1 params2 = some r) : At e46 [] (st46_1 o0 row1 params2) (res46 r) (outs46 r) := by
  unfold B46_1 at h
  refine ite_elim h (fun c0_ h4_ => ?_) (fun c0_ h4_ => ?_)
  ·
    refine ite_elim h4_ (fun c1_ h5_ => ?_) (fun c1_ h5_ => ?_)
    ·
      refine ite_elim h5_ (fun c2_ h6_ => ?_) (fun c2_ h6_ => ?_)
      ·
        refine bind_elim h6_ (fun x23_ hx23_ h7_ => ?_)
        have e_ := Option.some.inj h7_
        subst e_
        exact run_ret (S := sp46_1) (G := []) (sc := [(5, .eq (.bool true)), (3, .eq (.bool true)), (5, .eq (.int .i64 (row1.length : Int))), (0, .eq (.bool true)), (5, .core ⟨[(27, .imm (enc23 x23_))], []⟩)]) (obs := [indexAddrA Try.prog an46 (some 27) 41 (.slice .sh (rows23 row1)) (.int .i64 o0.fIndex) = some ⟨[(27, .imm (enc23 x23_))], []⟩, AV.bool (decide (o0.fIndex < (row1.length : Int))) = .bool true, AV.int .i64 ((rows23 row1).length : Int) = .int .i64 (row1.length : Int), AV.bool (decide (o0.fIndex ≥ 0)) = .bool true, AV.bool (o0.fKind == 1) = .bool true]) (by kernel_rfl) ⟨R41.idxOb (A := an46) hx23_, congrArg AV.bool c2_, R41.lenOb row1, congrArg AV.bool c1_, congrArg AV.bool c0_, trivial⟩
      ·
        refine ite_elim h6_ (fun c3_ h8_ => ?_) (fun c3_ h8_ => ?_)
        ·
          exact run_at (S := sp46_1) (G := []) (sc := [(5, .eq (.bool true)), (3, .eq (.bool true)), (5, .eq (.int .i64 (row1.length : Int))), (0, .eq (.bool false)), (4, .eq (.bool true)), (3, .eq (.bool true)), (5, .eq (.int .i64 (params2.length : Int)))]) (obs := [AV.int .i64 ((rows23 params2).length : Int) = .int .i64 (params2.length : Int), AV.bool (decide (o0.fIndex ≥ 0)) = .bool true, AV.bool (o0.fKind == 2) = .bool true, AV.bool (decide (o0.fIndex < (row1.length : Int))) = .bool false, AV.int .i64 ((rows23 row1).length : Int) = .int .i64 (row1.length : Int), AV.bool (decide (o0.fIndex ≥ 0)) = .bool true, AV.bool (o0.fKind == 1) = .bool true]) (by kernel_rfl) ⟨R40.lenOb params2, congrArg AV.bool c1_, congrArg AV.bool c3_, congrArg AV.bool c2_, R41.lenOb row1, congrArg AV.bool c1_, congrArg AV.bool c0_, trivial⟩ (b46_0 n _ _ _ _ h8_)
        ·
          exact run_at (S := sp46_1) (G := []) (sc := [(5, .eq (.bool true)), (3, .eq (.bool true)), (5, .eq (.int .i64 (row1.length : Int))), (0, .eq (.bool false)), (4, .eq (.bool false))]) (obs := [AV.bool (o0.fKind == 2) = .bool false, AV.bool (decide (o0.fIndex < (row1.length : Int))) = .bool false, AV.int .i64 ((rows23 row1).length : Int) = .int .i64 (row1.length : Int), AV.bool (decide (o0.fIndex ≥ 0)) = .bool true, AV.bool (o0.fKind == 1) = .bool true]) (by kernel_rfl) ⟨congrArg AV.bool c3_, congrArg AV.bool c2_, R41.lenOb row1, congrArg AV.bool c1_, congrArg AV.bool c0_, trivial⟩ (b46_0 n _ _ _ _ h8_)
    ·
      refine ite_elim h5_ (fun c2_ h9_ => ?_) (fun c2_ h9_ => ?_)
      ·
        exact run_at (S := sp46_1) (G := []) (sc := [(5, .eq (.bool true)), (3, .eq (.bool false)), (6, .eq (.bool true)), (3, .eq (.bool false))]) (obs := [AV.bool (decide (o0.fIndex ≥ 0)) = .bool false, AV.bool (o0.fKind == 2) = .bool true, AV.bool (decide (o0.fIndex ≥ 0)) = .bool false, AV.bool (o0.fKind == 1) = .bool true]) (by kernel_rfl) ⟨congrArg AV.bool c1_, congrArg AV.bool c2_, congrArg AV.bool c1_, congrArg AV.bool c0_, trivial⟩ (b46_0 n _ _ _ _ h9_)
      ·
        exact run_at (S := sp46_1) (G := []) (sc := [(5, .eq (.bool true)), (3, .eq (.bool false)), (6, .eq (.bool false))]) (obs := [AV.bool (o0.fKind == 2) = .bool false, AV.bool (decide (o0.fIndex ≥ 0)) = .bool false, AV.bool (o0.fKind == 1) = .bool true]) (by kernel_rfl) ⟨congrArg AV.bool c2_, congrArg AV.bool c1_, congrArg AV.bool c0_, trivial⟩ (b46_0 n _ _ _ _ h9_)
  ·
    refine ite_elim h4_ (fun c1_ h10_ => ?_) (fun c1_ h10_ => ?_)
    ·
      refine ite_elim h10_ (fun c2_ h11_ => ?_) (fun c2_ h11_ => ?_)
      ·
        exact run_at (S := sp46_1) (G := []) (sc := [(5, .eq (.bool false)), (7, .eq (.bool true)), (3, .eq (.bool true)), (5, .eq (.int .i64 (params2.length : Int)))]) (obs := [AV.int .i64 ((rows23 params2).length : Int) = .int .i64 (params2.length : Int), AV.bool (decide (o0.fIndex ≥ 0)) = .bool true, AV.bool (o0.fKind == 2) = .bool true, AV.bool (o0.fKind == 1) = .bool false]) (by kernel_rfl) ⟨R40.lenOb params2, congrArg AV.bool c2_, congrArg AV.bool c1_, congrArg AV.bool c0_, trivial⟩ (b46_0 n _ _ _ _ h11_)
      ·
        exact run_at (S := sp46_1) (G := []) (sc := [(5, .eq (.bool false)), (7, .eq (.bool true)), (3, .eq (.bool false))]) (obs := [AV.bool (decide (o0.fIndex ≥ 0)) = .bool false, AV.bool (o0.fKind == 2) = .bool true, AV.bool (o0.fKind == 1) = .bool false]) (by kernel_rfl) ⟨congrArg AV.bool c2_, congrArg AV.bool c1_, congrArg AV.bool c0_, trivial⟩ (b46_0 n _ _ _ _ h11_)
    ·
      exact run_at (S := sp46_1) (G := []) (sc := [(5, .eq (.bool false)), (7, .eq (.bool false))]) (obs := [AV.bool (o0.fKind == 2) = .bool false, AV.bool (o0.fKind == 1) = .bool false]) (by kernel_rfl) ⟨congrArg AV.bool c1_, congrArg AV.bool c0_, trivial⟩ (b46_0 n _ _ _ _ h10_)

def F46 (n : Nat) (o0 : TOperand) (row1 : (List TValue)) (params2 : (List TValue)) : Option (TValue × Bool) := B46_1 n o0 row1 params2
theorem ev46 (n : Nat) (o0 : TOperand) (row1 : (List TValue)) (params2 : (List TValue)) (r : (TValue × Bool)) (h : F46 n o0 row1 params2 = some r) : CallOK Try.prog ann 46 [.agg (enc25 o0), .slice .sh (rows23 row1), .slice .sh (rows23 params2)] (res46 r) (outs46 r) :=
  call_of_at (E := e46) (s := st46_1 o0 row1 params2) body46 Try.func46 (by kernel_rfl) (by kernel_rfl) (by kernel_rfl) (by kernel_rfl) (by kernel_rfl) (emptyOK_of (by kernel_rfl)) (by kernel_rfl) (b46_1 n o0 row1 params2 r h)

/-- partsync/partsyncref05.Holds -/
noncomputable def e20 : Env := { P := Try.prog, ann := ann, f := 20, fn := Try.f20, ptrs := [], rets := [(6, .same)] }
def st20_0 (row1 : (List TValue)) (params2 : (List TValue)) (t50 : Int) (t51 : Int) (bp3 : TPredicate) : LS := ⟨[(1, .slice .sh (rows23 row1)), (2, .slice .sh (rows23 params2)), (3, .loc 3 0), (50, .int .i64 t50), (51, .int .i64 t51)], [(3, (enc28 bp3))]⟩
def st20_1  : LS := ⟨[], []⟩
def st20_2 (row1 : (List TValue)) (params2 : (List TValue)) (t68 : Int) (t69 : Int) (bp3 : TPredicate) : LS := ⟨[(1, .slice .sh (rows23 row1)), (2, .slice .sh (rows23 params2)), (3, .loc 3 0), (68, .int .i64 t68), (69, .int .i64 t69)], [(3, (enc28 bp3))]⟩
def st20_3  : LS := ⟨[], []⟩
def st20_4 (p0 : TPredicate) (row1 : (List TValue)) (params2 : (List TValue)) : LS := ⟨[(0, .agg (enc28 p0)), (1, .slice .sh (rows23 row1)), (2, .slice .sh (rows23 params2))], []⟩
def sp20_0 : Stops := [([0, 1, 0, 0, 1, 1, 1, 1, 1, 0, 1, 0, 1], [(1, .nrm), (2, .nrm), (3, .same), (50, .same), (51, .same)], [(3, [.same, .same, .same, .same, .same, .same, .same, .same, .same, .same, .same, .same, .nrm])]), ([1, 0, 1, 1, 1, 1, 1, 0, 1, 0, 1], [], [])]
def B20_0 (s_20 : TPredicate → (List TValue) → (List TValue) → Option Bool) (k_1 : Option Bool) (back : (List TValue) → (List TValue) → Int → Int → TPredicate → Option Bool) (n : Nat) (row1 : (List TValue)) (params2 : (List TValue)) (t50 : Int) (t51 : Int) (bp3 : TPredicate) : Option Bool :=
  if decide (t51 < t50) then
    (idx bp3.fArgs t51).bind fun x7_ =>
    (s_20 x7_ row1 params2).bind fun x11_ =>
    if !x11_ then
      some false
    else
      back row1 params2 t50 (w64 (t51 + 1)) bp3
  else
    k_1

theorem b20_0 (s_20 : TPredicate → (List TValue) → (List TValue) → Option Bool) (hs_20 : ∀ (a0_ : TPredicate) (a1_ : (List TValue)) (a2_ : (List TValue)) (r : Bool), s_20 a0_ a1_ a2_ = some r → CallOK Try.prog ann 20 [.agg (enc28 a0_), .slice .sh (rows23 a1_), .slice .sh (rows23 a2_)] (res20 r) (outs20 r)) (k_1 : Option Bool) (hk_1 : ∀  (r : Bool), k_1 = some r → At e20 [1, 0, 1, 1, 1, 1, 1, 0, 1, 0, 1] (st20_1) (res20 r) (outs20 r)) (back : (List TValue) → (List TValue) → Int → Int → TPredicate → Option Bool) (hback : ∀ (row1 : (List TValue)) (params2 : (List TValue)) (t50 : Int) (t51 : Int) (bp3 : TPredicate) (r : Bool), back row1 params2 t50 t51 bp3 = some r → At e20 [0, 1, 0, 0, 1, 1, 1, 1, 1, 0, 1, 0, 1] (st20_0 row1 params2 t50 t51 bp3) (res20 r) (outs20 r)) (n : Nat) (row1 : (List TValue)) (params2 : (List TValue)) (t50 : Int) (t51 : Int) (bp3 : TPredicate) (r : Bool) (h : B20_0 s_20 k_1 back n row1 params2 t50 t51 bp3 = some r) : At e20 [0, 1, 0, 0, 1, 1, 1, 1, 1, 0, 1, 0, 1] (st20_0 row1 params2 t50 t51 bp3) (res20 r) (outs20 r) := by
  unfold B20_0 at h
  refine ite_elim h (fun c0_ h1_ => ?_) (fun c0_ h1_ => ?_)
  ·
    refine bind_elim h1_ (fun x7_ hx7_ h2_ => ?_)
    refine bind_elim h2_ (fun x11_ hx11_ h3_ => ?_)
    refine ite_elim h3_ (fun c1_ h4_ => ?_) (fun c1_ h4_ => ?_)
    ·
      have e_ := Option.some.inj h4_
      subst e_
      exact run_ret (S := sp20_0) (G := []) (sc := [(0, .eq (.bool true)), (5, .core ⟨[(57, .imm (enc28 x7_))], []⟩), (3, .call 20 (res20 x11_) (outs20 x11_)), (0, .eq (.bool true))]) (obs := [AV.bool (!x11_) = .bool true, CallOK Try.prog ann 20 [.agg (enc28 x7_), .slice .sh (rows23 row1), .slice .sh (rows23 params2)] (res20 x11_) (outs20 x11_), indexAddrA Try.prog an20 (some 57) 27 (.slice .sh (rows28 bp3.fArgs)) (.int .i64 t51) = some ⟨[(57, .imm (enc28 x7_))], []⟩, AV.bool (decide (t51 < t50)) = .bool true]) (by kernel_rfl) ⟨congrArg AV.bool c1_, hs_20 _ _ _ _ hx11_, R27.idxOb (A := an20) hx7_, congrArg AV.bool c0_, trivial⟩
    ·
      exact run_at (S := sp20_0) (G := []) (sc := [(0, .eq (.bool true)), (5, .core ⟨[(57, .imm (enc28 x7_))], []⟩), (3, .call 20 (res20 x11_) (outs20 x11_)), (0, .eq (.bool false))]) (obs := [AV.bool (!x11_) = .bool false, CallOK Try.prog ann 20 [.agg (enc28 x7_), .slice .sh (rows23 row1), .slice .sh (rows23 params2)] (res20 x11_) (outs20 x11_), indexAddrA Try.prog an20 (some 57) 27 (.slice .sh (rows28 bp3.fArgs)) (.int .i64 t51) = some ⟨[(57, .imm (enc28 x7_))], []⟩, AV.bool (decide (t51 < t50)) = .bool true]) (by kernel_rfl) ⟨congrArg AV.bool c1_, hs_20 _ _ _ _ hx11_, R27.idxOb (A := an20) hx7_, congrArg AV.bool c0_, trivial⟩ (hback _ _ _ _ _ _ h4_)
  ·
    exact run_at (S := sp20_0) (G := []) (sc := [(0, .eq (.bool false))]) (obs := [AV.bool (decide (t51 < t50)) = .bool false]) (by kernel_rfl) ⟨congrArg AV.bool c0_, trivial⟩ (hk_1 _ h1_)

def L20_0 (s_20 : TPredicate → (List TValue) → (List TValue) → Option Bool) (k_1 : Option Bool) : Nat → (List TValue) → (List TValue) → Int → Int → TPredicate → Option Bool
  | 0, _, _, _, _, _ => none
  | n + 1, row1, params2, t50, t51, bp3 => B20_0 s_20 k_1 (L20_0 s_20 k_1 n) n row1 params2 t50 t51 bp3
theorem l20_0 (s_20 : TPredicate → (List TValue) → (List TValue) → Option Bool) (hs_20 : ∀ (a0_ : TPredicate) (a1_ : (List TValue)) (a2_ : (List TValue)) (r : Bool), s_20 a0_ a1_ a2_ = some r → CallOK Try.prog ann 20 [.agg (enc28 a0_), .slice .sh (rows23 a1_), .slice .sh (rows23 a2_)] (res20 r) (outs20 r)) (k_1 : Option Bool) (hk_1 : ∀  (r : Bool), k_1 = some r → At e20 [1, 0, 1, 1, 1, 1, 1, 0, 1, 0, 1] (st20_1) (res20 r) (outs20 r)) : ∀ (n : Nat) (row1 : (List TValue)) (params2 : (List TValue)) (t50 : Int) (t51 : Int) (bp3 : TPredicate) (r : Bool), L20_0 s_20 k_1 n row1 params2 t50 t51 bp3 = some r → At e20 [0, 1, 0, 0, 1, 1, 1, 1, 1, 0, 1, 0, 1] (st20_0 row1 params2 t50 t51 bp3) (res20 r) (outs20 r)
  | 0, _, _, _, _, _, _, h => by simp [L20_0] at h
  | n + 1, row1, params2, t50, t51, bp3, r, h => b20_0 s_20 hs_20 k_1 hk_1 (L20_0 s_20 k_1 n) (l20_0 s_20 hs_20 k_1 hk_1 n) n row1 params2 t50 t51 bp3 r h
def sp20_1 : Stops := []
def B20_1 (s_20 : TPredicate → (List TValue) → (List TValue) → Option Bool) (n : Nat)  : Option Bool :=
  some true

theorem b20_1 (s_20 : TPredicate → (List TValue) → (List TValue) → Option Bool) (hs_20 : ∀ (a0_ : TPredicate) (a1_ : (List TValue)) (a2_ : (List TValue)) (r : Bool), s_20 a0_ a1_ a2_ = some r → CallOK Try.prog ann 20 [.agg (enc28 a0_), .slice .sh (rows23 a1_), .slice .sh (rows23 a2_)] (res20 r) (outs20 r)) (n : Nat)  (r : Bool) (h : B20_1 s_20 n = some r) : At e20 [1, 0, 1, 1, 1, 1, 1, 0, 1, 0, 1] (st20_1) (res20 r) (outs20 r) := by
  unfold B20_1 at h
  have e_ := Option.some.inj h
  subst e_
  exact run_ret (S := sp20_1) (G := []) (sc := []) (obs := []) (by kernel_rfl) trivial

def sp20_2 : Stops := [([0, 1, 0, 1, 1, 1, 1, 1, 1, 1, 0, 1, 0, 1], [(1, .nrm), (2, .nrm), (3, .same), (68, .same), (69, .same)], [(3, [.same, .same, .same, .same, .same, .same, .same, .same, .same, .same, .same, .same, .nrm])]), ([1, 1], [], [])]
def B20_2 (s_20 : TPredicate → (List TValue) → (List TValue) → Option Bool) (k_3 : Option Bool) (back : (List TValue) → (List TValue) → Int → Int → TPredicate → Option Bool) (n : Nat) (row1 : (List TValue)) (params2 : (List TValue)) (t68 : Int) (t69 : Int) (bp3 : TPredicate) : Option Bool :=
  if decide (t69 < t68) then
    (idx bp3.fArgs t69).bind fun x7_ =>
    (s_20 x7_ row1 params2).bind fun x11_ =>
    if x11_ then
      some true
    else
      back row1 params2 t68 (w64 (t69 + 1)) bp3
  else
    k_3

theorem b20_2 (s_20 : TPredicate → (List TValue) → (List TValue) → Option Bool) (hs_20 : ∀ (a0_ : TPredicate) (a1_ : (List TValue)) (a2_ : (List TValue)) (r : Bool), s_20 a0_ a1_ a2_ = some r → CallOK Try.prog ann 20 [.agg (enc28 a0_), .slice .sh (rows23 a1_), .slice .sh (rows23 a2_)] (res20 r) (outs20 r)) (k_3 : Option Bool) (hk_3 : ∀  (r : Bool), k_3 = some r → At e20 [1, 1] (st20_3) (res20 r) (outs20 r)) (back : (List TValue) → (List TValue) → Int → Int → TPredicate → Option Bool) (hback : ∀ (row1 : (List TValue)) (params2 : (List TValue)) (t68 : Int) (t69 : Int) (bp3 : TPredicate) (r : Bool), back row1 params2 t68 t69 bp3 = some r → At e20 [0, 1, 0, 1, 1, 1, 1, 1, 1, 1, 0, 1, 0, 1] (st20_2 row1 params2 t68 t69 bp3) (res20 r) (outs20 r)) (n : Nat) (row1 : (List TValue)) (params2 : (List TValue)) (t68 : Int) (t69 : Int) (bp3 : TPredicate) (r : Bool) (h : B20_2 s_20 k_3 back n row1 params2 t68 t69 bp3 = some r) : At e20 [0, 1, 0, 1, 1, 1, 1, 1, 1, 1, 0, 1, 0, 1] (st20_2 row1 params2 t68 t69 bp3) (res20 r) (outs20 r) := by
  unfold B20_2 at h
  refine ite_elim h (fun c0_ h5_ => ?_) (fun c0_ h5_ => ?_)
  ·
    refine bind_elim h5_ (fun x7_ hx7_ h6_ => ?_)
    refine bind_elim h6_ (fun x11_ hx11_ h7_ => ?_)
    refine ite_elim h7_ (fun c1_ h8_ => ?_) (fun c1_ h8_ => ?_)
    ·
      subst c1_
      have e_ := Option.some.inj h8_
      subst e_
      exact run_ret (S := sp20_2) (G := []) (sc := [(0, .eq (.bool true)), (5, .core ⟨[(75, .imm (enc28 x7_))], []⟩), (3, .call 20 (res20 true) (outs20 true))]) (obs := [CallOK Try.prog ann 20 [.agg (enc28 x7_), .slice .sh (rows23 row1), .slice .sh (rows23 params2)] (res20 true) (outs20 true), indexAddrA Try.prog an20 (some 75) 27 (.slice .sh (rows28 bp3.fArgs)) (.int .i64 t69) = some ⟨[(75, .imm (enc28 x7_))], []⟩, AV.bool (decide (t69 < t68)) = .bool true]) (by kernel_rfl) ⟨hs_20 _ _ _ _ hx11_, R27.idxOb (A := an20) hx7_, congrArg AV.bool c0_, trivial⟩
    ·
      subst c1_
      exact run_at (S := sp20_2) (G := []) (sc := [(0, .eq (.bool true)), (5, .core ⟨[(75, .imm (enc28 x7_))], []⟩), (3, .call 20 (res20 false) (outs20 false))]) (obs := [CallOK Try.prog ann 20 [.agg (enc28 x7_), .slice .sh (rows23 row1), .slice .sh (rows23 params2)] (res20 false) (outs20 false), indexAddrA Try.prog an20 (some 75) 27 (.slice .sh (rows28 bp3.fArgs)) (.int .i64 t69) = some ⟨[(75, .imm (enc28 x7_))], []⟩, AV.bool (decide (t69 < t68)) = .bool true]) (by kernel_rfl) ⟨hs_20 _ _ _ _ hx11_, R27.idxOb (A := an20) hx7_, congrArg AV.bool c0_, trivial⟩ (hback _ _ _ _ _ _ h8_)
  ·
    exact run_at (S := sp20_2) (G := []) (sc := [(0, .eq (.bool false))]) (obs := [AV.bool (decide (t69 < t68)) = .bool false]) (by kernel_rfl) ⟨congrArg AV.bool c0_, trivial⟩ (hk_3 _ h5_)

def L20_2 (s_20 : TPredicate → (List TValue) → (List TValue) → Option Bool) (k_3 : Option Bool) : Nat → (List TValue) → (List TValue) → Int → Int → TPredicate → Option Bool
  | 0, _, _, _, _, _ => none
  | n + 1, row1, params2, t68, t69, bp3 => B20_2 s_20 k_3 (L20_2 s_20 k_3 n) n row1 params2 t68 t69 bp3
theorem l20_2 (s_20 : TPredicate → (List TValue) → (List TValue) → Option Bool) (hs_20 : ∀ (a0_ : TPredicate) (a1_ : (List TValue)) (a2_ : (List TValue)) (r : Bool), s_20 a0_ a1_ a2_ = some r → CallOK Try.prog ann 20 [.agg (enc28 a0_), .slice .sh (rows23 a1_), .slice .sh (rows23 a2_)] (res20 r) (outs20 r)) (k_3 : Option Bool) (hk_3 : ∀  (r : Bool), k_3 = some r → At e20 [1, 1] (st20_3) (res20 r) (outs20 r)) : ∀ (n : Nat) (row1 : (List TValue)) (params2 : (List TValue)) (t68 : Int) (t69 : Int) (bp3 : TPredicate) (r : Bool), L20_2 s_20 k_3 n row1 params2 t68 t69 bp3 = some r → At e20 [0, 1, 0, 1, 1, 1, 1, 1, 1, 1, 0, 1, 0, 1] (st20_2 row1 params2 t68 t69 bp3) (res20 r) (outs20 r)
  | 0, _, _, _, _, _, _, h => by simp [L20_2] at h
  | n + 1, row1, params2, t68, t69, bp3, r, h => b20_2 s_20 hs_20 k_3 hk_3 (L20_2 s_20 k_3 n) (l20_2 s_20 hs_20 k_3 hk_3 n) n row1 params2 t68 t69 bp3 r h
def sp20_3 : Stops := []
def B20_3 (s_20 : TPredicate → (List TValue) → (List TValue) → Option Bool) (n : Nat)  : Option Bool :=
  some false

theorem b20_3 (s_20 : TPredicate → (List TValue) → (List TValue) → Option Bool) (hs_20 : ∀ (a0_ : TPredicate) (a1_ : (List TValue)) (a2_ : (List TValue)) (r : Bool), s_20 a0_ a1_ a2_ = some r → CallOK Try.prog ann 20 [.agg (enc28 a0_), .slice .sh (rows23 a1_), .slice .sh (rows23 a2_)] (res20 r) (outs20 r)) (n : Nat)  (r : Bool) (h : B20_3 s_20 n = some r) : At e20 [1, 1] (st20_3) (res20 r) (outs20 r) := by
  unfold B20_3 at h
  have e_ := Option.some.inj h
  subst e_
  exact run_ret (S := sp20_3) (G := []) (sc := []) (obs := []) (by kernel_rfl) trivial

def sp20_4 : Stops := [([0, 1, 0, 0, 1, 1, 1, 1, 1, 0, 1, 0, 1], [(1, .nrm), (2, .nrm), (3, .same), (50, .same), (51, .same)], [(3, [.same, .same, .same, .same, .same, .same, .same, .same, .same, .same, .same, .same, .nrm])]), ([0, 1, 0, 1, 1, 1, 1, 1, 1, 1, 0, 1, 0, 1], [(1, .nrm), (2, .nrm), (3, .same), (68, .same), (69, .same)], [(3, [.same, .same, .same, .same, .same, .same, .same, .same, .same, .same, .same, .same, .nrm])]), ([1, 1], [], [])]
def B20_4 (s_20 : TPredicate → (List TValue) → (List TValue) → Option Bool) (n : Nat) (p0 : TPredicate) (row1 : (List TValue)) (params2 : (List TValue)) : Option Bool :=
  if p0.fOp == 1 then
    some true
  else
    if p0.fOp == 3 then
      (F46 n p0.fLeft row1 params2).bind fun x13_ =>
      (F46 n p0.fRight row1 params2).bind fun x24_ =>
      if x13_.2 then
        if x24_.2 then
          (F24 n p0.fCmp x13_.1 x24_.1).bind fun x40_ =>
          some x40_
        else
          some false
      else
        some false
    else
      if p0.fOp == 4 then
        L20_0 s_20 (B20_1 s_20 n) n row1 params2 (p0.fArgs.length : Int) 0 p0
      else
        if p0.fOp == 5 then
          L20_2 s_20 (B20_3 s_20 n) n row1 params2 (p0.fArgs.length : Int) 0 p0
        else
          if p0.fOp == 6 then
            if decide ((p0.fArgs.length : Int) > 0) then
              (idx p0.fArgs 0).bind fun x22_ =>
              (s_20 x22_ row1 params2).bind fun x26_ =>
              some (!x26_)
            else
              some false
          else
            B20_3 s_20 n

theorem b20_4 (s_20 : TPredicate → (List TValue) → (List TValue) → Option Bool) (hs_20 : ∀ (a0_ : TPredicate) (a1_ : (List TValue)) (a2_ : (List TValue)) (r : Bool), s_20 a0_ a1_ a2_ = some r → CallOK Try.prog ann 20 [.agg (enc28 a0_), .slice .sh (rows23 a1_), .slice .sh (rows23 a2_)] (res20 r) (outs20 r)) (n : Nat) (p0 : TPredicate) (row1 : (List TValue)) (params2 : (List TValue)) (r : Bool) (h : B20_4 s_20 n p0 row1 params2 = some r) : At e20 [] (st20_4 p0 row1 params2) (res20 r) (outs20 r) := by
  unfold B20_4 at h
  refine ite_elim h (fun c0_ h9_ => ?_) (fun c0_ h9_ => ?_)
  ·
    have e_ := Option.some.inj h9_
    subst e_
    exact run_ret (S := sp20_4) (G := []) (sc := [(4, .eq (.bool true))]) (obs := [AV.bool (p0.fOp == 1) = .bool true]) (by kernel_rfl) ⟨congrArg AV.bool c0_, trivial⟩
  ·
    refine ite_elim h9_ (fun c1_ h10_ => ?_) (fun c1_ h10_ => ?_)
    ·
      refine bind_elim h10_ (fun x13_ hx13_ h11_ => ?_)
      refine bind_elim h11_ (fun x24_ hx24_ h12_ => ?_)
      refine ite_elim h12_ (fun c2_ h13_ => ?_) (fun c2_ h13_ => ?_)
      ·
        refine ite_elim h13_ (fun c3_ h14_ => ?_) (fun c3_ h14_ => ?_)
        ·
          refine bind_elim h14_ (fun x40_ hx40_ h15_ => ?_)
          have e_ := Option.some.inj h15_
          subst e_
          exact run_ret (S := sp20_4) (G := []) (sc := [(4, .eq (.bool false)), (1, .eq (.bool true)), (5, .call 46 (res46 x13_) (outs46 x13_)), (2, .eq (.bool true)), (7, .call 46 (res46 x24_) (outs46 x24_)), (2, .eq (.bool true)), (12, .call 24 (res24 x40_) (outs24 x40_))]) (obs := [CallOK Try.prog ann 24 [.int .i64 p0.fCmp, .agg (enc23 x13_.1), .agg (enc23 x24_.1)] (res24 x40_) (outs24 x40_), AV.bool x24_.2 = .bool true, CallOK Try.prog ann 46 [.agg (enc25 p0.fRight), .slice .sh (rows23 row1), .slice .sh (rows23 params2)] (res46 x24_) (outs46 x24_), AV.bool x13_.2 = .bool true, CallOK Try.prog ann 46 [.agg (enc25 p0.fLeft), .slice .sh (rows23 row1), .slice .sh (rows23 params2)] (res46 x13_) (outs46 x13_), AV.bool (p0.fOp == 3) = .bool true, AV.bool (p0.fOp == 1) = .bool false]) (by kernel_rfl) ⟨ev24 n _ _ _ _ hx40_, congrArg AV.bool c3_, ev46 n _ _ _ _ hx24_, congrArg AV.bool c2_, ev46 n _ _ _ _ hx13_, congrArg AV.bool c1_, congrArg AV.bool c0_, trivial⟩
        ·
          have e_ := Option.some.inj h14_
          subst e_
          exact run_ret (S := sp20_4) (G := []) (sc := [(4, .eq (.bool false)), (1, .eq (.bool true)), (5, .call 46 (res46 x13_) (outs46 x13_)), (2, .eq (.bool true)), (7, .call 46 (res46 x24_) (outs46 x24_)), (2, .eq (.bool false))]) (obs := [AV.bool x24_.2 = .bool false, CallOK Try.prog ann 46 [.agg (enc25 p0.fRight), .slice .sh (rows23 row1), .slice .sh (rows23 params2)] (res46 x24_) (outs46 x24_), AV.bool x13_.2 = .bool true, CallOK Try.prog ann 46 [.agg (enc25 p0.fLeft), .slice .sh (rows23 row1), .slice .sh (rows23 params2)] (res46 x13_) (outs46 x13_), AV.bool (p0.fOp == 3) = .bool true, AV.bool (p0.fOp == 1) = .bool false]) (by kernel_rfl) ⟨congrArg AV.bool c3_, ev46 n _ _ _ _ hx24_, congrArg AV.bool c2_, ev46 n _ _ _ _ hx13_, congrArg AV.bool c1_, congrArg AV.bool c0_, trivial⟩
      ·
        have e_ := Option.some.inj h13_
        subst e_
        exact run_ret (S := sp20_4) (G := []) (sc := [(4, .eq (.bool false)), (1, .eq (.bool true)), (5, .call 46 (res46 x13_) (outs46 x13_)), (2, .eq (.bool false)), (7, .call 46 (res46 x24_) (outs46 x24_))]) (obs := [CallOK Try.prog ann 46 [.agg (enc25 p0.fRight), .slice .sh (rows23 row1), .slice .sh (rows23 params2)] (res46 x24_) (outs46 x24_), AV.bool x13_.2 = .bool false, CallOK Try.prog ann 46 [.agg (enc25 p0.fLeft), .slice .sh (rows23 row1), .slice .sh (rows23 params2)] (res46 x13_) (outs46 x13_), AV.bool (p0.fOp == 3) = .bool true, AV.bool (p0.fOp == 1) = .bool false]) (by kernel_rfl) ⟨ev46 n _ _ _ _ hx24_, congrArg AV.bool c2_, ev46 n _ _ _ _ hx13_, congrArg AV.bool c1_, congrArg AV.bool c0_, trivial⟩
    ·
      refine ite_elim h10_ (fun c2_ h16_ => ?_) (fun c2_ h16_ => ?_)
      ·
        exact run_at (S := sp20_4) (G := []) (sc := [(4, .eq (.bool false)), (1, .eq (.bool false)), (1, .eq (.bool true)), (3, .eq (.int .i64 (p0.fArgs.length : Int)))]) (obs := [AV.int .i64 ((rows28 p0.fArgs).length : Int) = .int .i64 (p0.fArgs.length : Int), AV.bool (p0.fOp == 4) = .bool true, AV.bool (p0.fOp == 3) = .bool false, AV.bool (p0.fOp == 1) = .bool false]) (by kernel_rfl) ⟨R27.lenOb p0.fArgs, congrArg AV.bool c2_, congrArg AV.bool c1_, congrArg AV.bool c0_, trivial⟩ (l20_0 s_20 hs_20 (B20_1 s_20 n) (b20_1 s_20 hs_20 n) n _ _ _ _ _ _ h16_)
      ·
        refine ite_elim h16_ (fun c3_ h17_ => ?_) (fun c3_ h17_ => ?_)
        ·
          exact run_at (S := sp20_4) (G := []) (sc := [(4, .eq (.bool false)), (1, .eq (.bool false)), (1, .eq (.bool false)), (1, .eq (.bool true)), (3, .eq (.int .i64 (p0.fArgs.length : Int)))]) (obs := [AV.int .i64 ((rows28 p0.fArgs).length : Int) = .int .i64 (p0.fArgs.length : Int), AV.bool (p0.fOp == 5) = .bool true, AV.bool (p0.fOp == 4) = .bool false, AV.bool (p0.fOp == 3) = .bool false, AV.bool (p0.fOp == 1) = .bool false]) (by kernel_rfl) ⟨R27.lenOb p0.fArgs, congrArg AV.bool c3_, congrArg AV.bool c2_, congrArg AV.bool c1_, congrArg AV.bool c0_, trivial⟩ (l20_2 s_20 hs_20 (B20_3 s_20 n) (b20_3 s_20 hs_20 n) n _ _ _ _ _ _ h17_)
        ·
          refine ite_elim h17_ (fun c4_ h18_ => ?_) (fun c4_ h18_ => ?_)
          ·
            refine ite_elim h18_ (fun c5_ h19_ => ?_) (fun c5_ h19_ => ?_)
            ·
              refine bind_elim h19_ (fun x22_ hx22_ h20_ => ?_)
              refine bind_elim h20_ (fun x26_ hx26_ h21_ => ?_)
              have e_ := Option.some.inj h21_
              subst e_
              exact run_ret (S := sp20_4) (G := []) (sc := [(4, .eq (.bool false)), (1, .eq (.bool false)), (1, .eq (.bool false)), (1, .eq (.bool false)), (1, .eq (.bool true)), (3, .eq (.int .i64 (p0.fArgs.length : Int))), (0, .eq (.bool true)), (3, .core ⟨[(90, .imm (enc28 x22_))], []⟩), (3, .call 20 (res20 x26_) (outs20 x26_))]) (obs := [CallOK Try.prog ann 20 [.agg (enc28 x22_), .slice .sh (rows23 row1), .slice .sh (rows23 params2)] (res20 x26_) (outs20 x26_), indexAddrA Try.prog an20 (some 90) 27 (.slice .sh (rows28 p0.fArgs)) (.int .i64 0) = some ⟨[(90, .imm (enc28 x22_))], []⟩, AV.bool (decide ((p0.fArgs.length : Int) > 0)) = .bool true, AV.int .i64 ((rows28 p0.fArgs).length : Int) = .int .i64 (p0.fArgs.length : Int), AV.bool (p0.fOp == 6) = .bool true, AV.bool (p0.fOp == 5) = .bool false, AV.bool (p0.fOp == 4) = .bool false, AV.bool (p0.fOp == 3) = .bool false, AV.bool (p0.fOp == 1) = .bool false]) (by kernel_rfl) ⟨hs_20 _ _ _ _ hx26_, R27.idxOb (A := an20) hx22_, congrArg AV.bool c5_, R27.lenOb p0.fArgs, congrArg AV.bool c4_, congrArg AV.bool c3_, congrArg AV.bool c2_, congrArg AV.bool c1_, congrArg AV.bool c0_, trivial⟩
            ·
              have e_ := Option.some.inj h19_
              subst e_
              exact run_ret (S := sp20_4) (G := []) (sc := [(4, .eq (.bool false)), (1, .eq (.bool false)), (1, .eq (.bool false)), (1, .eq (.bool false)), (1, .eq (.bool true)), (3, .eq (.int .i64 (p0.fArgs.length : Int))), (0, .eq (.bool false))]) (obs := [AV.bool (decide ((p0.fArgs.length : Int) > 0)) = .bool false, AV.int .i64 ((rows28 p0.fArgs).length : Int) = .int .i64 (p0.fArgs.length : Int), AV.bool (p0.fOp == 6) = .bool true, AV.bool (p0.fOp == 5) = .bool false, AV.bool (p0.fOp == 4) = .bool false, AV.bool (p0.fOp == 3) = .bool false, AV.bool (p0.fOp == 1) = .bool false]) (by kernel_rfl) ⟨congrArg AV.bool c5_, R27.lenOb p0.fArgs, congrArg AV.bool c4_, congrArg AV.bool c3_, congrArg AV.bool c2_, congrArg AV.bool c1_, congrArg AV.bool c0_, trivial⟩
          ·
            exact run_at (S := sp20_4) (G := []) (sc := [(4, .eq (.bool false)), (1, .eq (.bool false)), (1, .eq (.bool false)), (1, .eq (.bool false)), (1, .eq (.bool false))]) (obs := [AV.bool (p0.fOp == 6) = .bool false, AV.bool (p0.fOp == 5) = .bool false, AV.bool (p0.fOp == 4) = .bool false, AV.bool (p0.fOp == 3) = .bool false, AV.bool (p0.fOp == 1) = .bool false]) (by kernel_rfl) ⟨congrArg AV.bool c4_, congrArg AV.bool c3_, congrArg AV.bool c2_, congrArg AV.bool c1_, congrArg AV.bool c0_, trivial⟩ (b20_3 s_20 hs_20 n _ h18_)

def F20 : Nat → TPredicate → (List TValue) → (List TValue) → Option Bool
  | 0, _, _, _ => none
  | n + 1, p0, row1, params2 => B20_4 (F20 n) n p0 row1 params2
theorem ev20 : ∀ (n : Nat) (p0 : TPredicate) (row1 : (List TValue)) (params2 : (List TValue)) (r : Bool), F20 n p0 row1 params2 = some r → CallOK Try.prog ann 20 [.agg (enc28 p0), .slice .sh (rows23 row1), .slice .sh (rows23 params2)] (res20 r) (outs20 r)
  | 0, _, _, _, _, h => by simp [F20] at h
  | n + 1, p0, row1, params2, r, h => call_of_at (E := e20) (s := st20_4 p0 row1 params2) body20 Try.func20 (by kernel_rfl) (by kernel_rfl) (by kernel_rfl) (by kernel_rfl) (by kernel_rfl) (emptyOK_of (by kernel_rfl)) (by kernel_rfl) (b20_4 (F20 n) (ev20 n) n p0 row1 params2 r h)

end Go.Proofs.Ytalbakjfbgkjjaa
