/- A law as a plain function, and that the program answers as it does; written by a program (comp.py). -/
import Derived.Test.YtalbakjfbgkjjaaTop0
set_option maxRecDepth 100000
set_option linter.all false
namespace Go.Proofs.Ytalbakjfbgkjjaa
open Go.Abs

/-- partsync/partsynclaw05.PredicateColumns -/
noncomputable def e7 : Env := { P := Try.prog, ann := ann, f := 7, fn := Try.f7, ptrs := [], rets := [(4, .same)] }
def st7_0 (a9 : (List TValue)) (t41 : (List Int)) (t42 : Int) (t43 : Int) (bp7 : TPredicate) (b69_ : (List TValue)) : LS := ⟨[(7, .loc 7 0), (9, .slice (.own 24) (rows23 a9)), (10, .ms 69 24 0 b69_.length), (41, .slice .sh (rows3 t41)), (42, .int .i64 t42), (43, .int .i64 t43)], [(7, (enc28 bp7)), (69, (flatS (rows23 b69_)))]⟩
def st7_1 (a9 : (List TValue)) (bp7 : TPredicate) (b69_ : (List TValue)) : LS := ⟨[(7, .loc 7 0), (9, .slice (.own 24) (rows23 a9)), (10, .ms 69 24 0 b69_.length)], [(7, (enc28 bp7)), (69, (flatS (rows23 b69_)))]⟩
def st7_2 (codes0 : (List Int)) (raw1 : TPredicate) : LS := ⟨[(0, .slice .sh (rows5 codes0)), (1, .agg (enc28 raw1))], []⟩
def sp7_0 : Stops := [([0, 1, 0, 1, 1, 1, 1, 1, 1, 1], [(7, .same), (9, .own 24), (10, .same), (41, .nrm), (42, .same), (43, .same)], [(7, [.same, .same, .same, .same, .same, .same, .same, .same, .same, .same, .same, .same, .nrm]), (69, [])]), ([1, 1, 1, 1, 1, 1, 1, 1], [(7, .same), (9, .own 24), (10, .same)], [(7, [.same, .same, .same, .same, .same, .same, .same, .same, .same, .same, .same, .same, .nrm]), (69, [])])]
def B7_0 (k_1 : (List TValue) → TPredicate → (List TValue) → Option Bool) (back : (List TValue) → (List Int) → Int → Int → TPredicate → (List TValue) → Option Bool) (n : Nat) (a9 : (List TValue)) (t41 : (List Int)) (t42 : Int) (t43 : Int) (bp7 : TPredicate) (b69_ : (List TValue)) : Option Bool :=
  if decide (t43 < t42) then
    (idx t41 t43).bind fun x2_ =>
    if decide (x2_ ≥ (a9.length : Int)) then
      some false
    else
      (idx a9 x2_).bind fun x13_ =>
      (bnd b69_.length x2_).bind fun x15_ =>
      (b69_[x15_]?).bind fun x16_ =>
      (setAt b69_ x15_ x13_).bind fun z16_ =>
      back a9 t41 t42 (w64 (t43 + 1)) bp7 z16_
  else
    k_1 a9 bp7 b69_

theorem b7_0 (k_1 : (List TValue) → TPredicate → (List TValue) → Option Bool) (hk_1 : ∀ (a9 : (List TValue)) (bp7 : TPredicate) (b69_ : (List TValue)) (r : Bool), k_1 a9 bp7 b69_ = some r → At e7 [1, 1, 1, 1, 1, 1, 1, 1] (st7_1 a9 bp7 b69_) (res7 r) (outs7 r)) (back : (List TValue) → (List Int) → Int → Int → TPredicate → (List TValue) → Option Bool) (hback : ∀ (a9 : (List TValue)) (t41 : (List Int)) (t42 : Int) (t43 : Int) (bp7 : TPredicate) (b69_ : (List TValue)) (r : Bool), back a9 t41 t42 t43 bp7 b69_ = some r → At e7 [0, 1, 0, 1, 1, 1, 1, 1, 1, 1] (st7_0 a9 t41 t42 t43 bp7 b69_) (res7 r) (outs7 r)) (n : Nat) (a9 : (List TValue)) (t41 : (List Int)) (t42 : Int) (t43 : Int) (bp7 : TPredicate) (b69_ : (List TValue)) (r : Bool) (h : B7_0 k_1 back n a9 t41 t42 t43 bp7 b69_ = some r) : At e7 [0, 1, 0, 1, 1, 1, 1, 1, 1, 1] (st7_0 a9 t41 t42 t43 bp7 b69_) (res7 r) (outs7 r) := by
  unfold B7_0 at h
  refine ite_elim h (fun c0_ h1_ => ?_) (fun c0_ h1_ => ?_)
  ·
    refine bind_elim h1_ (fun x2_ hx2_ h2_ => ?_)
    refine ite_elim h2_ (fun c1_ h3_ => ?_) (fun c1_ h3_ => ?_)
    ·
      have e_ := Option.some.inj h3_
      subst e_
      exact run_ret (S := sp7_0) (G := []) (sc := [(0, .eq (.bool true)), (0, .core ⟨[(45, .imm (enc3 x2_))], []⟩), (4, .eq (.int .i64 (a9.length : Int))), (0, .eq (.bool true))]) (obs := [AV.bool (decide (x2_ ≥ (a9.length : Int))) = .bool true, AV.int .i64 ((rows23 a9).length : Int) = .int .i64 (a9.length : Int), indexAddrA Try.prog an7 (some 45) 30 (.slice .sh (rows3 t41)) (.int .i64 t43) = some ⟨[(45, .imm (enc3 x2_))], []⟩, AV.bool (decide (t43 < t42)) = .bool true]) (by kernel_rfl) ⟨congrArg AV.bool c1_, R41.lenOb a9, R30.idxOb (A := an7) hx2_, congrArg AV.bool c0_, trivial⟩
    ·
      refine bind_elim h3_ (fun x13_ hx13_ h4_ => ?_)
      refine bind_elim h4_ (fun x15_ hx15_ h5_ => ?_)
      refine bind_elim h5_ (fun x16_ hx16_ h6_ => ?_)
      refine bind_elim h6_ (fun z16_ hz16_ h7_ => ?_)
      exact run_at (S := sp7_0) (G := [([0, 1, 0, 1, 1, 1, 1, 1, 1, 1], [.eqs [(10, .ms 69 24 0 z16_.length)]])]) (sc := [(0, .eq (.bool true)), (0, .core ⟨[(45, .imm (enc3 x2_))], []⟩), (4, .eq (.int .i64 (a9.length : Int))), (0, .eq (.bool false)), (4, .core ⟨[(55, .imm (enc23 x13_))], []⟩), (1, .core ⟨[(57, .loc 69 (x15_ * 3))], []⟩), (0, .core ⟨[], [(69, (flatS (rows23 z16_)))]⟩)]) (obs := [AV.ms 69 24 0 b69_.length = (.ms 69 24 0 z16_.length), storeBox Try.prog an7 24 69 (x15_ * 3 + 0) (flatS (rows23 b69_)) (.tmp 56) (.agg (enc23 x13_)) = some ⟨[], [(69, (flatS (rows23 z16_)))]⟩, indexAddrA Try.prog an7 (some 57) 41 (.ms 69 24 0 b69_.length) (.int .i64 x2_) = some ⟨[(57, .loc 69 (x15_ * 3))], []⟩, indexAddrA Try.prog an7 (some 55) 41 (.slice .sh (rows23 a9)) (.int .i64 x2_) = some ⟨[(55, .imm (enc23 x13_))], []⟩, AV.bool (decide (x2_ ≥ (a9.length : Int))) = .bool false, AV.int .i64 ((rows23 a9).length : Int) = .int .i64 (a9.length : Int), indexAddrA Try.prog an7 (some 45) 30 (.slice .sh (rows3 t41)) (.int .i64 t43) = some ⟨[(45, .imm (enc3 x2_))], []⟩, AV.bool (decide (t43 < t42)) = .bool true]) (by kernel_rfl) ⟨ms_len ((setAt_len hz16_).symm), R40.storeEl (A := an7) (f := 0) (m := 3) (s := 3) (vs := (enc23 x13_)) (by kernel_rfl) (by kernel_rfl) (by kernel_rfl) (by kernel_rfl) (by kernel_rfl) (by decide) (by kernel_rfl) (by kernel_rfl) (by kernel_rfl) hx16_ hz16_, R41.idxMs (A := an7) (by kernel_rfl) (by kernel_rfl) hx15_, R41.idxOb (A := an7) hx13_, congrArg AV.bool c1_, R41.lenOb a9, R30.idxOb (A := an7) hx2_, congrArg AV.bool c0_, trivial⟩ (hback _ _ _ _ _ _ _ h7_)
  ·
    exact run_at (S := sp7_0) (G := []) (sc := [(0, .eq (.bool false))]) (obs := [AV.bool (decide (t43 < t42)) = .bool false]) (by kernel_rfl) ⟨congrArg AV.bool c0_, trivial⟩ (hk_1 _ _ _ _ h1_)

def L7_0 (k_1 : (List TValue) → TPredicate → (List TValue) → Option Bool) : Nat → (List TValue) → (List Int) → Int → Int → TPredicate → (List TValue) → Option Bool
  | 0, _, _, _, _, _, _ => none
  | n + 1, a9, t41, t42, t43, bp7, b69_ => B7_0 k_1 (L7_0 k_1 n) n a9 t41 t42 t43 bp7 b69_
theorem l7_0 (k_1 : (List TValue) → TPredicate → (List TValue) → Option Bool) (hk_1 : ∀ (a9 : (List TValue)) (bp7 : TPredicate) (b69_ : (List TValue)) (r : Bool), k_1 a9 bp7 b69_ = some r → At e7 [1, 1, 1, 1, 1, 1, 1, 1] (st7_1 a9 bp7 b69_) (res7 r) (outs7 r)) : ∀ (n : Nat) (a9 : (List TValue)) (t41 : (List Int)) (t42 : Int) (t43 : Int) (bp7 : TPredicate) (b69_ : (List TValue)) (r : Bool), L7_0 k_1 n a9 t41 t42 t43 bp7 b69_ = some r → At e7 [0, 1, 0, 1, 1, 1, 1, 1, 1, 1] (st7_0 a9 t41 t42 t43 bp7 b69_) (res7 r) (outs7 r)
  | 0, _, _, _, _, _, _, _, h => by simp [L7_0] at h
  | n + 1, a9, t41, t42, t43, bp7, b69_, r, h => b7_0 k_1 hk_1 (L7_0 k_1 n) (l7_0 k_1 hk_1 n) n a9 t41 t42 t43 bp7 b69_ r h
def sp7_1 : Stops := []
def B7_1 (n : Nat) (a9 : (List TValue)) (bp7 : TPredicate) (b69_ : (List TValue)) : Option Bool :=
  (F14 n ).bind fun x1_ =>
  if x1_ then
    (F19 n bp7 a9 []).bind fun x5_ =>
    (F19 n bp7 b69_ []).bind fun x8_ =>
    some (x5_ == x8_)
  else
    some false

theorem b7_1 (n : Nat) (a9 : (List TValue)) (bp7 : TPredicate) (b69_ : (List TValue)) (r : Bool) (h : B7_1 n a9 bp7 b69_ = some r) : At e7 [1, 1, 1, 1, 1, 1, 1, 1] (st7_1 a9 bp7 b69_) (res7 r) (outs7 r) := by
  unfold B7_1 at h
  refine bind_elim h (fun x1_ hx1_ h8_ => ?_)
  refine ite_elim h8_ (fun c0_ h9_ => ?_) (fun c0_ h9_ => ?_)
  ·
    subst c0_
    refine bind_elim h9_ (fun x5_ hx5_ h10_ => ?_)
    refine bind_elim h10_ (fun x8_ hx8_ h11_ => ?_)
    have e_ := Option.some.inj h11_
    subst e_
    exact run_ret (S := sp7_1) (G := [([0, 1, 1, 1, 1, 1, 1, 1, 1], [.frz { K := 69, e := 24, rows := (rows23 b69_), ts := [(10, (rows23 b69_))], cs := [] }])]) (sc := [(0, .call 14 (res14 true) (outs14 true)), (3, .call 19 (res19 x5_) (outs19 x5_)), (2, .call 19 (res19 x8_) (outs19 x8_))]) (obs := [CallOK Try.prog ann 19 [.agg (enc28 bp7), .slice .sh (rows23 b69_), .slice .sh []] (res19 x8_) (outs19 x8_), CallOK Try.prog ann 19 [.agg (enc28 bp7), .slice .sh (rows23 a9), .slice .sh []] (res19 x5_) (outs19 x5_), CallOK Try.prog ann 14 [] (res14 true) (outs14 true), some (flatS (rows23 b69_)) = some (flatS (rows23 b69_)), ∀ r ∈ (rows23 b69_), r.length = Program.cellsOf Try.prog 24, okView (rows23 b69_) (.ms 69 24 0 b69_.length) (rows23 b69_)]) (by kernel_rfl) ⟨ev19 n _ _ _ _ hx8_, ev19 n _ _ _ _ hx5_, ev14 n  _ hx1_, rfl, R40.rows_len _, R40.view (rfl), trivial⟩
  ·
    subst c0_
    have e_ := Option.some.inj h9_
    subst e_
    exact run_ret (S := sp7_1) (G := [([0, 1, 1, 1, 1, 1, 1, 1, 1], [.frz { K := 69, e := 24, rows := (rows23 b69_), ts := [(10, (rows23 b69_))], cs := [] }])]) (sc := [(0, .call 14 (res14 false) (outs14 false))]) (obs := [CallOK Try.prog ann 14 [] (res14 false) (outs14 false), some (flatS (rows23 b69_)) = some (flatS (rows23 b69_)), ∀ r ∈ (rows23 b69_), r.length = Program.cellsOf Try.prog 24, okView (rows23 b69_) (.ms 69 24 0 b69_.length) (rows23 b69_)]) (by kernel_rfl) ⟨ev14 n  _ hx1_, rfl, R40.rows_len _, R40.view (rfl), trivial⟩

def sp7_2 : Stops := [([0, 1, 0, 1, 1, 1, 1, 1, 1, 1], [(7, .same), (9, .own 24), (10, .same), (41, .nrm), (42, .same), (43, .same)], [(7, [.same, .same, .same, .same, .same, .same, .same, .same, .same, .same, .same, .same, .nrm]), (69, [])])]
def B7_2 (n : Nat) (codes0 : (List Int)) (raw1 : TPredicate) : Option Bool :=
  (F10 n codes0 160).bind fun x4_ =>
  (F11 n x4_ 5).bind fun x7_ =>
  (F12 n x7_.2 x7_.1 [] 3).bind fun x11_ =>
  (F25 n x11_.1).bind fun x15_ =>
  (F27 n x11_.1).bind fun x19_ =>
  (F26 n x15_ x19_).bind fun x20_ =>
  if !x20_ then
    some false
  else
    (F25 n raw1).bind fun x24_ =>
    (F27 n raw1).bind fun x26_ =>
    (F26 n x24_ x26_).bind fun x27_ =>
    if !x27_ then
      some false
    else
      (F17 n x11_.2 x7_.1 0 3).bind fun x32_ =>
      (F17 n x32_.2 x7_.1 0 3).bind fun x35_ =>
      L7_0 (B7_1 n) n x32_.1 x15_ (x15_.length : Int) 0 x11_.1 x35_.1

theorem b7_2 (n : Nat) (codes0 : (List Int)) (raw1 : TPredicate) (r : Bool) (h : B7_2 n codes0 raw1 = some r) : At e7 [] (st7_2 codes0 raw1) (res7 r) (outs7 r) := by
  unfold B7_2 at h
  refine bind_elim h (fun x4_ hx4_ h12_ => ?_)
  refine bind_elim h12_ (fun x7_ hx7_ h13_ => ?_)
  refine bind_elim h13_ (fun x11_ hx11_ h14_ => ?_)
  refine bind_elim h14_ (fun x15_ hx15_ h15_ => ?_)
  refine bind_elim h15_ (fun x19_ hx19_ h16_ => ?_)
  refine bind_elim h16_ (fun x20_ hx20_ h17_ => ?_)
  refine ite_elim h17_ (fun c0_ h18_ => ?_) (fun c0_ h18_ => ?_)
  ·
    have e_ := Option.some.inj h18_
    subst e_
    exact run_ret (S := sp7_2) (G := []) (sc := [(3, .call 10 (res10 x4_) (outs10 x4_)), (2, .call 11 (res11 x7_) (outs11 x7_)), (3, .call 12 (res12 x11_) (outs12 x11_)), (3, .call 25 (res25 x15_) (outs25 x15_)), (3, .call 27 (res27 x19_) (outs27 x19_)), (0, .call 26 (res26 x20_) (outs26 x20_)), (0, .eq (.bool true))]) (obs := [AV.bool (!x20_) = .bool true, CallOK Try.prog ann 26 [.slice .sh (rows3 x15_), .slice .sh (rows3 x19_)] (res26 x20_) (outs26 x20_), CallOK Try.prog ann 27 [.agg (enc28 x11_.1)] (res27 x19_) (outs27 x19_), CallOK Try.prog ann 25 [.agg (enc28 x11_.1)] (res25 x15_) (outs25 x15_), CallOK Try.prog ann 12 [.ptr (enc57 x7_.2), .slice .sh (rows3 x7_.1), .slice .sh [], .int .i64 3] (res12 x11_) (outs12 x11_), CallOK Try.prog ann 11 [.ptr (enc57 x4_), .int .i64 5] (res11 x7_) (outs11 x7_), CallOK Try.prog ann 10 [.slice .sh (rows5 codes0), .int .i64 160] (res10 x4_) (outs10 x4_)]) (by kernel_rfl) ⟨congrArg AV.bool c0_, ev26 n _ _ _ hx20_, ev27 n _ _ hx19_, ev25 n _ _ hx15_, ev12 n _ _ _ _ _ hx11_, ev11 n _ _ _ hx7_, ev10 n _ _ _ hx4_, trivial⟩
  ·
    refine bind_elim h18_ (fun x24_ hx24_ h19_ => ?_)
    refine bind_elim h19_ (fun x26_ hx26_ h20_ => ?_)
    refine bind_elim h20_ (fun x27_ hx27_ h21_ => ?_)
    refine ite_elim h21_ (fun c1_ h22_ => ?_) (fun c1_ h22_ => ?_)
    ·
      have e_ := Option.some.inj h22_
      subst e_
      exact run_ret (S := sp7_2) (G := []) (sc := [(3, .call 10 (res10 x4_) (outs10 x4_)), (2, .call 11 (res11 x7_) (outs11 x7_)), (3, .call 12 (res12 x11_) (outs12 x11_)), (3, .call 25 (res25 x15_) (outs25 x15_)), (3, .call 27 (res27 x19_) (outs27 x19_)), (0, .call 26 (res26 x20_) (outs26 x20_)), (0, .eq (.bool false)), (2, .call 25 (res25 x24_) (outs25 x24_)), (1, .call 27 (res27 x26_) (outs27 x26_)), (0, .call 26 (res26 x27_) (outs26 x27_)), (0, .eq (.bool true))]) (obs := [AV.bool (!x27_) = .bool true, CallOK Try.prog ann 26 [.slice .sh (rows3 x24_), .slice .sh (rows3 x26_)] (res26 x27_) (outs26 x27_), CallOK Try.prog ann 27 [.agg (enc28 raw1)] (res27 x26_) (outs27 x26_), CallOK Try.prog ann 25 [.agg (enc28 raw1)] (res25 x24_) (outs25 x24_), AV.bool (!x20_) = .bool false, CallOK Try.prog ann 26 [.slice .sh (rows3 x15_), .slice .sh (rows3 x19_)] (res26 x20_) (outs26 x20_), CallOK Try.prog ann 27 [.agg (enc28 x11_.1)] (res27 x19_) (outs27 x19_), CallOK Try.prog ann 25 [.agg (enc28 x11_.1)] (res25 x15_) (outs25 x15_), CallOK Try.prog ann 12 [.ptr (enc57 x7_.2), .slice .sh (rows3 x7_.1), .slice .sh [], .int .i64 3] (res12 x11_) (outs12 x11_), CallOK Try.prog ann 11 [.ptr (enc57 x4_), .int .i64 5] (res11 x7_) (outs11 x7_), CallOK Try.prog ann 10 [.slice .sh (rows5 codes0), .int .i64 160] (res10 x4_) (outs10 x4_)]) (by kernel_rfl) ⟨congrArg AV.bool c1_, ev26 n _ _ _ hx27_, ev27 n _ _ hx26_, ev25 n _ _ hx24_, congrArg AV.bool c0_, ev26 n _ _ _ hx20_, ev27 n _ _ hx19_, ev25 n _ _ hx15_, ev12 n _ _ _ _ _ hx11_, ev11 n _ _ _ hx7_, ev10 n _ _ _ hx4_, trivial⟩
    ·
      refine bind_elim h22_ (fun x32_ hx32_ h23_ => ?_)
      refine bind_elim h23_ (fun x35_ hx35_ h24_ => ?_)
      exact run_at (S := sp7_2) (G := [([0, 1, 0, 1, 1, 1, 1, 1, 1, 1], [.eqs [(10, .ms 69 24 0 x35_.1.length)]])]) (sc := [(3, .call 10 (res10 x4_) (outs10 x4_)), (2, .call 11 (res11 x7_) (outs11 x7_)), (3, .call 12 (res12 x11_) (outs12 x11_)), (3, .call 25 (res25 x15_) (outs25 x15_)), (3, .call 27 (res27 x19_) (outs27 x19_)), (0, .call 26 (res26 x20_) (outs26 x20_)), (0, .eq (.bool false)), (2, .call 25 (res25 x24_) (outs25 x24_)), (1, .call 27 (res27 x26_) (outs27 x26_)), (0, .call 26 (res26 x27_) (outs26 x27_)), (0, .eq (.bool false)), (3, .call 17 (res17 x32_) (outs17 x32_)), (2, .call 17 (res17 x35_) (outs17 x35_)), (3, .eq (.int .i64 (x15_.length : Int)))]) (obs := [AV.ms 69 24 0 ((rows23 x35_.1).length) = (.ms 69 24 0 x35_.1.length), AV.int .i64 ((rows3 x15_).length : Int) = .int .i64 (x15_.length : Int), CallOK Try.prog ann 17 [.ptr (enc57 x32_.2), .slice .sh (rows3 x7_.1), .int .i64 0, .int .i64 3] (res17 x35_) (outs17 x35_), CallOK Try.prog ann 17 [.ptr (enc57 x11_.2), .slice .sh (rows3 x7_.1), .int .i64 0, .int .i64 3] (res17 x32_) (outs17 x32_), AV.bool (!x27_) = .bool false, CallOK Try.prog ann 26 [.slice .sh (rows3 x24_), .slice .sh (rows3 x26_)] (res26 x27_) (outs26 x27_), CallOK Try.prog ann 27 [.agg (enc28 raw1)] (res27 x26_) (outs27 x26_), CallOK Try.prog ann 25 [.agg (enc28 raw1)] (res25 x24_) (outs25 x24_), AV.bool (!x20_) = .bool false, CallOK Try.prog ann 26 [.slice .sh (rows3 x15_), .slice .sh (rows3 x19_)] (res26 x20_) (outs26 x20_), CallOK Try.prog ann 27 [.agg (enc28 x11_.1)] (res27 x19_) (outs27 x19_), CallOK Try.prog ann 25 [.agg (enc28 x11_.1)] (res25 x15_) (outs25 x15_), CallOK Try.prog ann 12 [.ptr (enc57 x7_.2), .slice .sh (rows3 x7_.1), .slice .sh [], .int .i64 3] (res12 x11_) (outs12 x11_), CallOK Try.prog ann 11 [.ptr (enc57 x4_), .int .i64 5] (res11 x7_) (outs11 x7_), CallOK Try.prog ann 10 [.slice .sh (rows5 codes0), .int .i64 160] (res10 x4_) (outs10 x4_)]) (by kernel_rfl) ⟨ms_len ((R40.rlen _).symm.symm), R30.lenOb x15_, ev17 n _ _ _ _ _ hx35_, ev17 n _ _ _ _ _ hx32_, congrArg AV.bool c1_, ev26 n _ _ _ hx27_, ev27 n _ _ hx26_, ev25 n _ _ hx24_, congrArg AV.bool c0_, ev26 n _ _ _ hx20_, ev27 n _ _ hx19_, ev25 n _ _ hx15_, ev12 n _ _ _ _ _ hx11_, ev11 n _ _ _ hx7_, ev10 n _ _ _ hx4_, trivial⟩ (l7_0 (B7_1 n) (b7_1 n) n _ _ _ _ _ _ _ h24_)

def F7 (n : Nat) (codes0 : (List Int)) (raw1 : TPredicate) : Option Bool := B7_2 n codes0 raw1
theorem ev7 (n : Nat) (codes0 : (List Int)) (raw1 : TPredicate) (r : Bool) (h : F7 n codes0 raw1 = some r) : CallOK Try.prog ann 7 [.slice .sh (rows5 codes0), .agg (enc28 raw1)] (res7 r) (outs7 r) :=
  call_of_at (E := e7) (s := st7_2 codes0 raw1) body7 Try.func7 (by kernel_rfl) (by kernel_rfl) (by kernel_rfl) (by kernel_rfl) (by kernel_rfl) (emptyOK_of (by kernel_rfl)) (by kernel_rfl) (b7_2 n codes0 raw1 r h)

end Go.Proofs.Ytalbakjfbgkjjaa
