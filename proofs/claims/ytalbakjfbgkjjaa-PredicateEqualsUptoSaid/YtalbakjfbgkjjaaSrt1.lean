/- Functions of the program as plain functions, and that the program answers as they do; written by a program (comp.py). -/
import Derived.Test.YtalbakjfbgkjjaaSrt0
set_option maxRecDepth 100000
set_option linter.all false
namespace Go.Proofs.Ytalbakjfbgkjjaa
open Go.Abs

/-- slices.partitionEqualOrdered[int] -/
noncomputable def e87 : Env := { P := Try.prog, ann := ann, f := 87, fn := Try.f87, ptrs := [], rets := [(8, .same)] }
def st87_0 (data0 : (List Int)) (a1 : Int) (b2 : Int) (pivot3 : Int) : LS := ⟨[(0, .slice .sh (rows3 data0)), (1, .int .i64 a1), (2, .int .i64 b2), (3, .int .i64 pivot3)], []⟩
def sp87_0 : Stops := []
def B87_0 (n : Nat) (data0 : (List Int)) (a1 : Int) (b2 : Int) (pivot3 : Int) : Option Int :=
  (idx data0 pivot3).bind fun x8_ =>
  (idx data0 a1).bind fun x12_ =>
  (idx data0 a1).bind fun x14_ =>
  none

theorem b87_0 (n : Nat) (data0 : (List Int)) (a1 : Int) (b2 : Int) (pivot3 : Int) (r : Int) (h : B87_0 n data0 a1 b2 pivot3 = some r) : At e87 [] (st87_0 data0 a1 b2 pivot3) (res87 r) (outs87 r) := by
  unfold B87_0 at h
  refine bind_elim h (fun x8_ hx8_ h1_ => ?_)
  refine bind_elim h1_ (fun x12_ hx12_ h2_ => ?_)
  refine bind_elim h2_ (fun x14_ hx14_ h3_ => ?_)
  cases h3_

def F87 (n : Nat) (data0 : (List Int)) (a1 : Int) (b2 : Int) (pivot3 : Int) : Option Int := B87_0 n data0 a1 b2 pivot3
theorem ev87 (n : Nat) (data0 : (List Int)) (a1 : Int) (b2 : Int) (pivot3 : Int) (r : Int) (h : F87 n data0 a1 b2 pivot3 = some r) : CallOK Try.prog ann 87 [.slice .sh (rows3 data0), .int .i64 a1, .int .i64 b2, .int .i64 pivot3] (res87 r) (outs87 r) :=
  call_of_at (E := e87) (s := st87_0 data0 a1 b2 pivot3) body87 Try.func87 (by kernel_rfl) (by kernel_rfl) (by kernel_rfl) (by kernel_rfl) (by kernel_rfl) (emptyOK_of (by kernel_rfl)) (by kernel_rfl) (b87_0 n data0 a1 b2 pivot3 r h)

/-- slices.partitionOrdered[int] -/
noncomputable def e88 : Env := { P := Try.prog, ann := ann, f := 88, fn := Try.f88, ptrs := [], rets := [(8, .same), (9, .same)] }
def st88_0 (data0 : (List Int)) (a1 : Int) (b2 : Int) (pivot3 : Int) : LS := ⟨[(0, .slice .sh (rows3 data0)), (1, .int .i64 a1), (2, .int .i64 b2), (3, .int .i64 pivot3)], []⟩
def sp88_0 : Stops := []
def B88_0 (n : Nat) (data0 : (List Int)) (a1 : Int) (b2 : Int) (pivot3 : Int) : Option (Int × Bool) :=
  (idx data0 pivot3).bind fun x9_ =>
  (idx data0 a1).bind fun x13_ =>
  (idx data0 a1).bind fun x15_ =>
  none

theorem b88_0 (n : Nat) (data0 : (List Int)) (a1 : Int) (b2 : Int) (pivot3 : Int) (r : (Int × Bool)) (h : B88_0 n data0 a1 b2 pivot3 = some r) : At e88 [] (st88_0 data0 a1 b2 pivot3) (res88 r) (outs88 r) := by
  unfold B88_0 at h
  refine bind_elim h (fun x9_ hx9_ h1_ => ?_)
  refine bind_elim h1_ (fun x13_ hx13_ h2_ => ?_)
  refine bind_elim h2_ (fun x15_ hx15_ h3_ => ?_)
  cases h3_

def F88 (n : Nat) (data0 : (List Int)) (a1 : Int) (b2 : Int) (pivot3 : Int) : Option (Int × Bool) := B88_0 n data0 a1 b2 pivot3
theorem ev88 (n : Nat) (data0 : (List Int)) (a1 : Int) (b2 : Int) (pivot3 : Int) (r : (Int × Bool)) (h : F88 n data0 a1 b2 pivot3 = some r) : CallOK Try.prog ann 88 [.slice .sh (rows3 data0), .int .i64 a1, .int .i64 b2, .int .i64 pivot3] (res88 r) (outs88 r) :=
  call_of_at (E := e88) (s := st88_0 data0 a1 b2 pivot3) body88 Try.func88 (by kernel_rfl) (by kernel_rfl) (by kernel_rfl) (by kernel_rfl) (by kernel_rfl) (emptyOK_of (by kernel_rfl)) (by kernel_rfl) (b88_0 n data0 a1 b2 pivot3 r h)

/-- slices.pdqsortOrdered[int] -/
noncomputable def e74 : Env := { P := Try.prog, ann := ann, f := 74, fn := Try.f74, ptrs := [], rets := [] }
def st74_0 (data0 : (List Int)) (a1 : Int) (b2 : Int) (limit3 : Int) (wasBalanced8 : Bool) (wasPartitioned9 : Bool) : LS := ⟨[(0, .slice .sh (rows3 data0)), (1, .int .i64 a1), (2, .int .i64 b2), (3, .int .i64 limit3), (8, .bool wasBalanced8), (9, .bool wasPartitioned9)], []⟩
def st74_1 (data0 : (List Int)) (a1 : Int) (b2 : Int) (limit3 : Int) : LS := ⟨[(0, .slice .sh (rows3 data0)), (1, .int .i64 a1), (2, .int .i64 b2), (3, .int .i64 limit3)], []⟩
def sp74_0 : Stops := []
def B74_0 (back : (List Int) → Int → Int → Int → Bool → Bool → Option Unit) (n : Nat) (data0 : (List Int)) (a1 : Int) (b2 : Int) (limit3 : Int) (wasBalanced8 : Bool) (wasPartitioned9 : Bool) : Option Unit :=
  if decide ((w64 (b2 - a1)) ≤ 12) then
    (F80 n data0 a1 b2).bind fun x10_ =>
    some ()
  else
    none

theorem b74_0 (back : (List Int) → Int → Int → Int → Bool → Bool → Option Unit) (hback : ∀ (data0 : (List Int)) (a1 : Int) (b2 : Int) (limit3 : Int) (wasBalanced8 : Bool) (wasPartitioned9 : Bool) (r : Unit), back data0 a1 b2 limit3 wasBalanced8 wasPartitioned9 = some r → At e74 [0, 1, 1] (st74_0 data0 a1 b2 limit3 wasBalanced8 wasPartitioned9) (res74 r) (outs74 r)) (n : Nat) (data0 : (List Int)) (a1 : Int) (b2 : Int) (limit3 : Int) (wasBalanced8 : Bool) (wasPartitioned9 : Bool) (r : Unit) (h : B74_0 back n data0 a1 b2 limit3 wasBalanced8 wasPartitioned9 = some r) : At e74 [0, 1, 1] (st74_0 data0 a1 b2 limit3 wasBalanced8 wasPartitioned9) (res74 r) (outs74 r) := by
  unfold B74_0 at h
  refine ite_elim h (fun c0_ h1_ => ?_) (fun c0_ h1_ => ?_)
  ·
    refine bind_elim h1_ (fun x10_ hx10_ h2_ => ?_)
    have e_ := Option.some.inj h2_
    subst e_
    exact run_ret (S := sp74_0) (G := []) (sc := [(5, .eq (.bool true)), (3, .call 80 (res80 x10_) (outs80 x10_))]) (obs := [CallOK Try.prog ann 80 [.slice .sh (rows3 data0), .int .i64 a1, .int .i64 b2] (res80 x10_) (outs80 x10_), AV.bool (decide ((w64 (b2 - a1)) ≤ 12)) = .bool true]) (by kernel_rfl) ⟨ev80 n _ _ _ _ hx10_, congrArg AV.bool c0_, trivial⟩
  ·
    cases h1_

def L74_0 : Nat → (List Int) → Int → Int → Int → Bool → Bool → Option Unit
  | 0, _, _, _, _, _, _ => none
  | n + 1, data0, a1, b2, limit3, wasBalanced8, wasPartitioned9 => B74_0 (L74_0 n) n data0 a1 b2 limit3 wasBalanced8 wasPartitioned9
theorem l74_0 : ∀ (n : Nat) (data0 : (List Int)) (a1 : Int) (b2 : Int) (limit3 : Int) (wasBalanced8 : Bool) (wasPartitioned9 : Bool) (r : Unit), L74_0 n data0 a1 b2 limit3 wasBalanced8 wasPartitioned9 = some r → At e74 [0, 1, 1] (st74_0 data0 a1 b2 limit3 wasBalanced8 wasPartitioned9) (res74 r) (outs74 r)
  | 0, _, _, _, _, _, _, _, h => by simp [L74_0] at h
  | n + 1, data0, a1, b2, limit3, wasBalanced8, wasPartitioned9, r, h => b74_0 (L74_0 n) (l74_0 n) n data0 a1 b2 limit3 wasBalanced8 wasPartitioned9 r h
def sp74_1 : Stops := [([0, 1, 1], [(0, .nrm), (1, .same), (2, .same), (3, .same), (8, .same), (9, .same)], [])]
def B74_1 (n : Nat) (data0 : (List Int)) (a1 : Int) (b2 : Int) (limit3 : Int) : Option Unit :=
  L74_0 n data0 a1 b2 limit3 true true

theorem b74_1 (n : Nat) (data0 : (List Int)) (a1 : Int) (b2 : Int) (limit3 : Int) (r : Unit) (h : B74_1 n data0 a1 b2 limit3 = some r) : At e74 [] (st74_1 data0 a1 b2 limit3) (res74 r) (outs74 r) := by
  unfold B74_1 at h
  exact run_at (S := sp74_1) (G := []) (sc := []) (obs := []) (by kernel_rfl) trivial (l74_0 n _ _ _ _ _ _ _ h)

def F74 (n : Nat) (data0 : (List Int)) (a1 : Int) (b2 : Int) (limit3 : Int) : Option Unit := B74_1 n data0 a1 b2 limit3
theorem ev74 (n : Nat) (data0 : (List Int)) (a1 : Int) (b2 : Int) (limit3 : Int) (r : Unit) (h : F74 n data0 a1 b2 limit3 = some r) : CallOK Try.prog ann 74 [.slice .sh (rows3 data0), .int .i64 a1, .int .i64 b2, .int .i64 limit3] (res74 r) (outs74 r) :=
  call_of_at (E := e74) (s := st74_1 data0 a1 b2 limit3) body74 Try.func74 (by kernel_rfl) (by kernel_rfl) (by kernel_rfl) (by kernel_rfl) (by kernel_rfl) (emptyOK_of (by kernel_rfl)) (by kernel_rfl) (b74_1 n data0 a1 b2 limit3 r h)

/-- slices.Sort[[]int,int] -/
noncomputable def e52 : Env := { P := Try.prog, ann := ann, f := 52, fn := Try.f52, ptrs := [], rets := [] }
def st52_0 (x0 : (List Int)) : LS := ⟨[(0, .slice .sh (rows3 x0))], []⟩
def sp52_0 : Stops := []
def B52_0 (n : Nat) (x0 : (List Int)) : Option Unit :=
  (F75 n (IntKind.wrap .u64 ((x0.length : Int)))).bind fun x8_ =>
  (F74 n x0 0 (x0.length : Int) x8_).bind fun x9_ =>
  some ()

theorem b52_0 (n : Nat) (x0 : (List Int)) (r : Unit) (h : B52_0 n x0 = some r) : At e52 [] (st52_0 x0) (res52 r) (outs52 r) := by
  unfold B52_0 at h
  refine bind_elim h (fun x8_ hx8_ h1_ => ?_)
  refine bind_elim h1_ (fun x9_ hx9_ h2_ => ?_)
  have e_ := Option.some.inj h2_
  subst e_
  exact run_ret (S := sp52_0) (G := []) (sc := [(1, .eq (.int .i64 (x0.length : Int))), (5, .call 75 (res75 x8_) (outs75 x8_)), (0, .call 74 (res74 x9_) (outs74 x9_))]) (obs := [CallOK Try.prog ann 74 [.slice .sh (rows3 x0), .int .i64 0, .int .i64 (x0.length : Int), .int .i64 x8_] (res74 x9_) (outs74 x9_), CallOK Try.prog ann 75 [.int .u64 (IntKind.wrap .u64 ((x0.length : Int)))] (res75 x8_) (outs75 x8_), AV.int .i64 ((rows3 x0).length : Int) = .int .i64 (x0.length : Int)]) (by kernel_rfl) ⟨ev74 n _ _ _ _ _ hx9_, ev75 n _ _ hx8_, R30.lenOb x0, trivial⟩

def F52 (n : Nat) (x0 : (List Int)) : Option Unit := B52_0 n x0
theorem ev52 (n : Nat) (x0 : (List Int)) (r : Unit) (h : F52 n x0 = some r) : CallOK Try.prog ann 52 [.slice .sh (rows3 x0)] (res52 r) (outs52 r) :=
  call_of_at (E := e52) (s := st52_0 x0) body52 Try.func52 (by kernel_rfl) (by kernel_rfl) (by kernel_rfl) (by kernel_rfl) (by kernel_rfl) (emptyOK_of (by kernel_rfl)) (by kernel_rfl) (b52_0 n x0 r h)

end Go.Proofs.Ytalbakjfbgkjjaa
