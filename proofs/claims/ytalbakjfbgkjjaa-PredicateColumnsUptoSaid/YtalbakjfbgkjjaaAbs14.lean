import Derived.Test.YtalbakjfbgkjjaaAbs13
import Derived.Orders
set_option linter.unusedSimpArgs false
namespace Go.Abs
open Go.RowKit

def tmpsOf (xs : List Operand) : List Nat := xs.filterMap fun | .tmp t => some t | _ => none
def guardTmps (ops : Array Oper) (o : Oper) : List Nat :=
  match o.guard with
  | some (j, _) => ((ops[j]?).bind (·.dst)).toList
  | none => []

/-- The slots that an operation reads, and writes; the boxes. -/
def rtOf (ops : Array Oper) (o : Oper) : List Nat := tmpsOf o.op.operands.toList ++ guardTmps ops o
def mutT (A : Ann) (o : Oper) : List Nat := o.dst.toList.flatMap fun d => if A.muts.contains d then A.derived (A.root d) else []
def mutB (A : Ann) (o : Oper) : List Nat := o.dst.toList.flatMap fun d => if A.muts.contains d then A.root d :: A.holders (A.root d) else []
def wtOf (ann : FuncId → Ann) (A : Ann) (o : Oper) : List Nat :=
  o.dst.toList ++
  match o.op with
  | .move x | .assign x => if o.dst.any A.takes.contains then tmpsOf [x] else []
  | .store _ _ y => tmpsOf [y]
  | .alloc _ | .box _ _ => o.dst.toList.flatMap A.derived
  | .call c =>
    match c.callee with
    | .builtin .append => tmpsOf (c.args.toList.take 1) ++ mutT A o
    | .builtin _ => []
    | .value (.func f) => o.dst.toList.flatMap A.derived ++ ((ann f).owns ++ (ann f).exin).flatMap (fun p => tmpsOf (c.args.toList[p.1]?).toList) ++ mutT A o
    | _ => o.dst.toList.flatMap A.derived ++ mutT A o
  | _ => []
def rbOf (A : Ann) (o : Oper) : List Nat :=
  match o.op with
  | .load _ x | .store _ x _ => (tmpsOf [x]).map A.root
  | .call c =>
    match c.callee with
    | .builtin .append => mutB A o
    | .builtin _ => []
    | _ => (tmpsOf c.args.toList).map A.root ++ mutB A o
  | _ => []
def wbOf (A : Ann) (o : Oper) : List Nat :=
  match o.op with
  | .load _ x => if o.dst.any A.takes.contains then (tmpsOf [x]).map A.root else []
  | .store _ x _ => (tmpsOf [x]).map A.root
  | .alloc _ | .box _ _ => o.dst.toList
  | .call c =>
    match c.callee with
    | .builtin .append => mutB A o
    | .builtin _ => []
    | _ => (tmpsOf c.args.toList).map A.root ++ o.dst.toList ++ mutB A o
  | _ => []

def maskT (l : List Nat) (st : AS) : Nat → AV := fun t => if t ∈ l then st.tmps t else .undef
def maskB (l : List Nat) (st : AS) : Nat → Option (List AV) := fun k => if k ∈ l then st.box k else none

theorem sees_mask (l m : List Nat) (st : AS) : Sees (maskT l st) (maskB m st) st :=
  ⟨fun t => by unfold maskT; split <;> simp, fun k => by unfold maskB; split <;> simp⟩

/-- Is the operation carried out? -/
def wantedA (ops : Array Oper) (o : Oper) (T : Nat → AV) : Option Bool :=
  match o.guard with
  | none => some true
  | some (j, want) =>
    match (ops[j]?).bind (·.dst) with
    | none => some false
    | some t =>
      match T t with
      | .bool b => some (b == want)
      | .tuple _ => some false
      | _ => none

def skipUps (d : Option Nat) : Ups := { ts := (d.map fun d => (d, AV.tuple [])).toList }

def fitsB (ann : FuncId → Ann) (A : Ann) (o : Oper) (u : Ups) : Bool := u.ts.all (fun p => (wtOf ann A o).contains p.1 && decide (p.1 < A.n)) && u.bs.all (fun p => (wbOf A o).contains p.1)

def disj (l m : List Nat) : Bool := l.all fun x => !m.contains x
def indep (ann : FuncId → Ann) (A : Ann) (ops : Array Oper) (x y : Oper) : Bool :=
  disj (wtOf ann A x) (rtOf ops y) && disj (wtOf ann A x) (wtOf ann A y) && disj (wtOf ann A y) (rtOf ops x) && disj (wbOf A x) (rbOf A y) && disj (wbOf A x) (wbOf A y) && disj (wbOf A y) (rbOf A x)

def direct (ops : Array Oper) (j : Nat) : List Nat := ((ops[j]?).map fun o => (o.after.toList.filter (Region.binds .any ·)).map (·.on)).getD []
def anc (ops : Array Oper) : Nat → Nat → List Nat
  | 0, _ => []
  | n + 1, j => direct ops j ++ (direct ops j).flatMap (anc ops n)

def okDraw (ann : FuncId → Ann) (A : Ann) (ops : Array Oper) : Bool :=
  (List.range ops.size).all fun j => (direct ops j).all (· < j) && (List.range j).all fun i => (anc ops ops.size j).contains i || indep ann A ops (ops.getD i default) (ops.getD j default)

inductive AExit where
  | normal | exit (id : Nat) | ret

def AExit.toExit : AExit → Exit
  | .normal => .normal
  | .exit id => .exit id
  | .ret => .ret

/-- The exit of a block. -/
def AExit.leave (id : Nat) : AExit → AExit
  | .exit id' => if id' = id then .normal else .exit id'
  | e => e

inductive Job where
  | code (A : Ann) (c : Code) (st : AS)
  | ops (A : Ann) (all : Array Oper) (l : List Oper) (st : AS)
  | op (A : Ann) (o : Oper) (T : Nat → AV) (B : Nat → Option (List AV))
  | call (f : FuncId) (args : List AV)
inductive Out where
  | code (e : AExit) (st : AS)
  | st (st : AS)
  | ups (u : Ups)
  | res (r : AV) (outs : List (Nat × List AV))

def resVar (P : Program) (st : AS) : ResultVar → Option AV
  | .tmp t => some (st.tmps t)
  | .cell t ty =>
    match st.tmps t with
    | .loc k off =>
      match st.box k with
      | some cs => if noKeyB cs = true then (partA P ty cs off).map AV.norm else none
      | none => none
    | _ => none

/-- The results of several: data. -/
def resList (P : Program) (st : AS) : List ResultVar → Option (List AV)
  | [] => some []
  | v :: vs =>
    match resVar P st v, resList P st vs with
    | some x, some l => if x.clean then some (x.norm :: l) else none
    | _, _ => none

def resultA (P : Program) (fn : Func) (st : AS) (np : Nat) : Option AV :=
  match fn.results.toList with
  | [v] =>
    match resVar P st v with
    | some (.loc k off) => if off = 0 ∧ np ≤ k then (match st.box k with | some cs => if noKeyB cs = true then some (.ptr (cs.map AV.norm1)) else none | none => none) else none
    | some (.slice (.own e) rows) => some (.slice (.own e) rows)
    | some (.ex e rows) => some (.ex e rows)
    | some (.ms k e lo n) => if k < np then some (.ms k e lo n) else none
    | some x => if x.clean then some x.norm else none
    | none => none
  | vs => (resList P st vs).map .tuple

/-- What the boxes of the parameters hold at the end. -/
def outsA (st : AS) : Nat → List AV → Option (List (Nat × List AV))
  | _, [] => some []
  | i, x :: xs =>
    match outsA st (i + 1) xs with
    | none => none
    | some l =>
      match x.pbox with
      | some _ =>
        match st.box i with
        | some cs => some ((i, cs.map AV.norm1) :: l)
        | none => none
      | none => some l

def ptrsOk (F : Ann) : Nat → List AV → Bool
  | _, [] => true
  | i, x :: xs =>
    match x.pbox with
    | some _ => decide (F.root i = i) && noHold F i && ptrsOk F (i + 1) xs
    | none => ptrsOk F (i + 1) xs

/-- THE ABSTRACT SEMANTICS: big steps over data. -/
inductive Ev (P : Program) (ann : FuncId → Ann) : Job → Out → Prop
  | pure {A o T B u} (h : acore P A o T B = some u) : Ev P ann (.op A o T B) (.ups u)
  | callOp {A : Ann} {o : Oper} {T B} {c : Call} {x : Operand} {f ps r outs u} (h1 : o.op = .call c) (h2 : c.callee = .value x) (h3 : valA T x = .fn (.func f)) (hb : ∃ fn, P.funcs[f]? = some fn ∧ fn.body.isSome = true ∧ fn.name ≠ "runtime.NumGoroutine")
      (h4 : passAll A (ann f) T B 0 c.args.toList = some ps) (h5 : Ev P ann (.call f (ps.map Pass.arg)) (.res r outs)) (h6 : callUps A o.dst ps r outs = some u) : Ev P ann (.op A o T B) (.ups u)
  | opsNil {A all st} : Ev P ann (.ops A all [] st) (.st st)
  | opsSkip {A : Ann} {all} {o : Oper} {l st out} (h1 : wantedA all o (maskT (rtOf all o) st) = some false) (h2 : fitsB ann A o (skipUps o.dst) = true) (h3 : Ev P ann (.ops A all l (st.apply (skipUps o.dst))) out) : Ev P ann (.ops A all (o :: l) st) out
  | opsCons {A : Ann} {all} {o : Oper} {l st u out} (h1 : wantedA all o (maskT (rtOf all o) st) = some true) (h2 : Ev P ann (.op A o (maskT (rtOf all o) st) (maskB (rbOf A o) st)) (.ups u)) (h3 : fitsB ann A o u = true)
      (h4 : Ev P ann (.ops A all l (st.apply u)) out) : Ev P ann (.ops A all (o :: l) st) out
  | region {A : Ann} {id ops draw st st'} (h1 : Ev P ann (.ops A ops ops.toList st) (.st st')) (h2 : draw = true → okDraw ann A ops = true) : Ev P ann (.code A (.region id ops draw) st) (.code .normal st')
  | skip {A st} : Ev P ann (.code A .skip st) (.code .normal st)
  | seqN {A a b st st' out} (h1 : Ev P ann (.code A a st) (.code .normal st')) (h2 : Ev P ann (.code A b st') out) : Ev P ann (.code A (.seq a b) st) out
  | seqX {A a b st st' e} (h1 : Ev P ann (.code A a st) (.code e st')) (h2 : e ≠ .normal) : Ev P ann (.code A (.seq a b) st) (.code e st')
  | condT {A : Ann} {c a b st out} (h1 : valA st.tmps c = .bool true) (h2 : Ev P ann (.code A a st) out) : Ev P ann (.code A (.cond c a b) st) out
  | condF {A : Ann} {c a b st out} (h1 : valA st.tmps c = .bool false) (h2 : Ev P ann (.code A b st) out) : Ev P ann (.code A (.cond c a b) st) out
  | block {A id c st st' e} (h1 : Ev P ann (.code A c st) (.code e st')) : Ev P ann (.code A (.block id c) st) (.code (e.leave id) st')
  | loopN {A c st st' out} (h1 : Ev P ann (.code A c st) (.code .normal st')) (h2 : Ev P ann (.code A (.loop c) st') out) : Ev P ann (.code A (.loop c) st) out
  | loopX {A c st st' e} (h1 : Ev P ann (.code A c st) (.code e st')) (h2 : e ≠ .normal) : Ev P ann (.code A (.loop c) st) (.code e st')
  | weak {A c st st' e st''} (h1 : Wkn st st') (h2 : Ev P ann (.code A c st') (.code e st'')) : Ev P ann (.code A c st) (.code e st'')
  | frz {A c st st' e st'' K el rows} (h1 : Frz P A st st' K el rows) (h2 : Ev P ann (.code A c st') (.code e st'')) : Ev P ann (.code A c st) (.code e st'')
  | exit {A id st} : Ev P ann (.code A (.exit id) st) (.code (.exit id) st)
  | ret {A st} : Ev P ann (.code A .ret st) (.code .ret st)
  | call {f fn c args st' e r outs} (h1 : P.funcs[f]? = some fn) (h2 : fn.body = some c) (h3 : (ann f).n = fn.ntmps) (h4 : (ann f).np = args.length) (h5 : args.length ≤ fn.ntmps) (h6 : ptrsOk (ann f) 0 args = true)
      (h7 : Ev P ann (.code (ann f) c (initAS args)) (.code e st')) (h8 : e = .normal ∨ e = .ret) (h9 : resultA P fn st' args.length = some r) (h10 : outsA st' 0 args = some outs) (h11 : EmptyOK args outs) : Ev P ann (.call f args) (.res r outs)
  | ext {f args r outs} (h : SoundCall P ann f args r outs) : Ev P ann (.call f args) (.res r outs)

end Go.Abs
