import Derived.Test.YtalbakjfbgkjjaaAbs17
set_option linter.unusedSimpArgs false
namespace Go.Abs
open Go.RowKit

/-- What is still to be run. -/
inductive KI where
  | code (c : Code) | block (id : Nat) | loop (c : Code)

variable {P : Program} {ann : FuncId → Ann} {A : Ann}

def resume (P : Program) (ann : FuncId → Ann) (A : Ann) : List KI → AExit → AS → (AExit → AS → Prop) → Prop
  | [], e, st, Q => Q e st
  | .code c :: ks, .normal, st, Q => ∃ e' st', Ev P ann (.code A c st) (.code e' st') ∧ resume P ann A ks e' st' Q
  | .code _ :: ks, .exit id, st, Q => resume P ann A ks (.exit id) st Q
  | .code _ :: ks, .ret, st, Q => resume P ann A ks .ret st Q
  | .block id :: ks, e, st, Q => resume P ann A ks (e.leave id) st Q
  | .loop c :: ks, .normal, st, Q => ∃ e' st', Ev P ann (.code A (.loop c) st) (.code e' st') ∧ resume P ann A ks e' st' Q
  | .loop _ :: ks, .exit id, st, Q => resume P ann A ks (.exit id) st Q
  | .loop _ :: ks, .ret, st, Q => resume P ann A ks .ret st Q

def Wk (P : Program) (ann : FuncId → Ann) (A : Ann) (c : Code) (st : AS) (ks : List KI) (Q : AExit → AS → Prop) : Prop :=
  ∃ e st', Ev P ann (.code A c st) (.code e st') ∧ resume P ann A ks e st' Q
def WO (P : Program) (ann : FuncId → Ann) (A : Ann) (all : Array Oper) (l : List Oper) (st : AS) (ks : List KI) (Q : AExit → AS → Prop) : Prop :=
  ∃ st', Ev P ann (.ops A all l st) (.st st') ∧ resume P ann A ks .normal st' Q

section
variable {st : AS} {ks : List KI} {Q : AExit → AS → Prop}

theorem Wk_seq {a b : Code} (h : Wk P ann A a st (.code b :: ks) Q) : Wk P ann A (.seq a b) st ks Q := by
  obtain ⟨e, st', h1, h2⟩ := h
  cases e with
  | normal => obtain ⟨e', st'', h3, h4⟩ := h2; exact ⟨e', st'', .seqN h1 h3, h4⟩
  | exit id => exact ⟨_, st', .seqX h1 (by simp), h2⟩
  | ret => exact ⟨_, st', .seqX h1 (by simp), h2⟩
theorem Wk_block {id : Nat} {c : Code} (h : Wk P ann A c st (.block id :: ks) Q) : Wk P ann A (.block id c) st ks Q := by
  obtain ⟨e, st', h1, h2⟩ := h
  exact ⟨_, st', .block h1, h2⟩
theorem Wk_loop {c : Code} (h : Wk P ann A c st (.loop c :: ks) Q) : Wk P ann A (.loop c) st ks Q := by
  obtain ⟨e, st', h1, h2⟩ := h
  cases e with
  | normal => obtain ⟨e', st'', h3, h4⟩ := h2; exact ⟨e', st'', .loopN h1 h3, h4⟩
  | exit id => exact ⟨_, st', .loopX h1 (by simp), h2⟩
  | ret => exact ⟨_, st', .loopX h1 (by simp), h2⟩
theorem Wk_skip (h : resume P ann A ks .normal st Q) : Wk P ann A .skip st ks Q := ⟨_, st, .skip, h⟩
theorem Wk_exit {id : Nat} (h : resume P ann A ks (.exit id) st Q) : Wk P ann A (.exit id) st ks Q := ⟨_, st, .exit, h⟩
theorem Wk_ret (h : resume P ann A ks .ret st Q) : Wk P ann A .ret st ks Q := ⟨_, st, .ret, h⟩
theorem Wk_region {id : Nat} {ops : Array Oper} {draw : Bool} (hd : draw = true → okDraw ann A ops = true) (h : WO P ann A ops ops.toList st ks Q) : Wk P ann A (.region id ops draw) st ks Q := by
  obtain ⟨st', h1, h2⟩ := h
  exact ⟨_, st', .region h1 hd, h2⟩
theorem Wk_cond {c : Operand} {a b : Code} {x : Bool} (hc : valA st.tmps c = .bool x) (ht : x = true → Wk P ann A a st ks Q) (hf : x = false → Wk P ann A b st ks Q) : Wk P ann A (.cond c a b) st ks Q := by
  cases x with
  | true => obtain ⟨e, st', h1, h2⟩ := ht rfl; exact ⟨e, st', .condT hc h1, h2⟩
  | false => obtain ⟨e, st', h1, h2⟩ := hf rfl; exact ⟨e, st', .condF hc h1, h2⟩
theorem WO_nil {all : Array Oper} (h : resume P ann A ks .normal st Q) : WO P ann A all [] st ks Q := ⟨st, .opsNil, h⟩

/-- One operation that calls no function: what it computes. -/
def stepA (P : Program) (ann : FuncId → Ann) (A : Ann) (all : Array Oper) (o : Oper) (st : AS) : Option AS :=
  match wantedA all o (maskT (rtOf all o) st) with
  | some true =>
    match acore P A o (maskT (rtOf all o) st) (maskB (rbOf A o) st) with
    | some u => if fitsB ann A o u = true then some (st.apply u) else none
    | none => none
  | some false => if fitsB ann A o (skipUps o.dst) = true then some (st.apply (skipUps o.dst)) else none
  | none => none

theorem WO_step {all : Array Oper} {o : Oper} {l : List Oper} {st' : AS} (hs : stepA P ann A all o st = some st') (h : WO P ann A all l st' ks Q) : WO P ann A all (o :: l) st ks Q := by
  obtain ⟨st'', h1, h2⟩ := h
  unfold stepA at hs
  split at hs
  · rename_i hw
    split at hs
    · rename_i u hu
      split at hs
      · rename_i hf
        simp at hs; subst hs
        exact ⟨st'', .opsCons hw (.pure hu) hf h1, h2⟩
      · simp at hs
    · simp at hs
  · rename_i hw
    split at hs
    · rename_i hf
      simp at hs; subst hs
      exact ⟨st'', .opsSkip hw hf h1, h2⟩
    · simp at hs
  · simp at hs

theorem WO_stepM {all : Array Oper} {o : Oper} {l : List Oper} (h : match stepA P ann A all o st with | some st' => WO P ann A all l st' ks Q | none => False) : WO P ann A all (o :: l) st ks Q := by
  split at h
  · rename_i st' hs; exact WO_step hs h
  · exact h.elim

/-- A call: its arguments. -/
theorem WO_call {all : Array Oper} {o : Oper} {l : List Oper} {c : Call} {x : Operand} {f : FuncId} {ps : List Pass} {r : AV} {outs : List (Nat × List AV)} {u : Ups} (hw : wantedA all o (maskT (rtOf all o) st) = some true)
    (h1 : o.op = .call c) (h2 : c.callee = .value x) (h3 : valA (maskT (rtOf all o) st) x = .fn (.func f)) (hb : ∃ fn, P.funcs[f]? = some fn ∧ fn.body.isSome = true ∧ fn.name ≠ "runtime.NumGoroutine")
    (h4 : passAll A (ann f) (maskT (rtOf all o) st) (maskB (rbOf A o) st) 0 c.args.toList = some ps) (h5 : Ev P ann (.call f (ps.map Pass.arg)) (.res r outs)) (h6 : callUps A o.dst ps r outs = some u) (h7 : fitsB ann A o u = true)
    (h : WO P ann A all l (st.apply u) ks Q) : WO P ann A all (o :: l) st ks Q := by
  obtain ⟨st', q1, q2⟩ := h
  exact ⟨st', .opsCons hw (.callOp h1 h2 h3 hb h4 h5 h6) h7 q1, q2⟩
end

/-- A function: its body to its end. -/
theorem ev_of_body {f : FuncId} {fn : Func} {c : Code} {args : List AV} {r : AV} {outs : List (Nat × List AV)} (h1 : P.funcs[f]? = some fn) (h2 : fn.body = some c) (h3 : (ann f).n = fn.ntmps) (h4 : (ann f).np = args.length) (h5 : args.length ≤ fn.ntmps)
    (h6 : ptrsOk (ann f) 0 args = true) (hE : EmptyOK args outs)
    (h7 : Wk P ann (ann f) c (initAS args) [] fun e st' => (e = .normal ∨ e = .ret) ∧ resultA P fn st' args.length = some r ∧ outsA st' 0 args = some outs) : Ev P ann (.call f args) (.res r outs) := by
  obtain ⟨e, st', q1, q2, q3, q4⟩ := h7
  exact .call h1 h2 h3 h4 h5 h6 q1 q2 q3 q4 hE

end Go.Abs
