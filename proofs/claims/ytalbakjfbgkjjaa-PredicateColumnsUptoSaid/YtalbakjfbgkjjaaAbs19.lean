import Derived.Test.YtalbakjfbgkjjaaAbs18
set_option linter.unusedSimpArgs false
namespace Go.Abs
open Go.RowKit

/-- A part of a code, by its way from the top. -/
def part1 : Code → Nat → Code
  | .seq a _, 0 => a
  | .seq _ b, _ => b
  | .cond _ a _, 0 => a
  | .cond _ _ b, _ => b
  | .block _ c, _ => c
  | .loop c, _ => c
  | _, _ => .skip
def sub (c : Code) (p : List Nat) : Code := p.foldl part1 c

def bodyOf (f : Func) : Code := f.body.getD .skip

def isSeq : Code → Bool | .seq _ _ => true | _ => false
def isLoop : Code → Bool | .loop _ => true | _ => false
def blockId : Code → Option Nat | .block id _ => some id | _ => none
def condOp : Code → Option Operand | .cond c _ _ => some c | _ => none
def isSkip : Code → Bool | .skip => true | _ => false
def isRet : Code → Bool | .ret => true | _ => false
def exitId : Code → Option Nat | .exit id => some id | _ => none
def regOps : Code → Option (List Oper) | .region _ ops _ => some ops.toList | _ => none
def regDraw : Code → Bool | .region _ _ d => d | _ => false

theorem sub_append (c : Code) (p q : List Nat) : sub c (p ++ q) = sub (sub c p) q := List.foldl_append

variable {P : Program} {ann : FuncId → Ann} {A : Ann} {st : AS} {ks : List KI} {Q : AExit → AS → Prop} {c : Code} {p : List Nat}

theorem at_seq (h : isSeq (sub c p) = true) (k : Wk P ann A (sub c (p ++ [0])) st (.code (sub c (p ++ [1])) :: ks) Q) : Wk P ann A (sub c p) st ks Q := by
  rw [sub_append, sub_append] at k
  cases hc : sub c p <;> simp [isSeq, hc] at h
  rw [hc] at k
  exact Wk_seq k
theorem at_block {id : Nat} (h : blockId (sub c p) = some id) (k : Wk P ann A (sub c (p ++ [0])) st (.block id :: ks) Q) : Wk P ann A (sub c p) st ks Q := by
  rw [sub_append] at k
  cases hc : sub c p <;> simp [blockId, hc] at h
  subst h
  rw [hc] at k
  exact Wk_block k
/-- A loop, one round: the rest of it stands among what is to come. -/
theorem at_loop (h : isLoop (sub c p) = true) (k : Wk P ann A (sub c (p ++ [0])) st (.loop (sub c (p ++ [0])) :: ks) Q) : Wk P ann A (sub c p) st ks Q := by
  rw [sub_append] at k
  cases hc : sub c p <;> simp [isLoop, hc] at h
  rw [hc] at k
  exact Wk_loop k
theorem loop_eq (h : isLoop (sub c p) = true) : Code.loop (sub c (p ++ [0])) = sub c p := by
  rw [sub_append]
  cases hc : sub c p <;> simp [isLoop, hc] at h
  rfl
theorem at_skip (h : isSkip (sub c p) = true) (k : resume P ann A ks .normal st Q) : Wk P ann A (sub c p) st ks Q := by
  cases hc : sub c p <;> simp [isSkip, hc] at h
  exact Wk_skip k
theorem at_ret (h : isRet (sub c p) = true) (k : resume P ann A ks .ret st Q) : Wk P ann A (sub c p) st ks Q := by
  cases hc : sub c p <;> simp [isRet, hc] at h
  exact Wk_ret k
theorem at_exit {id : Nat} (h : exitId (sub c p) = some id) (k : resume P ann A ks (.exit id) st Q) : Wk P ann A (sub c p) st ks Q := by
  cases hc : sub c p <;> simp [exitId, hc] at h
  subst h
  exact Wk_exit k
/-- A test. -/
def condP (v : AV) (x y : Prop) : Prop :=
  match v with
  | .bool true => x
  | .bool false => y
  | _ => False
theorem condP_bool (b : Bool) (x y : Prop) : condP (.bool b) x y = if b = true then x else y := by cases b <;> simp [condP]
theorem at_cond {x : Operand} (h : condOp (sub c p) = some x) (k : condP (valA st.tmps x) (Wk P ann A (sub c (p ++ [0])) st ks Q) (Wk P ann A (sub c (p ++ [1])) st ks Q)) : Wk P ann A (sub c p) st ks Q := by
  rw [sub_append, sub_append] at k
  cases hc : sub c p <;> simp [condOp, hc] at h
  subst h
  rw [hc] at k
  unfold condP at k
  split at k
  · rename_i hv; exact Wk_cond hv (fun _ => k) (fun h => by simp at h)
  · rename_i hv; exact Wk_cond hv (fun h => by simp at h) (fun _ => k)
  · exact k.elim

def isCall (o : Oper) : Bool :=
  match o.op with
  | .call c => (match c.callee with | .builtin _ => false | _ => true)
  | _ => false

/-- Binds whose rest the simplifier does not enter before its time. -/
def thenB {α β : Type} (x : Option α) (f : α → Option β) : Option β := x.bind f
@[congr] theorem thenB_congr {α β : Type} {x y : Option α} {f : α → Option β} (h : x = y) : thenB x f = thenB y f := by rw [h]
theorem thenB_some {α β : Type} (a : α) (f : α → Option β) : thenB (some a) f = f a := rfl
theorem thenB_none {α β : Type} (f : α → Option β) : thenB none f = none := rfl
def thenP {α : Type} (x : Option α) (f : α → Prop) : Prop := match x with | some a => f a | none => False
@[congr] theorem thenP_congr {α : Type} {x y : Option α} {f : α → Prop} (h : x = y) : thenP x f = thenP y f := by rw [h]
theorem thenP_some {α : Type} (a : α) (f : α → Prop) : thenP (some a) f = f a := rfl
theorem thenP_none {α : Type} (f : α → Prop) : thenP none f = False := rfl
theorem thenP_ite {α : Type} (b : Prop) [Decidable b] (x y : Option α) (f : α → Prop) : thenP (if b then x else y) f = if b then thenP x f else thenP y f := by split <;> rfl

/-- One operation that calls no function. -/
def stepC (P : Program) (ann : FuncId → Ann) (A : Ann) (all : Array Oper) (o : Oper) (st : AS) : Option AS :=
  thenB (wantedA all o (maskT (rtOf all o) st)) fun b =>
    if b = true then thenB (acore P A o (maskT (rtOf all o) st) (maskB (rbOf A o) st)) fun u => if fitsB ann A o u = true then some (st.apply u) else none
    else if fitsB ann A o (skipUps o.dst) = true then some (st.apply (skipUps o.dst)) else none

theorem stepC_eq (P : Program) (ann : FuncId → Ann) (A : Ann) (all : Array Oper) (o : Oper) (st : AS) : stepC P ann A all o st = stepA P ann A all o st := by
  unfold stepC stepA
  cases wantedA all o (maskT (rtOf all o) st) with
  | none => rfl
  | some b =>
    cases b with
    | false => rfl
    | true =>
      simp only [thenB_some, if_true]
      cases acore P A o (maskT (rtOf all o) st) (maskB (rbOf A o) st) <;> rfl

/-- The run of operations as far as the first call. -/
def runQ (P : Program) (ann : FuncId → Ann) (A : Ann) (all : Array Oper) : List Oper → AS → (List Oper → AS → Prop) → Prop
  | [], st, K => K [] st
  | o :: l, st, K => if isCall o = true then K (o :: l) st else thenP (stepC P ann A all o st) fun st' => runQ P ann A all l st' K
@[congr] theorem runQ_congr {all : Array Oper} {l : List Oper} {s t : AS} {K : List Oper → AS → Prop} (h : s = t) : runQ P ann A all l s K = runQ P ann A all l t K := by rw [h]

theorem runQ_sound {all : Array Oper} : ∀ (l : List Oper) (st : AS), runQ P ann A all l st (fun l' st' => WO P ann A all l' st' ks Q) → WO P ann A all l st ks Q
  | [], st, h => h
  | o :: l, st, h => by
    unfold runQ at h
    split at h
    · exact h
    · rw [stepC_eq] at h
      unfold thenP at h
      split at h
      · rename_i st' hs; exact WO_step hs (runQ_sound l st' h)
      · exact h.elim

/-- What is next: nothing, or a call. -/
theorem at_region {ops : List Oper} (h : regOps (sub c p) = some ops) (hd : regDraw (sub c p) = true → okDraw ann A ops.toArray = true)
    (k : runQ P ann A ops.toArray ops st (fun l' st' => WO P ann A ops.toArray l' st' ks Q)) : Wk P ann A (sub c p) st ks Q := by
  cases hc : sub c p <;> simp [regOps, hc] at h
  rename_i id ops' draw
  subst h
  refine Wk_region (fun hdr => ?_) (by simpa using runQ_sound _ _ k)
  have := hd (by rw [hc]; exact hdr)
  simpa using this

/-- A call: the arguments are reckoned, the callee's contract is asked for, the rest follows. -/
def callP (P : Program) (ann : FuncId → Ann) (A : Ann) (all : Array Oper) (o : Oper) (l : List Oper) (st : AS) (ks : List KI) (Q : AExit → AS → Prop) (f : FuncId) (ps : Option (List Pass)) : Prop :=
  thenP ps fun ps => ∃ r outs, Ev P ann (.call f (ps.map Pass.arg)) (.res r outs) ∧
    thenP (callUps A o.dst ps r outs) fun u => fitsB ann A o u = true ∧ runQ P ann A all l (st.apply u) (fun l' st' => WO P ann A all l' st' ks Q)

def calleeOf (o : Oper) : Option Operand :=
  match o.op with
  | .call c => (match c.callee with | .value x => some x | _ => none)
  | _ => none
def argsOf (o : Oper) : List Operand :=
  match o.op with
  | .call c => c.args.toList
  | _ => []

theorem WO_callP {all : Array Oper} {o : Oper} {l : List Oper} {x : Operand} {f : FuncId} (h2 : calleeOf o = some x) (h3 : valA (maskT (rtOf all o) st) x = .fn (.func f)) (hb : ∃ fn, P.funcs[f]? = some fn ∧ fn.body.isSome = true ∧ fn.name ≠ "runtime.NumGoroutine")
    (hw : wantedA all o (maskT (rtOf all o) st) = some true) (h : callP P ann A all o l st ks Q f (passAll A (ann f) (maskT (rtOf all o) st) (maskB (rbOf A o) st) 0 (argsOf o))) : WO P ann A all (o :: l) st ks Q := by
  unfold callP thenP at h
  split at h
  · rename_i ps hps
    obtain ⟨r, outs, h5, h6⟩ := h
    split at h6
    · rename_i u hu
      cases hop : o.op with
      | call cc =>
        simp only [calleeOf, hop] at h2
        simp only [argsOf, hop] at hps
        split at h2
        · rename_i y hy
          simp at h2; subst h2
          exact WO_call hw hop hy h3 hb hps h5 hu h6.1 (runQ_sound _ _ h6.2)
        · simp at h2
      | _ => simp [calleeOf, hop] at h2
    · exact h6.elim
  · exact h.elim

theorem WO_skipP {all : Array Oper} {o : Oper} {l : List Oper} (hw : wantedA all o (maskT (rtOf all o) st) = some false) (hf : fitsB ann A o (skipUps o.dst) = true)
    (h : runQ P ann A all l (st.apply (skipUps o.dst)) (fun l' st' => WO P ann A all l' st' ks Q)) : WO P ann A all (o :: l) st ks Q := by
  obtain ⟨st'', q1, q2⟩ := runQ_sound l _ h
  exact ⟨st'', .opsSkip hw hf q1, q2⟩

theorem resume_nil {e : AExit} : resume P ann A [] e st Q = Q e st := by cases e <;> rfl
theorem resume_code {c : Code} : resume P ann A (.code c :: ks) .normal st Q = Wk P ann A c st ks Q := rfl
theorem resume_code_ret {c : Code} : resume P ann A (.code c :: ks) .ret st Q = resume P ann A ks .ret st Q := rfl
theorem resume_code_exit {c : Code} {id : Nat} : resume P ann A (.code c :: ks) (.exit id) st Q = resume P ann A ks (.exit id) st Q := rfl
theorem resume_block {e : AExit} {id : Nat} : resume P ann A (.block id :: ks) e st Q = resume P ann A ks (e.leave id) st Q := by cases e <;> rfl
theorem resume_loop {c : Code} : resume P ann A (.loop c :: ks) .normal st Q = Wk P ann A (.loop c) st ks Q := rfl
theorem resume_loop_ret {c : Code} : resume P ann A (.loop c :: ks) .ret st Q = resume P ann A ks .ret st Q := rfl
theorem resume_loop_exit {c : Code} {id : Nat} : resume P ann A (.loop c :: ks) (.exit id) st Q = resume P ann A ks (.exit id) st Q := rfl
theorem leave_normal {id : Nat} : AExit.leave id .normal = .normal := rfl
theorem leave_ret {id : Nat} : AExit.leave id .ret = .ret := rfl
theorem leave_exit {id id' : Nat} : AExit.leave id (.exit id') = if id' = id then .normal else .exit id' := rfl

theorem WO_end {all : Array Oper} : resume P ann A ks .normal st Q → WO P ann A all [] st ks Q := WO_nil

/-- A function, by its parts. -/
theorem ev_fn {f : FuncId} {fn : Func} {args : List AV} {r : AV} {outs : List (Nat × List AV)} (h1 : P.funcs[f]? = some fn) (h2 : fn.body.isSome = true) (h3 : (ann f).n = fn.ntmps) (h4 : (ann f).np = args.length) (h5 : decide (args.length ≤ fn.ntmps) = true)
    (h6 : ptrsOk (ann f) 0 args = true) (hE : EmptyOK args outs)
    (h7 : Wk P ann (ann f) (sub (bodyOf fn) []) (initAS args) [] fun e st' => (e = .normal ∨ e = .ret) ∧ resultA P fn st' args.length = some r ∧ outsA st' 0 args = some outs) : Ev P ann (.call f args) (.res r outs) := by
  obtain ⟨cc, hc⟩ := Option.isSome_iff_exists.1 h2
  refine ev_of_body h1 hc h3 h4 (of_decide_eq_true h5) h6 hE ?_
  simpa [sub, bodyOf, hc] using h7

theorem tmps_init (args : List AV) (t : Nat) : (initAS args).tmps t = match args[t]? with | some x => x.pslot t | none => .tuple [] := rfl
theorem box_init (args : List AV) (k : Nat) : (initAS args).box k = (args[k]?).bind AV.pbox := rfl

end Go.Abs
