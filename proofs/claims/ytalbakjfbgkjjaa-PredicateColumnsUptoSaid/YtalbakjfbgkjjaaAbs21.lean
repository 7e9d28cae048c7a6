import Derived.Test.YtalbakjfbgkjjaaAbs20
set_option linter.unusedSimpArgs false
namespace Go.Abs
open Go.RowKit

/-- A state by lists. -/
structure LS where
  ts : List (Nat × AV)
  bs : List (Nat × List AV)

noncomputable def lk {α : Type} (t : Nat) (l : List (Nat × α)) : Option α := List.rec none (fun p _ ih => cond (Nat.beq t p.1) (some p.2) ih) l
theorem lk_nil {α : Type} (t : Nat) : lk (α := α) t [] = none := rfl
theorem lk_cons {α : Type} (t k : Nat) (x : α) (l : List (Nat × α)) : lk t ((k, x) :: l) = if t = k then some x else lk t l := by
  show cond (Nat.beq t k) (some x) (lk t l) = _
  by_cases h : t = k
  · subst h; simp
  · have : Nat.beq t k = false := by
      cases hb : Nat.beq t k with
      | false => rfl
      | true => exact absurd (Nat.eq_of_beq_eq_true hb) h
    simp [this, h]
theorem lk_append {α : Type} (t : Nat) (b : List (Nat × α)) : ∀ a : List (Nat × α), lk t (a ++ b) = (a.lookup t).or (lk t b)
  | [] => by simp
  | (k, x) :: a => by
    rw [List.cons_append, lk_cons, lookup_cons_nat]
    split
    · simp
    · exact lk_append t b a

noncomputable def LS.as (s : LS) : AS := ⟨fun t => (lk t s.ts).getD .undef, fun k => lk k s.bs⟩
def LS.upd (s : LS) (u : Ups) : LS := ⟨u.ts ++ s.ts, u.bs ++ s.bs⟩
theorem LS.as_upd (s : LS) (u : Ups) : (s.upd u).as = s.as.apply u := by
  simp only [LS.as, LS.upd, AS.apply, lk_append, AS.mk.injEq]
  exact ⟨by funext t; cases u.ts.lookup t <;> simp, trivial⟩

/-- What is asked for on the way: that a value is another, that an operation computes this, that a call answers so. -/
inductive Ans where
  | eq (y : AV) | core (u : Ups) | call (f : FuncId) (r : AV) (outs : List (Nat × List AV))
abbrev Script := List (Nat × Ans)

/-- A function of this body answers so. -/
def CallOK (P : Program) (ann : FuncId → Ann) (f : FuncId) (args : List AV) (r : AV) (outs : List (Nat × List AV)) : Prop :=
  (∃ fn, P.funcs[f]? = some fn ∧ fn.body.isSome = true ∧ fn.name ≠ "runtime.NumGoroutine") ∧ Ev P ann (.call f args) (.res r outs)

def conj : List Prop → Prop
  | [] => True
  | p :: ps => p ∧ conj ps

section
variable (P : Program) (ann : FuncId → Ann) (A : Ann) (all : Array Oper)

abbrev OpsR := Option (LS × Script × List Prop)

noncomputable def useUps (o : Oper) (u : Ups) (s : LS) (sc : Script) (obs : List Prop) (ih : LS → Script → List Prop → OpsR) : OpsR :=
  match fitsB ann A o u with
  | true => ih (s.upd u) sc obs
  | false => none

noncomputable def runAns (o : Oper) (s : LS) (a : Ans) (sc : Script) (obs : List Prop) (ih : LS → Script → List Prop → OpsR) : OpsR :=
  match a with
  | .eq y =>
    match acore P A o (maskT (rtOf all o) s.as) (maskB (rbOf A o) s.as) with
    | some ⟨(d, x) :: ts, bs⟩ => useUps ann A o ⟨(d, y) :: ts, bs⟩ s sc ((x = y) :: obs) ih
    | _ => none
  | .core u => useUps ann A o u s sc ((acore P A o (maskT (rtOf all o) s.as) (maskB (rbOf A o) s.as) = some u) :: obs) ih
  | .call f r outs =>
    match calleeOf o with
    | some x =>
      match valA (maskT (rtOf all o) s.as) x with
      | .fn (.func f') =>
        match decide (f' = f) with
        | true =>
          match passAll A (ann f) (maskT (rtOf all o) s.as) (maskB (rbOf A o) s.as) 0 (argsOf o) with
          | some ps =>
            match callUps A o.dst ps r outs with
            | some u => useUps ann A o u s sc (CallOK P ann f (ps.map Pass.arg) r outs :: obs) ih
            | none => none
          | none => none
        | false => none
      | _ => none
    | none => none

noncomputable def runPlain (o : Oper) (s : LS) (sc : Script) (obs : List Prop) (ih : LS → Script → List Prop → OpsR) : OpsR :=
  match acore P A o (maskT (rtOf all o) s.as) (maskB (rbOf A o) s.as) with
  | some u => useUps ann A o u s sc obs ih
  | none => none

noncomputable def runOp (o : Oper) (s : LS) (sc : Script) (obs : List Prop) (ih : LS → Script → List Prop → OpsR) : OpsR :=
  match wantedA all o (maskT (rtOf all o) s.as) with
  | some true =>
    match sc with
    | [] => runPlain P ann A all o s [] obs ih
    | (0, a) :: sc => runAns P ann A all o s a sc obs ih
    | (k + 1, a) :: sc => runPlain P ann A all o s ((k, a) :: sc) obs ih
  | some false => useUps ann A o (skipUps o.dst) s sc obs ih
  | none => none

noncomputable def runOps (l : List Oper) : LS → Script → List Prop → OpsR :=
  List.rec (fun s sc obs => some (s, sc, obs)) (fun o _ ih s sc obs => runOp P ann A all o s sc obs ih) l
end

section
variable {P : Program} {ann : FuncId → Ann} {A : Ann} {all : Array Oper}

/-- What a run of operations shows. -/
def OpsOK (P : Program) (ann : FuncId → Ann) (A : Ann) (all : Array Oper) (l : List Oper) (ih : LS → Script → List Prop → OpsR) : Prop :=
  ∀ s sc obs s' sc' obs', ih s sc obs = some (s', sc', obs') → conj obs' → conj obs ∧ Ev P ann (.ops A all l s.as) (.st s'.as)

theorem useUps_sound {l : List Oper} {ih : LS → Script → List Prop → OpsR} (hih : OpsOK P ann A all l ih) {o : Oper} {u : Ups} {s : LS} {sc : Script} {obs : List Prop} {s' : LS} {sc' : Script} {obs' : List Prop}
    (h : useUps ann A o u s sc obs ih = some (s', sc', obs')) (hc : conj obs') : conj obs ∧ fitsB ann A o u = true ∧ Ev P ann (.ops A all l (s.as.apply u)) (.st s'.as) := by
  unfold useUps at h
  split at h
  · rename_i hf
    obtain ⟨h1, h2⟩ := hih _ _ _ _ _ _ h hc
    rw [LS.as_upd] at h2
    exact ⟨h1, hf, h2⟩
  · simp at h

theorem runOp_sound {l : List Oper} {ih : LS → Script → List Prop → OpsR} (hih : OpsOK P ann A all l ih) (o : Oper) : OpsOK P ann A all (o :: l) (fun s sc obs => runOp P ann A all o s sc obs ih) := by
  intro s sc obs s' sc' obs' h hc
  have plain : ∀ sc, runPlain P ann A all o s sc obs ih = some (s', sc', obs') → wantedA all o (maskT (rtOf all o) s.as) = some true → conj obs ∧ Ev P ann (.ops A all (o :: l) s.as) (.st s'.as) := by
    intro sc h hw
    unfold runPlain at h
    split at h
    · rename_i u hu
      obtain ⟨h1, h2, h3⟩ := useUps_sound hih h hc
      exact ⟨h1, .opsCons hw (.pure hu) h2 h3⟩
    · simp at h
  simp only [runOp] at h
  split at h
  · rename_i hw
    split at h
    · exact plain _ h hw
    · rename_i a sc0
      cases a with
      | eq y =>
        simp only [runAns] at h
        split at h
        · rename_i d x ts bs hu
          obtain ⟨⟨rfl, h1⟩, h2, h3⟩ := useUps_sound hih h hc
          exact ⟨h1, .opsCons hw (.pure hu) h2 h3⟩
        · simp at h
      | core u =>
        simp only [runAns] at h
        obtain ⟨⟨hu, h1⟩, h2, h3⟩ := useUps_sound hih h hc
        exact ⟨h1, .opsCons hw (.pure hu) h2 h3⟩
      | call f r outs =>
        simp only [runAns] at h
        split at h
        · rename_i x hx
          split at h
          · rename_i f' hf
            split at h
            · rename_i he
              obtain rfl : f' = f := by simpa using he
              split at h
              · rename_i ps hps
                split at h
                · rename_i u hu
                  obtain ⟨⟨⟨hb, hev⟩, h1⟩, h2, h3⟩ := useUps_sound hih h hc
                  cases hop : o.op with
                  | call cc =>
                    simp only [calleeOf, hop] at hx
                    simp only [argsOf, hop] at hps
                    split at hx
                    · rename_i y hy
                      simp at hx; subst hx
                      exact ⟨h1, .opsCons hw (.callOp hop hy hf hb hps hev hu) h2 h3⟩
                    · simp at hx
                  | _ => simp [calleeOf, hop] at hx
                · simp at h
              · simp at h
            · simp at h
          · simp at h
        · simp at h
    · exact plain _ h hw
  · rename_i hw
    obtain ⟨h1, h2, h3⟩ := useUps_sound hih h hc
    exact ⟨h1, .opsSkip hw h2 h3⟩
  · simp at h

theorem runOps_sound : ∀ l : List Oper, OpsOK P ann A all l (runOps P ann A all l)
  | [] => by
    intro s sc obs s' sc' obs' h hc
    have h : some (s, sc, obs) = some (s', sc', obs') := h
    simp at h
    obtain ⟨rfl, rfl, rfl⟩ := h
    exact ⟨hc, .opsNil⟩
  | o :: l => runOp_sound (runOps_sound l) o
end

/-- How much of a value is kept at a meeting of ways. -/
inductive PM where
  | same | nrm | own (e : TypeId) | ex (e : TypeId)
def PM.app : PM → AV → AV
  | .same, x => x
  | .nrm, x => x.norm
  | .own e, .slice .nil [] => .slice (.own e) []
  | .own _, x => x
  | .ex e, .slice .nil [] => .ex e []
  | .ex _, x => x
theorem PM.wv (m : PM) (x : AV) : WV x (m.app x) := by
  unfold PM.app
  split
  · exact .same _
  · exact .norm _
  · exact .own _
  · exact .same _
  · exact .ex _
  · exact .same _
def PM.appC : PM → AV → AV
  | .same, x => x
  | .nrm, x => x.norm
  | .own e, .slice .nil [] => .slice (.own e) []
  | .own _, x => x
  | .ex _, x => x
theorem PM.wc (m : PM) (x : AV) : WC x (m.appC x) := by
  unfold PM.appC
  split
  · exact .same _
  · exact .norm _
  · exact .own _
  · exact .same _
  · exact .same _
def appCells : List PM → List AV → List AV
  | m :: ms, x :: xs => m.appC x :: appCells ms xs
  | _, xs => xs
theorem appCells_wv : ∀ (ms : List PM) (xs : List AV), WVs xs (appCells ms xs)
  | m :: ms, x :: xs => .cons (m.wc x) (appCells_wv ms xs)
  | [], xs => by simpa [appCells] using WVs.refl xs
  | _ :: _, [] => .nil

noncomputable def pickT (s : LS) : List (Nat × PM) → List (Nat × AV)
  | [] => []
  | (t, m) :: l => (t, m.app ((lk t s.ts).getD .undef)) :: pickT s l
noncomputable def pickB (s : LS) : List (Nat × List PM) → Option (List (Nat × List AV))
  | [] => some []
  | (k, ms) :: l =>
    match lk k s.bs, pickB s l with
    | some cs, some r => some ((k, appCells ms cs) :: r)
    | _, _ => none

theorem pickT_wv (s : LS) (t : Nat) : ∀ l : List (Nat × PM), WV (s.as.tmps t) ((lk t (pickT s l)).getD .undef)
  | [] => .undef _
  | (u, m) :: l => by
    rw [pickT, lk_cons]
    split
    · rename_i h; subst h; exact m.wv _
    · exact pickT_wv s t l
theorem pickB_wv (s : LS) (k : Nat) : ∀ (l : List (Nat × List PM)) (r : List (Nat × List AV)), pickB s l = some r → ∀ cs', lk k r = some cs' → ∃ cs, s.as.box k = some cs ∧ WVs cs cs'
  | [], r, h, cs', hk => by simp [pickB] at h; subst h; simp [lk_nil] at hk
  | (u, ms) :: l, r, h, cs', hk => by
    unfold pickB at h
    split at h
    · rename_i cs r' h1 h2
      simp at h; subst h
      rw [lk_cons] at hk
      split at hk
      · rename_i he; subst he; simp at hk; subst hk; exact ⟨cs, h1, appCells_wv _ _⟩
      · exact pickB_wv s k l r' h2 cs' hk
    · simp at h
theorem pick_wkn {s : LS} {lt : List (Nat × PM)} {lb : List (Nat × List PM)} {r : List (Nat × List AV)} (h : pickB s lb = some r) : Wkn s.as (LS.as ⟨pickT s lt, r⟩) :=
  ⟨fun t => pickT_wv s t lt, fun k cs' hk => pickB_wv s k lb r h cs' hk⟩
theorem pickT_wkn (s : LS) (lt : List (Nat × PM)) : Wkn s.as (LS.as ⟨pickT s lt, s.bs⟩) :=
  ⟨fun t => pickT_wv s t lt, fun _ cs' hk => ⟨cs', hk, WVs.refl _⟩⟩

/-- A function and where its ways meet. -/
structure Env where
  P : Program
  ann : FuncId → Ann
  f : FuncId
  fn : Func
  ptrs : List Nat
  rets : List (Nat × PM)

/-- A box is frozen at a place of the code: the slots and cells that are read on. -/
structure Gz where
  K : Nat
  e : TypeId
  rows : List (List AV)
  ts : List (Nat × List (List AV)) := []
  cs : List (Nat × Nat × List (List AV)) := []

noncomputable def frzV (K e : Nat) (view : Option (List (List AV))) (x : AV) : AV :=
  match x with
  | .ms k e' lo n =>
    cond (Nat.beq k K) (match view with | some r => cond (Nat.beq e' e) (.slice .sh r) .undef | none => .undef) (.ms k e' lo n)
  | .loc k off => cond (Nat.beq k K) .undef (.loc k off)
  | x => x
noncomputable def lkC (k j : Nat) (l : List (Nat × Nat × List (List AV))) : Option (List (List AV)) := List.rec none (fun p _ ih => cond (Nat.beq k p.1 && Nat.beq j p.2.1) (some p.2.2) ih) l
noncomputable def frzCells (z : Gz) (k : Nat) : Nat → List AV → List AV
  | _, [] => []
  | j, x :: xs => frzV z.K z.e (lkC k j z.cs) x :: frzCells z k (j + 1) xs
noncomputable def frzBs (z : Gz) (l : List (Nat × List AV)) : List (Nat × List AV) := List.rec [] (fun p _ ih => cond (Nat.beq p.1 z.K) ih ((p.1, frzCells z p.1 0 p.2) :: ih)) l
noncomputable def frzLS (z : Gz) (s : LS) : LS := ⟨s.ts.map fun p => (p.1, frzV z.K z.e (lk p.1 z.ts) p.2), frzBs z s.bs⟩

def okView (rows : List (List AV)) (x : AV) (r : List (List AV)) : Prop :=
  match x with
  | .ms _ _ lo n => lo + n ≤ rows.length ∧ r = ((rows.map (·.map AV.share)).drop lo).take n
  | _ => True
noncomputable def obsV (P : Program) (z : Gz) (s : LS) : List Prop :=
  (lk z.K s.bs = some (flatS z.rows)) :: (∀ r ∈ z.rows, r.length = P.cellsOf z.e) :: ((z.ts.map fun p => okView z.rows ((lk p.1 s.ts).getD .undef) p.2) ++ (z.cs.map fun p => okView z.rows (((lk p.1 s.bs).bind fun cs => cs[p.2.1]?).getD .undef) p.2.2))

theorem conj_append : ∀ (l m : List Prop), conj (l ++ m) ↔ conj l ∧ conj m
  | [], m => by simp [conj]
  | p :: l, m => by simp [conj, conj_append l m, and_assoc]
theorem conj_mem : ∀ {l : List Prop}, conj l → ∀ p ∈ l, p
  | [], _, p, h => by simp at h
  | q :: l, hc, p, h => by
    rcases List.mem_cons.1 h with rfl | h
    · exact hc.1
    · exact conj_mem hc.2 p h

theorem lk_map {α β : Type} (f : Nat → α → β) (t : Nat) : ∀ l : List (Nat × α), lk t (l.map fun p => (p.1, f p.1 p.2)) = (lk t l).map (f t)
  | [] => rfl
  | (k, x) :: l => by
    rw [List.map_cons, lk_cons, lk_cons, lk_map f t l]
    split
    · rename_i h; subst h; rfl
    · rfl
theorem lk_mem {α : Type} {t : Nat} {x : α} : ∀ {l : List (Nat × α)}, lk t l = some x → (t, x) ∈ l
  | [], h => by simp [lk_nil] at h
  | (k, y) :: l, h => by
    rw [lk_cons] at h
    split at h
    · rename_i e; subst e; simp at h; subst h; simp
    · exact List.mem_cons_of_mem _ (lk_mem h)
theorem lkC_mem {k j : Nat} {r : List (List AV)} : ∀ {l : List (Nat × Nat × List (List AV))}, lkC k j l = some r → (k, j, r) ∈ l
  | [], h => by simp [lkC] at h
  | (a, b, c) :: l, h => by
    have h : cond (Nat.beq k a && Nat.beq j b) (some c) (lkC k j l) = some r := h
    cases hb : Nat.beq k a && Nat.beq j b with
    | true =>
      rw [hb] at h
      have h : c = r := by simpa using h
      rw [Bool.and_eq_true] at hb
      have e1 := Nat.eq_of_beq_eq_true hb.1
      have e2 := Nat.eq_of_beq_eq_true hb.2
      subst h; subst e1; subst e2; simp
    | false => rw [hb] at h; exact List.mem_cons_of_mem _ (lkC_mem h)
theorem lk_frzBs (z : Gz) (k : Nat) : ∀ l : List (Nat × List AV), lk k (frzBs z l) = if k = z.K then none else (lk k l).map (frzCells z k 0)
  | [] => by simp [frzBs, lk_nil]
  | (a, cs) :: l => by
    have ih := lk_frzBs z k l
    show lk k (cond (Nat.beq a z.K) (frzBs z l) ((a, frzCells z a 0 cs) :: frzBs z l)) = _
    cases hb : Nat.beq a z.K with
    | true =>
      have : a = z.K := Nat.eq_of_beq_eq_true hb
      simp only [cond_true]
      rw [ih, lk_cons]
      by_cases hk : k = z.K
      · simp [hk]
      · have : k ≠ a := fun e => hk (e.trans this)
        simp [hk, this]
    | false =>
      have : a ≠ z.K := fun e => by subst e; simp at hb
      simp only [cond_false]
      rw [lk_cons, lk_cons, ih]
      by_cases hk : k = a
      · subst hk; simp [this]
      · simp [hk]

theorem frzV_fv {z : Gz} {x : AV} {view : Option (List (List AV))} (h : ∀ r, view = some r → okView z.rows x r) : FV z.K z.e z.rows x (frzV z.K z.e view x) := by
  unfold frzV
  split
  · rename_i k e' lo n
    cases hb : Nat.beq k z.K with
    | true =>
      have : k = z.K := Nat.eq_of_beq_eq_true hb
      subst this
      simp only [cond_true]
      cases view with
      | none => exact .undef _
      | some r =>
        simp only
        cases he : Nat.beq e' z.e with
        | true =>
          have : e' = z.e := Nat.eq_of_beq_eq_true he
          subst this
          obtain ⟨h1, h2⟩ := h r rfl
          exact .ms h1 h2
        | false => exact .undef _
    | false =>
      have : k ≠ z.K := fun e => by subst e; simp at hb
      exact .same (by simpa using this)
  · rename_i k off
    cases hb : Nat.beq k z.K with
    | true => exact .undef _
    | false =>
      have : k ≠ z.K := fun e => by subst e; simp at hb
      exact .same (by simpa using this)
  · rename_i hm hl
    refine .same ?_
    cases x <;> first | exact absurd rfl (hm _ _ _ _) | exact absurd rfl (hl _ _) | simp
theorem frzCells_fv {z : Gz} {k : Nat} : ∀ (cs : List AV) (j : Nat), (∀ (i : Nat) (x : AV) (r : List (List AV)), cs[i]? = some x → lkC k (j + i) z.cs = some r → okView z.rows x r) → FVs z.K z.e z.rows cs (frzCells z k j cs)
  | [], _, _ => .nil
  | x :: cs, j, h => .cons (frzV_fv fun r hr => h 0 x r rfl (by simpa using hr)) (frzCells_fv cs (j + 1) fun i y r hy hr => h (i + 1) y r (by simpa using hy) (by rwa [show j + (i + 1) = j + 1 + i from by omega]))

theorem frz_of {P : Program} {A : Ann} {z : Gz} {s : LS} (hn : noHold A z.K = true) (h : conj (obsV P z s)) : Frz P A s.as (frzLS z s).as z.K z.e z.rows := by
  obtain ⟨h1, h2, h3⟩ := h
  rw [conj_append] at h3
  refine ⟨h1, hn, h2, fun t => ?_, fun k cs' hk => ?_⟩
  · show FV z.K z.e z.rows ((lk t s.ts).getD .undef) ((lk t (s.ts.map fun p => (p.1, frzV z.K z.e (lk p.1 z.ts) p.2))).getD .undef)
    rw [lk_map (fun u x => frzV z.K z.e (lk u z.ts) x)]
    cases hx : lk t s.ts with
    | none => exact .same (by simp)
    | some x =>
      simp only [Option.map_some, Option.getD_some]
      refine frzV_fv fun r hr => ?_
      have := conj_mem h3.1 _ (List.mem_map.2 ⟨(t, r), lk_mem hr, rfl⟩)
      simpa [hx] using this
  · have hk : lk k (frzBs z s.bs) = some cs' := hk
    rw [lk_frzBs] at hk
    split at hk
    · simp at hk
    · rename_i hne
      cases hb : lk k s.bs with
      | none => simp [hb] at hk
      | some cs =>
        simp [hb] at hk
        subst hk
        refine ⟨hne, cs, hb, frzCells_fv cs 0 fun i x r hx hr => ?_⟩
        have := conj_mem h3.2 _ (List.mem_map.2 ⟨(k, i, r), lkC_mem (by simpa using hr), rfl⟩)
        simpa [hb, hx] using this

/-- What is done at a place of the code without a step of the machine: a box is frozen; slots are written otherwise. -/
inductive Gst where
  | frz (z : Gz) | eqs (l : List (Nat × AV))
noncomputable def obsE (s : LS) (l : List (Nat × AV)) : List Prop := l.map fun p => (lk p.1 s.ts).getD .undef = p.2
theorem lk_eqs {s : LS} {l : List (Nat × AV)} (h : conj (obsE s l)) (t : Nat) : (lk t (l ++ s.ts)).getD .undef = (lk t s.ts).getD .undef := by
  have key : ∀ l : List (Nat × AV), conj (obsE s l) → (lk t (l ++ s.ts)).getD .undef = (lk t s.ts).getD .undef := by
    intro l
    induction l with
    | nil => intro _; rfl
    | cons p l ih =>
      intro h
      obtain ⟨u, y⟩ := p
      rw [List.cons_append, lk_cons]
      split
      · rename_i e
        subst e
        exact h.1.symm
      · exact ih h.2
  exact key l h
theorem eqs_as {s : LS} {l : List (Nat × AV)} (h : conj (obsE s l)) : (LS.as ⟨l ++ s.ts, s.bs⟩) = s.as := by
  simp only [LS.as, AS.mk.injEq, and_true]
  funext t
  exact lk_eqs h t
noncomputable def gstep (P : Program) (A : Ann) (g : Gst) (s : LS) (obs : List Prop) : Option (LS × List Prop) :=
  match g with
  | .frz z => (match noHold A z.K with | true => some (frzLS z s, obsV P z s ++ obs) | false => none)
  | .eqs l => some (⟨l ++ s.ts, s.bs⟩, obsE s l ++ obs)
noncomputable def gsteps (P : Program) (A : Ann) (l : List Gst) (s : LS) (obs : List Prop) : Option (LS × List Prop) :=
  List.rec (fun s obs => some (s, obs)) (fun g _ ih s obs => match gstep P A g s obs with | some (s', obs') => ih s' obs' | none => none) l s obs
abbrev Gzs := List (List Nat × List Gst)
abbrev Stops := List (List Nat × List (Nat × PM) × List (Nat × List PM))

abbrev Env.A (E : Env) : Ann := E.ann E.f

noncomputable def eqP (p q : List Nat) : Bool :=
  List.rec (motive := fun _ => List Nat → Bool) (fun q => List.casesOn q true (fun _ _ => false)) (fun a _ ih q => List.casesOn q false (fun b q' => cond (Nat.beq a b) (ih q') false)) p q
noncomputable def findStop (p : List Nat) (l : List (List Nat × List (Nat × PM) × List (Nat × List PM))) : Option (List (Nat × PM) × List (Nat × List PM)) :=
  List.rec none (fun x _ ih => cond (eqP x.1 p) (some x.2) ih) l

def outsP (st : AS) : List Nat → Option (List (Nat × List AV))
  | [] => some []
  | i :: l =>
    match st.box i, outsP st l with
    | some cs, some r => some ((i, cs.map AV.norm1) :: r)
    | _, _ => none
def ptrsFrom : Nat → List AV → List Nat
  | _, [] => []
  | i, x :: xs =>
    match x.pbox with
    | some _ => i :: ptrsFrom (i + 1) xs
    | none => ptrsFrom (i + 1) xs
theorem outsA_eq (st : AS) : ∀ (args : List AV) (i : Nat), outsA st i args = outsP st (ptrsFrom i args)
  | [], _ => rfl
  | x :: xs, i => by
    have ih := outsA_eq st xs (i + 1)
    rw [outsA, ih, ptrsFrom]
    cases x.pbox with
    | some cs =>
      simp only [outsP]
      cases outsP st (ptrsFrom (i + 1) xs) <;> cases st.box i <;> rfl
    | none =>
      cases outsP st (ptrsFrom (i + 1) xs) <;> rfl

noncomputable def findGz (p : List Nat) (l : Gzs) : List Gst := List.rec [] (fun x _ ih => cond (eqP x.1 p) x.2 ih) l

inductive KP where
  | code (p : List Nat) (c : Code) | block (id : Nat) | loop (p : List Nat) (c : Code)
def KP.ki : KP → KI
  | .code _ c => .code c
  | .block id => .block id
  | .loop _ c => .loop c

inductive Md where
  | ent (c : Code) (p : List Nat) (chk : Bool) | out (e : AExit)

inductive Stop where
  | at (p : List Nat) (s : LS) | ret (r : AV) (outs : List (Nat × List AV))

abbrev RunR := Option (Stop × List Prop)

noncomputable def retK (E : Env) (s : LS) (obs : List Prop) : RunR :=
  match resultA E.P E.fn s.as E.A.np, outsP s.as E.ptrs with
  | some r, some outs => some (.ret r outs, obs)
  | _, _ => none

abbrev RunF := Md → List KP → LS → Script → List Prop → RunR

noncomputable def enterK (E : Env) (ih : RunF) (c : Code) (p : List Nat) (ks : List KP) (s : LS) (sc : Script) (obs : List Prop) : RunR :=
  match c with
  | .skip => ih (.out .normal) ks s sc obs
  | .seq a b => ih (.ent a (0 :: p) true) (.code (1 :: p) b :: ks) s sc obs
  | .region _ ops draw =>
    match !draw || okDrawM E.ann E.A ops with
    | true =>
      match runOps E.P E.ann E.A ops ops.toList s sc obs with
      | some (s', sc', obs') => ih (.out .normal) ks s' sc' obs'
      | none => none
    | false => none
  | .cond x a b =>
    match valA s.as.tmps x with
    | .bool true => ih (.ent a (0 :: p) true) ks s sc obs
    | .bool false => ih (.ent b (1 :: p) true) ks s sc obs
    | _ => none
  | .block id c => ih (.ent c (0 :: p) true) (.block id :: ks) s sc obs
  | .loop c => ih (.ent c (0 :: p) true) (.loop p c :: ks) s sc obs
  | .exit id => ih (.out (.exit id)) ks s sc obs
  | .ret => retK E ⟨pickT s E.rets, s.bs⟩ obs
  | _ => none

noncomputable def leaveK (E : Env) (ih : RunF) (e : AExit) (ks : List KP) (s : LS) (sc : Script) (obs : List Prop) : RunR :=
  match ks with
  | [] =>
    match e with
    | .exit _ => none
    | _ => retK E s obs
  | .code p c :: ks =>
    match e with
    | .normal => ih (.ent c p true) ks s sc obs
    | e => ih (.out e) ks s sc obs
  | .block id :: ks => ih (.out (e.leave id)) ks s sc obs
  | .loop p c :: ks =>
    match e with
    | .normal => ih (.ent (.loop c) p true) ks s sc obs
    | e => ih (.out e) ks s sc obs

noncomputable def runStep (E : Env) (S : Stops) (G : Gzs) (ih : RunF) (m : Md) (ks : List KP) (s : LS) (sc : Script) (obs : List Prop) : RunR :=
  match m with
  | .ent c p true =>
    match gsteps E.P E.A (findGz p G) s obs with
    | some (s, obs) =>
      match findStop p S with
      | some (lt, lb) =>
        match pickB s lb with
        | some bs => some (.at p ⟨pickT s lt, bs⟩, obs)
        | none => none
      | none => enterK E ih c p ks s sc obs
    | none => none
  | .ent c p false => enterK E ih c p ks s sc obs
  | .out e => leaveK E ih e ks s sc obs

noncomputable def runK (E : Env) (S : Stops) (G : Gzs) (n : Nat) : RunF := Nat.rec (fun _ _ _ _ _ => none) (fun _ ih => runStep E S G ih) n

def subR (c : Code) : List Nat → Code
  | [] => c
  | i :: p => part1 (subR c p) i
def kontsP (c : Code) : List Nat → List KP
  | [] => []
  | i :: p =>
    match subR c p with
    | .seq _ b => (match i with | 0 => .code (1 :: p) b :: kontsP c p | _ => kontsP c p)
    | .block id _ => .block id :: kontsP c p
    | .loop b => .loop p b :: kontsP c p
    | _ => kontsP c p

def Env.code (E : Env) : Code := bodyOf E.fn
noncomputable def runAt (E : Env) (S : Stops) (G : Gzs) (p : List Nat) (s : LS) (sc : Script) : RunR := runK E S G 100000 (.ent (subR E.code p) p false) (kontsP E.code p) s sc []

def AtQ (E : Env) (p : List Nat) (s : LS) (Q : AExit → AS → Prop) : Prop := Wk E.P E.ann E.A (subR E.code p) s.as ((kontsP E.code p).map KP.ki) Q

/-- The end of a function. -/
def Fin (E : Env) (r : AV) (outs : List (Nat × List AV)) (e : AExit) (st : AS) : Prop := (e = .normal ∨ e = .ret) ∧ resultA E.P E.fn st E.A.np = some r ∧ outsP st E.ptrs = some outs

def At (E : Env) (p : List Nat) (s : LS) (r : AV) (outs : List (Nat × List AV)) : Prop := AtQ E p s (Fin E r outs)

def KOK (E : Env) : List KP → Prop
  | [] => True
  | .code p c :: ks => c = subR E.code p ∧ ks = kontsP E.code p ∧ KOK E ks
  | .loop p c :: ks => Code.loop c = subR E.code p ∧ ks = kontsP E.code p ∧ KOK E ks
  | .block _ :: ks => KOK E ks

theorem kontsP_ok (E : Env) : ∀ p, KOK E (kontsP E.code p)
  | [] => trivial
  | i :: p => by
    have ih := kontsP_ok E p
    unfold kontsP
    split
    · rename_i a b hc
      split
      · exact ⟨by simp [subR, hc, part1], by simp [kontsP, hc], ih⟩
      · exact ih
    · exact ih
    · rename_i b hc
      exact ⟨hc.symm, rfl, ih⟩
    · exact ih

def MdOK (E : Env) (ks : List KP) : Md → Prop
  | .ent c p _ => c = subR E.code p ∧ ks = kontsP E.code p
  | .out _ => True

def Holds (E : Env) (ks : List KP) (s : LS) (Q : AExit → AS → Prop) : Md → Prop
  | .ent c _ _ => Wk E.P E.ann E.A c s.as (ks.map KP.ki) Q
  | .out e => resume E.P E.ann E.A (ks.map KP.ki) e s.as Q

def Post (E : Env) (Q : AExit → AS → Prop) : Stop → Prop
  | .at p s => AtQ E p s Q
  | .ret r outs => Q = Fin E r outs

theorem resume_ret {P : Program} {ann : FuncId → Ann} {A : Ann} {st : AS} {Q : AExit → AS → Prop} : ∀ ks : List KI, Q .ret st → resume P ann A ks .ret st Q
  | [], h => h
  | .code _ :: ks, h => resume_ret ks h
  | .block _ :: ks, h => resume_ret ks h
  | .loop _ :: ks, h => resume_ret ks h

theorem Wk_weak {P : Program} {ann : FuncId → Ann} {A : Ann} {st st' : AS} {c : Code} {ks : List KI} {Q : AExit → AS → Prop} (h : Wkn st st') (k : Wk P ann A c st' ks Q) : Wk P ann A c st ks Q := by
  obtain ⟨e, st'', h1, h2⟩ := k
  exact ⟨e, st'', .weak h h1, h2⟩

theorem retK_sound {E : Env} {s : LS} {obs : List Prop} {r : Stop} {obs' : List Prop} {Q : AExit → AS → Prop} (h : retK E s obs = some (r, obs')) (hp : Post E Q r) {e : AExit} (he : e = .normal ∨ e = .ret) : obs' = obs ∧ Q e s.as := by
  unfold retK at h
  split at h
  · rename_i rv outs h1 h2
    simp at h
    obtain ⟨rfl, rfl⟩ := h
    simp only [Post] at hp
    subst hp
    exact ⟨rfl, he, h1, h2⟩
  · simp at h

def RunOK (E : Env) (Q : AExit → AS → Prop) (ih : RunF) : Prop :=
  ∀ m ks s sc obs r obs', ih m ks s sc obs = some (r, obs') → conj obs' → KOK E ks → MdOK E ks m → Post E Q r → conj obs ∧ Holds E ks s Q m

theorem enterK_sound {E : Env} {Q : AExit → AS → Prop} {ih : RunF} (hih : RunOK E Q ih) {c : Code} {p : List Nat} {ks : List KP} {s : LS} {sc : Script} {obs : List Prop} {r : Stop} {obs' : List Prop}
    (h : enterK E ih c p ks s sc obs = some (r, obs')) (hc : conj obs') (hk : KOK E ks) (h1 : c = subR E.code p) (h2 : ks = kontsP E.code p) (hp : Post E Q r) :
    conj obs ∧ Wk E.P E.ann E.A c s.as (ks.map KP.ki) Q := by
  unfold enterK at h
  split at h
  · obtain ⟨q1, q2⟩ := hih _ _ _ _ _ _ _ h hc hk trivial hp
    exact ⟨q1, Wk_skip q2⟩
  · rename_i a b
    obtain ⟨q1, q2⟩ := hih _ _ _ _ _ _ _ h hc ⟨by simp [subR, ← h1, part1], by simp [kontsP, ← h1, h2], hk⟩ ⟨by simp [subR, ← h1, part1], by simp [kontsP, ← h1, h2]⟩ hp
    exact ⟨q1, Wk_seq q2⟩
  · rename_i id ops draw
    split at h
    · rename_i hd
      split at h
      · rename_i s' sc' obs1 hr
        obtain ⟨q1, q2⟩ := hih _ _ _ _ _ _ _ h hc hk trivial hp
        obtain ⟨q3, q4⟩ := runOps_sound _ _ _ _ _ _ _ hr q1
        exact ⟨q3, Wk_region (fun hdr => okDrawM_sound (by simpa [hdr] using hd)) ⟨_, q4, q2⟩⟩
      · simp at h
    · simp at h
  · rename_i x a b
    split at h
    · rename_i hv
      obtain ⟨q1, q2⟩ := hih _ _ _ _ _ _ _ h hc hk ⟨by simp [subR, ← h1, part1], by simp [kontsP, ← h1, h2]⟩ hp
      exact ⟨q1, Wk_cond hv (fun _ => q2) (fun h => by simp at h)⟩
    · rename_i hv
      obtain ⟨q1, q2⟩ := hih _ _ _ _ _ _ _ h hc hk ⟨by simp [subR, ← h1, part1], by simp [kontsP, ← h1, h2]⟩ hp
      exact ⟨q1, Wk_cond hv (fun h => by simp at h) (fun _ => q2)⟩
    · simp at h
  · rename_i id c
    obtain ⟨q1, q2⟩ := hih _ _ _ _ _ _ _ h hc hk ⟨by simp [subR, ← h1, part1], by simp [kontsP, ← h1, h2]⟩ hp
    exact ⟨q1, Wk_block q2⟩
  · rename_i c
    obtain ⟨q1, q2⟩ := hih _ _ _ _ _ _ _ h hc ⟨h1, h2, hk⟩ ⟨by simp [subR, ← h1, part1], by simp [kontsP, ← h1, h2]⟩ hp
    exact ⟨q1, Wk_loop q2⟩
  · obtain ⟨q1, q2⟩ := hih _ _ _ _ _ _ _ h hc hk trivial hp
    exact ⟨q1, Wk_exit q2⟩
  · obtain ⟨rfl, q⟩ := retK_sound h hp (.inr rfl)
    exact ⟨hc, Wk_weak (pickT_wkn s E.rets) (Wk_ret (resume_ret _ q))⟩
  · simp at h

theorem leaveK_sound {E : Env} {Q : AExit → AS → Prop} {ih : RunF} (hih : RunOK E Q ih) {e : AExit} {ks : List KP} {s : LS} {sc : Script} {obs : List Prop} {r : Stop} {obs' : List Prop}
    (h : leaveK E ih e ks s sc obs = some (r, obs')) (hc : conj obs') (hk : KOK E ks) (hp : Post E Q r) : conj obs ∧ resume E.P E.ann E.A (ks.map KP.ki) e s.as Q := by
  unfold leaveK at h
  split at h
  · have key : ∀ e, (e = .normal ∨ e = .ret) → retK E s obs = some (r, obs') → conj obs ∧ resume E.P E.ann E.A (List.map KP.ki []) e s.as Q := by
      intro e he h
      obtain ⟨rfl, q⟩ := retK_sound h hp he
      refine ⟨hc, ?_⟩
      cases e <;> exact q
    split at h
    · simp at h
    · rename_i hne
      refine key e ?_ h
      cases e with
      | normal => exact .inl rfl
      | ret => exact .inr rfl
      | exit id => exact absurd rfl (hne id)
  · rename_i p c ks
    obtain ⟨k1, k2, k3⟩ := hk
    split at h
    · obtain ⟨q1, q2⟩ := hih _ _ _ _ _ _ _ h hc k3 ⟨k1, k2⟩ hp
      exact ⟨q1, q2⟩
    · rename_i hne
      obtain ⟨q1, q2⟩ := hih _ _ _ _ _ _ _ h hc k3 trivial hp
      refine ⟨q1, ?_⟩
      cases e with
      | normal => exact absurd rfl hne
      | exit id => exact q2
      | ret => exact q2
  · rename_i id ks
    obtain ⟨q1, q2⟩ := hih _ _ _ _ _ _ _ h hc hk trivial hp
    refine ⟨q1, ?_⟩
    rw [List.map_cons, KP.ki, resume_block]
    exact q2
  · rename_i p c ks
    obtain ⟨k1, k2, k3⟩ := hk
    split at h
    · obtain ⟨q1, q2⟩ := hih _ _ _ _ _ _ _ h hc k3 ⟨k1, k2⟩ hp
      exact ⟨q1, q2⟩
    · rename_i hne
      obtain ⟨q1, q2⟩ := hih _ _ _ _ _ _ _ h hc k3 trivial hp
      refine ⟨q1, ?_⟩
      cases e with
      | normal => exact absurd rfl hne
      | exit id => exact q2
      | ret => exact q2

theorem gsteps_sound {P : Program} {ann : FuncId → Ann} {A : Ann} {c : Code} {ks : List KI} {Q : AExit → AS → Prop} : ∀ (l : List Gst) (s : LS) (obs : List Prop) (s' : LS) (obs' : List Prop), gsteps P A l s obs = some (s', obs') → conj obs' →
    conj obs ∧ (Wk P ann A c s'.as ks Q → Wk P ann A c s.as ks Q)
  | [], s, obs, s', obs', h, hc => by
    have h : some (s, obs) = some (s', obs') := h
    simp at h
    obtain ⟨rfl, rfl⟩ := h
    exact ⟨hc, id⟩
  | g :: l, s, obs, s', obs', h, hc => by
    have h : (match gstep P A g s obs with | some (s', obs') => gsteps P A l s' obs' | none => none) = some (s', obs') := h
    split at h
    · rename_i s1 obs1 hg
      obtain ⟨q1, q2⟩ := gsteps_sound (ann := ann) (c := c) (ks := ks) (Q := Q) l s1 obs1 s' obs' h hc
      unfold gstep at hg
      split at hg
      · rename_i z
        split at hg
        · rename_i hn
          simp at hg
          obtain ⟨rfl, rfl⟩ := hg
          rw [conj_append] at q1
          refine ⟨q1.2, fun k => ?_⟩
          obtain ⟨e, st'', h1, h2⟩ := q2 k
          exact ⟨e, st'', .frz (frz_of hn q1.1) h1, h2⟩
        · simp at hg
      · rename_i l'
        simp at hg
        obtain ⟨rfl, rfl⟩ := hg
        rw [conj_append] at q1
        refine ⟨q1.2, fun k => ?_⟩
        have := q2 k
        rw [eqs_as q1.1] at this
        exact this
    · simp at h

theorem runK_sound (E : Env) (S : Stops) (G : Gzs) (Q : AExit → AS → Prop) : ∀ n, RunOK E Q (runK E S G n)
  | 0 => by
    intro m ks s sc obs r obs' h
    have h : none = some (r, obs') := h
    simp at h
  | n + 1 => by
    intro m ks s sc obs r obs' h hc hk hm hp
    have ih := runK_sound E S G Q n
    have h : runStep E S G (runK E S G n) m ks s sc obs = some (r, obs') := h
    match m, h, hm with
    | .ent c p true, h, hm =>
      unfold runStep at h
      dsimp only at h
      cases hg : gsteps E.P E.A (findGz p G) s obs with
      | none => rw [hg] at h; simp at h
      | some so =>
        obtain ⟨s1, obs1⟩ := so
        rw [hg] at h
        dsimp only at h
        cases hfs : findStop p S with
        | none =>
          rw [hfs] at h
          dsimp only at h
          obtain ⟨q1, q2⟩ := enterK_sound ih h hc hk hm.1 hm.2 hp
          obtain ⟨g1, g2⟩ := gsteps_sound (ann := E.ann) (c := c) (ks := ks.map KP.ki) (Q := Q) _ _ _ _ _ hg q1
          exact ⟨g1, g2 q2⟩
        | some ll =>
          obtain ⟨lt, lb⟩ := ll
          rw [hfs] at h
          dsimp only at h
          cases hb : pickB s1 lb with
          | none => rw [hb] at h; simp at h
          | some bs =>
            rw [hb] at h
            simp at h
            obtain ⟨rfl, rfl⟩ := h
            obtain ⟨g1, g2⟩ := gsteps_sound (ann := E.ann) (c := c) (ks := ks.map KP.ki) (Q := Q) _ _ _ _ _ hg hc
            refine ⟨g1, g2 ?_⟩
            obtain ⟨rfl, rfl⟩ := hm
            exact Wk_weak (pick_wkn hb) hp
    | .ent c p false, h, hm => exact enterK_sound ih h hc hk hm.1 hm.2 hp
    | .out e, h, hm => exact leaveK_sound ih h hc hk hp

/-- A stretch of a function to the next meeting of ways. -/
theorem run_at {E : Env} {S : Stops} {G : Gzs} {p : List Nat} {s : LS} {sc : Script} {p' : List Nat} {s' : LS} {obs : List Prop} {r : AV} {outs : List (Nat × List AV)} (h : runAt E S G p s sc = some (.at p' s', obs)) (ho : conj obs) (k : At E p' s' r outs) : At E p s r outs :=
  (runK_sound E S G _ _ _ _ _ _ _ _ _ h ho (kontsP_ok E p) ⟨rfl, rfl⟩ k).2
/-- A stretch of a function to its end. -/
theorem run_ret {E : Env} {S : Stops} {G : Gzs} {p : List Nat} {s : LS} {sc : Script} {obs : List Prop} {r : AV} {outs : List (Nat × List AV)} (h : runAt E S G p s sc = some (.ret r outs, obs)) (ho : conj obs) : At E p s r outs :=
  (runK_sound E S G _ _ _ _ _ _ _ _ _ h ho (kontsP_ok E p) ⟨rfl, rfl⟩ rfl).2

def initT : Nat → List AV → List (Nat × AV)
  | _, [] => []
  | i, x :: xs => (i, x.pslot i) :: initT (i + 1) xs
def initB : Nat → List AV → List (Nat × List AV)
  | _, [] => []
  | i, x :: xs =>
    match x.pbox with
    | some cs => (i, cs) :: initB (i + 1) xs
    | none => initB (i + 1) xs

theorem lk_initT (t : Nat) : ∀ (xs : List AV) (i : Nat), lk t (initT i xs) = if t < i then none else (xs[t - i]?).map (AV.pslot t)
  | [], i => by simp [initT, lk_nil]
  | x :: xs, i => by
    have ih := lk_initT t xs (i + 1)
    rw [initT, lk_cons, ih]
    by_cases h1 : t = i
    · subst h1
      simp
    · by_cases h2 : t < i
      · simp [h1, h2, show t < i + 1 by omega]
      · have : t - i = (t - (i + 1)) + 1 := by omega
        rw [if_neg h1, if_neg (by omega), if_neg h2, this, List.getElem?_cons_succ]
theorem lk_initB (t : Nat) : ∀ (xs : List AV) (i : Nat) (cs : List AV), lk t (initB i xs) = some cs → i ≤ t ∧ (xs[t - i]?).bind AV.pbox = some cs
  | [], i, cs, h => by simp [initB, lk_nil] at h
  | x :: xs, i, cs, h => by
    have ih := lk_initB t xs (i + 1) cs
    have step : lk t (initB (i + 1) xs) = some cs → i ≤ t ∧ ((x :: xs)[t - i]?).bind AV.pbox = some cs := by
      intro hq
      obtain ⟨a, b⟩ := ih hq
      have : t - i = (t - (i + 1)) + 1 := by omega
      exact ⟨by omega, by rw [this, List.getElem?_cons_succ]; exact b⟩
    rw [initB] at h
    cases hx : x.pbox with
    | some ds =>
      rw [hx] at h
      simp only [lk_cons] at h
      split at h
      · rename_i he; subst he; simp at h; subst h; simp [hx]
      · exact step h
    | none => rw [hx] at h; exact step h

theorem init_wkn (args : List AV) : Wkn (initAS args) (LS.as ⟨initT 0 args, initB 0 args⟩) := by
  refine ⟨fun t => ?_, fun k cs' hk => ?_⟩
  · show WV ((initAS args).tmps t) ((lk t (initT 0 args)).getD .undef)
    rw [tmps_init, lk_initT]
    simp only [Nat.not_lt_zero, if_false, Nat.sub_zero]
    cases args[t]? with
    | none => exact .undef _
    | some x => exact .same _
  · obtain ⟨_, h⟩ := lk_initB k args 0 cs' hk
    refine ⟨cs', ?_, WVs.refl _⟩
    rw [box_init]
    simpa using h

/-- No box that is passed is empty. -/
def emptyB (outs : List (Nat × List AV)) : Nat → List AV → Bool
  | _, [] => true
  | i, x :: xs =>
    (match x.pbox with
    | some cs => (match outs.lookup i with | some cs' => cs.isEmpty == cs'.isEmpty | none => true)
    | none => true) && emptyB outs (i + 1) xs
theorem emptyB_ok {outs : List (Nat × List AV)} : ∀ (args : List AV) (i : Nat), emptyB outs i args = true → ∀ (j : Nat) (cs cs' : List AV), (args[j]?).bind AV.pbox = some cs → outs.lookup (i + j) = some cs' → (cs = [] ↔ cs' = [])
  | [], _, _, j, cs, cs', h, _ => by simp at h
  | x :: xs, i, hb, j, cs, cs', h, ho => by
    simp only [emptyB, Bool.and_eq_true] at hb
    cases j with
    | zero =>
      simp at h ho
      have hb := hb.1
      rw [h] at hb
      simp only [ho] at hb
      cases cs <;> cases cs' <;> simp at hb ⊢
    | succ j => exact emptyB_ok xs (i + 1) hb.2 j cs cs' (by simpa using h) (by rwa [show i + 1 + j = i + (j + 1) from by omega])
theorem emptyOK_of {args : List AV} {outs : List (Nat × List AV)} (h : emptyB outs 0 args = true) : EmptyOK args outs := fun i cs cs' h1 h2 => emptyB_ok args 0 h i cs cs' h1 (by simpa using h2)

/-- A function, from its beginning. -/
theorem call_of_at {E : Env} {args : List AV} {s : LS} {r : AV} {outs : List (Nat × List AV)} (hb : ∃ fn, E.P.funcs[E.f]? = some fn ∧ fn.body.isSome = true ∧ fn.name ≠ "runtime.NumGoroutine") (h1 : E.P.funcs[E.f]? = some E.fn)
    (h3 : E.A.n = E.fn.ntmps) (h4 : E.A.np = args.length) (h5 : decide (args.length ≤ E.fn.ntmps) = true) (h6 : ptrsOk E.A 0 args = true) (h7 : ptrsFrom 0 args = E.ptrs) (hE : EmptyOK args outs)
    (hs : (⟨initT 0 args, initB 0 args⟩ : LS) = s) (h : At E [] s r outs) : CallOK E.P E.ann E.f args r outs := by
  refine ⟨hb, ?_⟩
  obtain ⟨fn, hf1, hf2, hf3⟩ := hb
  rw [h1] at hf1
  obtain rfl : E.fn = fn := by simpa using hf1
  obtain ⟨cc, hc⟩ := Option.isSome_iff_exists.1 hf2
  refine ev_of_body h1 hc h3 h4 (of_decide_eq_true h5) h6 hE ?_
  subst hs
  have h : Wk E.P E.ann E.A (bodyOf E.fn) (LS.as ⟨initT 0 args, initB 0 args⟩) [] (Fin E r outs) := h
  rw [show bodyOf E.fn = cc by simp [bodyOf, hc]] at h
  obtain ⟨e, st', q1, q2⟩ := Wk_weak (init_wkn args) h
  refine ⟨e, st', q1, ?_⟩
  have q2 : Fin E r outs e st' := by cases e <;> exact q2
  obtain ⟨a, b, c⟩ := q2
  exact ⟨a, by rw [← h4]; exact b, by rw [outsA_eq, h7]; exact c⟩

theorem ite_elim {α : Type} {b : Bool} {x y : Option α} {r : α} {G : Prop} (h : (if b = true then x else y) = some r) (k1 : b = true → x = some r → G) (k2 : b = false → y = some r → G) : G := by
  cases b with
  | true => exact k1 rfl (by simpa using h)
  | false => exact k2 rfl (by simpa using h)
theorem bind_elim {α β : Type} {x : Option β} {f : β → Option α} {r : α} {G : Prop} (h : x.bind f = some r) (k : ∀ y, x = some y → f y = some r → G) : G := by
  cases x with
  | none => simp at h
  | some y => exact k y rfl h

end Go.Abs
