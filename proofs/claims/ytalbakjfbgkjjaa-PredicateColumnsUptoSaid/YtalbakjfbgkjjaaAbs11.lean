import Derived.Test.YtalbakjfbgkjjaaAbs10
set_option linter.unusedSimpArgs false
namespace Go.Abs
open Go.RowKit

/-- Where an argument comes from: a plain value, the whole of a box, an own slice of a slot. -/
inductive Src where
  | val | box (k : Nat) | own (t : Nat)

structure Pass where
  arg : AV
  src : Src

/-- The box that an argument brings, and what stands in the parameter's slot. -/
def AV.pbox : AV → Option (List AV)
  | .ptr cs => some cs
  | .msp _ _ _ cs => some cs
  | _ => none
def AV.pslot (t : Nat) : AV → AV
  | .ptr _ => .loc t 0
  | .msp e lo n _ => .ms t e lo n
  | x => x

/-- One argument. -/
def passOne (A F : Ann) (T : Nat → AV) (B : Nat → Option (List AV)) (i : Nat) (x : Operand) : Option Pass :=
  match valA T x with
  | .loc k off => if off = 0 ∧ noHold A k = true then (B k).map fun cs => ⟨.ptr (cs.map AV.norm1), .box k⟩ else none
  | .ms k e lo n => if F.inpl.contains i = true ∧ noHold A k = true then (B k).map fun cs => ⟨.msp e lo n (cs.map AV.norm1), .box k⟩ else none
  | .ex e rows =>
    match F.exin.lookup i, x with
    | some e', .tmp t => if e' = e then some ⟨.ex e rows, .own t⟩ else none
    | _, _ => none
  | .slice tag rows =>
    match F.exin.lookup i with
    | some e =>
      match tag, rows with
      | .nil, [] => some ⟨.ex e [], .val⟩
      | _, _ => none
    | none =>
    match F.owns.lookup i with
    | some e =>
      match tag, rows with
      | .own e', rows =>
        match x with
        | .tmp t => if e' = e then some ⟨.slice (.own e) rows, .own t⟩ else none
        | _ => none
      | .nil, [] => some ⟨.slice (.own e) [], .val⟩
      | _, _ => none
    | none => some ⟨.slice .sh rows, .val⟩
  | .undef | .fs _ | .ptr _ | .msp _ _ _ _ | .tuple _ => none
  | y => some ⟨y.norm, .val⟩

def passAll (A F : Ann) (T : Nat → AV) (B : Nat → Option (List AV)) : Nat → List Operand → Option (List Pass)
  | _, [] => some []
  | i, x :: xs =>
    match passOne A F T B i x, passAll A F T B (i + 1) xs with
    | some p, some ps => some (p :: ps)
    | _, _ => none

def Pass.key (p : Pass) : Option Nat := match p.src with | .box k => some k | _ => none
def Pass.tmp (p : Pass) : Option Nat := match p.src with | .own t => some t | _ => none

/-- The slots that give their slice away keep a view. -/
def Pass.gives (p : Pass) : Option (Nat × AV) :=
  match p.src, p.arg with
  | .own t, .slice _ rows => some (t, .slice .sh rows)
  | .own t, .ex _ _ => some (t, .undef)
  | _, _ => none

/-- What comes back into the boxes that were passed. -/
def backs (outs : List (Nat × List AV)) : Nat → List Pass → Option (List (Nat × List AV))
  | _, [] => some []
  | i, p :: ps =>
    match backs outs (i + 1) ps with
    | none => none
    | some l =>
      match p.src with
      | .box k =>
        match outs.lookup i with
        | some cs => some ((k, cs) :: l)
        | none => none
      | _ => some l

def AV.clean : AV → Bool
  | .loc _ _ | .ms _ _ _ _ | .ex _ _ | .fs _ | .ptr _ | .msp _ _ _ _ | .undef => false
  | _ => true

/-- The result of a call. -/
def resA (A : Ann) (d : Option Nat) (ps : List Pass) (r : AV) : Option Ups :=
  match d with
  | none => some {}
  | some d =>
    match r with
    | .ptr cs => if cs.isEmpty then none else newA A d cs
    | .ms i e lo n =>
      match (ps[i]?).bind Pass.key with
      | some k => if A.root d = k then some ⟨[(d, .ms k e lo n)], []⟩ else none
      | none => none
    | .ex e rows => if A.muts.contains d then unpackU A d e rows (fun _ => none) else if A.exs.contains d then some ⟨[(d, .ex e rows)], []⟩ else some ⟨[(d, .slice (.own e) rows)], []⟩
    | r => if r.clean then some ⟨[(d, r)], []⟩ else none

def callUps (A : Ann) (d : Option Nat) (ps : List Pass) (r : AV) (outs : List (Nat × List AV)) : Option Ups :=
  match resA A d ps r, backs outs 0 ps with
  | some u, some l =>
    if (ps.filterMap Pass.key).Nodup ∧ (ps.filterMap Pass.tmp).Nodup ∧ (∀ k ∈ ps.filterMap Pass.key, some k ≠ d) ∧ (∀ t ∈ ps.filterMap Pass.tmp, some t ≠ d) then
      some ⟨u.ts ++ ps.filterMap Pass.gives, u.bs ++ l⟩
    else none
  | _, _ => none

/-- The state in which a function begins. -/
def initAS (args : List AV) : AS :=
  ⟨fun t => match args[t]? with | some x => x.pslot t | none => .tuple [], fun k => (args[k]?).bind AV.pbox⟩

def noKeys (cs : List AV) : Prop := ∀ x ∈ cs, x.key = none

/-- A box that was empty is empty behind the call, and no other. -/
def EmptyOK (args : List AV) (outs : List (Nat × List AV)) : Prop := ∀ (i : Nat) (cs cs' : List AV), (args[i]?).bind AV.pbox = some cs → outs.lookup i = some cs' → (cs = [] ↔ cs' = [])

def RetR (P : Program) (g : Gh) (w : World) (v : Value) : AV → Prop
  | .ptr cs => ∃ k, g.np ≤ k ∧ v = .pointer (some ⟨g.ρ k, 0, none⟩) ∧ BoxR P g w k cs ∧ noOwn cs ∧ noKeys cs
  | .ms i e lo n => i < g.np ∧ MsV P g v i e lo n
  | .ex e rows => ∃ x, (∀ k, x ≠ .box k) ∧ ExOK P g w x v e rows
  | r => DR g.μ v r ∧ ∃ x, (∀ k, x ≠ .box k) ∧ OwnOK P g w x v r

/-- What a call of a function does, said of data. -/
def SoundCall (P : Program) (ann : FuncId → Ann) (f : FuncId) (args : List AV) (r : AV) (outs : List (Nat × List AV)) : Prop :=
  (ann f).np = args.length ∧ args.length ≤ (ann f).n ∧ (∀ (i : Nat) (cs : List AV), (args[i]?).bind AV.pbox = some cs → (ann f).root i = i ∧ (outs.lookup i).isSome = true) ∧ EmptyOK args outs ∧
  ∀ (g : Gh) (w : World) (vs : Array Value), vs.size = args.length → Rel P (ann f) g (initAS args) ⟨vs ++ Array.replicate ((ann f).n - vs.size) undef, []⟩ w →
    Calls P f vs w fun e w' => ∃ v g', e = .returned v ∧ Fr w g w' g' ∧ (∀ b o u, g'.μ b o = some u → w'.cell? ⟨b, o, none⟩ = some u) ∧ (∀ b x, g'.κ b = some x → b < w'.heap.size) ∧ RetR P g' w' v r ∧
      ∀ i cs, outs.lookup i = some cs → i < args.length → BoxR P g' w' i cs ∧ noOwn cs ∧ noKeys cs

variable {P : Program} {A : Ann} {g : Gh} {st : AS} {a : Act} {w : World} {T : Nat → AV} {B : Nat → Option (List AV)}

theorem norm_isLoc (x : AV) : x.norm.isLoc = x.isLoc := by cases x <;> rfl
theorem norm_own (x : AV) : ∀ e rows, x.norm ≠ .slice (.own e) rows := by intro e rows; cases x <;> simp [AV.norm]

/-- What each argument is worth. -/
structure PassR (P : Program) (F : Ann) (g : Gh) (st : AS) (a : Act) (w : World) (i : Nat) (v : Value) (p : Pass) : Prop where
  val : p.src = .val → (DR g.μ v p.arg ∧ p.arg.pbox = none ∧ p.arg.isLoc = false ∧ (∀ e rows, p.arg = .slice (.own e) rows → v = .slice none 0 0 ∧ rows = [])) ∨ (∃ e, p.arg = .ex e [] ∧ v = .slice none 0 0)
  box : ∀ k, p.src = .box k → ∃ cs, st.box k = some cs ∧ p.arg.pbox = some (cs.map AV.norm1) ∧ (∀ (j : Nat) (x : AV), cs[j]? = some x → x.key = none) ∧
    ((p.arg = .ptr (cs.map AV.norm1) ∧ v = .pointer (some ⟨g.ρ k, 0, none⟩)) ∨ ∃ e lo n, p.arg = .msp e lo n (cs.map AV.norm1) ∧ MsV P g v k e lo n)
  own : ∀ t, p.src = .own t → v = a.tmps.getD t undef ∧ ∃ e rows, (st.tmps t = .slice (.own e) rows ∧ p.arg = .slice (.own e) rows) ∨ (st.tmps t = .ex e rows ∧ p.arg = .ex e rows)

theorem passOne_spec (h : Rel P A g st a w) (hs : Sees T B st) {F : Ann} {i : Nat} {x : Operand} {p : Pass} (hp : passOne A F T B i x = some p) : PassR P F g st a w i (a.eval x) p := by
  unfold passOne at hp
  split at hp
  · rename_i k off hx
    split at hp
    · rename_i h0
      obtain ⟨h0, hh⟩ := h0
      subst h0
      cases hB : B k with
      | none => simp [hB] at hp
      | some cs =>
        simp [hB] at hp; subst hp
        exact ⟨by simp, fun k' he => by simp at he; subst he; exact ⟨cs, hs.box hB, rfl, fun j y hy => noHold_key h hh (hs.box hB) hy, .inl ⟨rfl, (hs.pr h x).2.1 k 0 hx⟩⟩, by simp⟩
    · simp at hp
  · rename_i k e lo n hx
    split at hp
    · rename_i h0
      cases hB : B k with
      | none => simp [hB] at hp
      | some cs =>
        simp [hB] at hp; subst hp
        exact ⟨by simp, fun k' he => by simp at he; subst he; exact ⟨cs, hs.box hB, rfl, fun j y hy => noHold_key h h0.2 (hs.box hB) hy, .inr ⟨e, lo, n, rfl, (hs.pr h x).2.2 k e lo n hx⟩⟩, by simp⟩
    · simp at hp
  · rename_i e rows hx
    split at hp
    · rename_i e' t _
      split at hp
      · rename_i he
        subst he
        simp at hp; subst hp
        refine ⟨by simp, by simp, fun t' he => ?_⟩
        simp at he; subst he
        have hT : T t = .ex e' rows := hx
        exact ⟨rfl, e', rows, .inr ⟨by rw [hs.tmp (by rw [hT]; simp), hT], rfl⟩⟩
      · simp at hp
    · simp at hp
  · rename_i tag rows hx
    have hd : DR g.μ (a.eval x) (.slice tag rows) := by
      have := (hs.pr h x).1 (by rw [hx]; rfl)
      rw [hx] at this; exact this
    split at hp
    · rename_i e _
      split at hp
      · simp at hp; subst hp
        exact ⟨fun _ => .inr ⟨e, rfl, nil_val hd⟩, by simp, by simp⟩
      · simp at hp
    split at hp
    · rename_i e _
      split at hp
      · rename_i e'
        split at hp
        · rename_i t
          split at hp
          · rename_i he
            subst he
            simp at hp; subst hp
            refine ⟨by simp, by simp, fun t' he => ?_⟩
            simp at he; subst he
            have hT : T t = .slice (.own e') rows := hx
            exact ⟨rfl, e', rows, .inl ⟨by rw [hs.tmp (by rw [hT]; simp), hT], rfl⟩⟩
          · simp at hp
        · simp at hp
      · simp at hp; subst hp
        have hv : a.eval x = .slice none 0 0 := by
          obtain ⟨ad, cap, hv, hn⟩ := hd.empty
          obtain ⟨rfl, rfl⟩ := hn rfl
          exact hv
        refine ⟨fun _ => .inl ⟨?_, rfl, rfl, fun e' rows' he => ?_⟩, by simp, by simp⟩
        · rw [hv]; exact .sliceE (by simp)
        · simp at he; exact ⟨hv, he.2.symm ▸ rfl⟩
      · simp at hp
    · simp at hp; subst hp
      exact ⟨fun _ => .inl ⟨hd.norm1, rfl, rfl, by simp⟩, by simp, by simp⟩
  · simp at hp
  · simp at hp
  · simp at hp
  · simp at hp
  · simp at hp
  · rename_i hnl hnm hnx hns hnu hnf hnp hnq hnt
    simp at hp; subst hp
    have hl : (valA T x).isLoc = false := by
      cases hv : valA T x <;> first | rfl | exact absurd hv (hnl _ _) | exact absurd hv (hnm _ _ _ _) | exact absurd hv (hnx _ _) | exact absurd hv (hnf _)
    refine ⟨fun _ => .inl ⟨((hs.pr h x).1 hl).norm, ?_, by rw [norm_isLoc]; exact hl, fun e rows he => absurd he (norm_own _ e rows)⟩, by simp, by simp⟩
    cases hv : valA T x <;> first | rfl | exact absurd hv (hnp _) | exact absurd hv (hnq _ _ _ _)

theorem passAll_spec (h : Rel P A g st a w) (hs : Sees T B st) {F : Ann} : ∀ (xs : List Operand) (i : Nat) (ps : List Pass), passAll A F T B i xs = some ps →
    xs.length = ps.length ∧ ∀ (j : Nat) (x : Operand) (p : Pass), xs[j]? = some x → ps[j]? = some p → PassR P F g st a w (i + j) (a.eval x) p
  | [], _, ps, hp => by simp [passAll] at hp; subst hp; simp
  | x :: xs, i, ps, hp => by
    unfold passAll at hp
    split at hp
    · rename_i p ps' h1 h2
      simp at hp; subst hp
      obtain ⟨k1, k2⟩ := passAll_spec h hs xs (i + 1) ps' h2
      refine ⟨by simp [k1], fun j y q hy hq => ?_⟩
      cases j with
      | zero => simp at hy hq; subst hy; subst hq; exact passOne_spec h hs h1
      | succ j =>
        simp at hy hq
        have := k2 j y q hy hq
        rwa [show i + 1 + j = i + (j + 1) from by omega] at this
    · simp at hp

/-- The caller's holder of what is passed. -/
def Pass.ent (p : Pass) : Option Ent :=
  match p.src with
  | .box k => some (.box k)
  | .own t => some (.tmp t)
  | .val => none

/-- The callee's name of it. -/
def Pass.entIn (p : Pass) (i : Nat) : Option Ent :=
  match p.src with
  | .box _ => some (.box i)
  | .own _ => some (.tmp i)
  | .val => none

/-- The block that is passed. -/
noncomputable def Pass.block (g : Gh) (p : Pass) (v : Value) : Option Nat :=
  match p.src with
  | .box k => (match p.arg.pbox with | some [] => none | _ => some (g.ρ k))
  | .own _ => v.ownBlock
  | .val => none

/-- Who owns a block in the callee. -/
noncomputable def kcal (g : Gh) : Nat → List Pass → List Value → Nat → Option Ent
  | i, p :: ps, v :: vs, b => if p.block g v = some b then p.entIn i else kcal g (i + 1) ps vs b
  | _, _, _, _ => none

end Go.Abs
