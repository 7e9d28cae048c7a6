import Derived.Test.YtalbakjfbgkjjaaAbs1
namespace Go.Abs
open Go.RowKit

inductive Ent where
  | tmp (t : Nat) | cell (k j : Nat) | box (k : Nat)
  deriving DecidableEq

/-- Ghost state: where each box lies, who owns which block, which cells never change. -/
structure Gh where
  ρ : Nat → Nat
  κ : Nat → Option Ent
  μ : Mem
  np : Nat

/-- Notes on a function: its slots, which slot's pointers lead into which box, which moves hand ownership on, which parameters are owned. -/
structure Ann where
  n : Nat
  np : Nat
  roots : List (Nat × Nat) := []
  takes : List Nat := []
  owns : List (Nat × TypeId) := []
  muts : List Nat := []
  held : List (Nat × Nat) := []
  inpl : List Nat := []
  exs : List Nat := []
  exin : List (Nat × TypeId) := []

def Ann.root (A : Ann) (t : Nat) : Nat := (A.roots.lookup t).getD t
def Ann.derived (A : Ann) (k : Nat) : List Nat := (A.roots.filter (·.2 == k)).map (·.1)

theorem lookup_mem {t k : Nat} : ∀ {l : List (Nat × Nat)}, l.lookup t = some k → (t, k) ∈ l
  | [], h => by simp at h
  | (a, b) :: l, h => by
    rw [List.lookup_cons] at h
    split at h
    · rename_i e; simp at h; simp at e; subst h; subst e; exact List.mem_cons_self
    · exact List.mem_cons_of_mem _ (lookup_mem h)

theorem Ann.root_cases (A : Ann) (t : Nat) : A.root t = t ∨ t ∈ A.derived (A.root t) := by
  unfold Ann.root
  cases h : A.roots.lookup t with
  | none => exact .inl rfl
  | some k => exact .inr (List.mem_map.2 ⟨(t, k), List.mem_filter.2 ⟨lookup_mem h, by simp⟩, rfl⟩)

structure AS where
  tmps : Nat → AV
  box : Nat → Option (List AV)

def AS.put (st : AS) (t : Nat) (x : AV) : AS := { st with tmps := fun u => if u = t then x else st.tmps u }
def AS.setBox (st : AS) (k : Nat) (cs : List AV) : AS := { st with box := fun j => if j = k then some cs else st.box j }

theorem AS.tmps_put (st : AS) (t : Nat) (x : AV) (u : Nat) : (st.put t x).tmps u = if u = t then x else st.tmps u := rfl
theorem AS.box_put (st : AS) (t : Nat) (x : AV) : (st.put t x).box = st.box := rfl
theorem AS.tmps_setBox (st : AS) (k : Nat) (cs : List AV) : (st.setBox k cs).tmps = st.tmps := rfl
theorem AS.box_setBox (st : AS) (k : Nat) (cs : List AV) (j : Nat) : (st.setBox k cs).box j = if j = k then some cs else st.box j := rfl

variable (P : Program)

def OwnOK (g : Gh) (w : World) (x : Ent) (v : Value) (y : AV) : Prop :=
  ∀ e rows, y = .slice (.own e) rows → (v = .slice none 0 0 ∧ rows = []) ∨
    ∃ b cap cur, v = .slice (some ⟨b, 0, none⟩) rows.length cap ∧ g.κ b = some x ∧ w.heap[b]? = some (.cells cur e (0, 0)) ∧ rows.length ≤ cap ∧
      cap ≤ maxLen ∧ cur.size = cap * P.cellsOf e ∧ (∀ o, rows.length * P.cellsOf e ≤ o → g.μ b o = none) ∧ (∀ r ∈ rows, r.length = P.cellsOf e)

theorem OwnOK.triv {g : Gh} {w : World} {x : Ent} {v : Value} {y : AV} (h : ∀ e rows, y ≠ .slice (.own e) rows) : OwnOK P g w x v y :=
  fun e rows he => absurd he (h e rows)

/-- An own slice of which nobody else has a view. -/
def ExOK (g : Gh) (w : World) (x : Ent) (v : Value) (e : TypeId) (rows : List (List AV)) : Prop :=
  (v = .slice none 0 0 ∧ rows = []) ∨
    ∃ b cap cur, v = .slice (some ⟨b, 0, none⟩) rows.length cap ∧ g.κ b = some x ∧ w.heap[b]? = some (.cells cur e (0, 0)) ∧ rows.length ≤ cap ∧
      cap ≤ maxLen ∧ cur.size = cap * P.cellsOf e ∧ (∀ o, g.μ b o = none) ∧ (∀ r ∈ rows, r.length = P.cellsOf e) ∧ CellsR g.μ (cur.toList.take (rows.length * P.cellsOf e)) rows.flatten

/-- A slice over a box. -/
def MsV (g : Gh) (v : Value) (k : Nat) (e : TypeId) (lo n : Nat) : Prop :=
  (n = 0 ∧ v = .slice none 0 0) ∨ ∃ cap, n ≤ cap ∧ v = .slice (some ⟨g.ρ k, lo * P.cellsOf e, none⟩) n cap

/-- What a cell holds. -/
def CV (g : Gh) (w : World) (x : Ent) (v : Value) : AV → Prop
  | .ms k e lo n => MsV P g v k e lo n
  | y => DR g.μ v y ∧ OwnOK P g w x v y

/-- A cell of a box. -/
def CR (g : Gh) (w : World) (x : Ent) (v : Value) (y : AV) : Prop := v.oneCell' = true ∧ CV P g w x v y

structure BoxR (g : Gh) (w : World) (k : Nat) (cs : List AV) : Prop where
  own : cs ≠ [] → g.κ (g.ρ k) = some (.box k)
  mem : cs ≠ [] → ∃ cur e, w.heap[g.ρ k]? = some (.cells cur e (0, 0)) ∧ cs.length ≤ cur.size ∧ ∀ j v x, cur[j]? = some v → cs[j]? = some x → CR P g w (.cell k j) v x
  free : cs ≠ [] → ∀ o, g.μ (g.ρ k) o = none

def TR (g : Gh) (w : World) (t : Nat) (v : Value) : AV → Prop
  | .loc k off => v = .pointer (some ⟨g.ρ k, off, none⟩)
  | .ms k e lo n => MsV P g v k e lo n
  | .ex e rows => ExOK P g w (.tmp t) v e rows
  | .fs rows => DR g.μ v (.slice .sh rows) ∧ ∃ ad n, v = .slice ad n n
  | x => DR g.μ v x ∧ OwnOK P g w (.tmp t) v x

def AV.isLoc : AV → Bool
  | .loc _ _ | .ms _ _ _ _ | .ex _ _ | .fs _ => true
  | _ => false
theorem key_none {x : AV} (h : x.isLoc = false) : x.key = none := by cases x <;> first | rfl | simp [AV.isLoc] at h

theorem TR.of {g : Gh} {w : World} {t : Nat} {v : Value} {x : AV} (hl : x.isLoc = false) (h : DR g.μ v x) (ho : OwnOK P g w (.tmp t) v x) : TR P g w t v x := by
  cases x <;> first | exact ⟨h, ho⟩ | simp [AV.isLoc] at hl
theorem TR.dr {g : Gh} {w : World} {t : Nat} {v : Value} {x : AV} (h : TR P g w t v x) (hl : x.isLoc = false) : DR g.μ v x ∧ OwnOK P g w (.tmp t) v x := by
  cases x <;> first | exact h | simp [AV.isLoc] at hl

structure Rel (A : Ann) (g : Gh) (st : AS) (a : Act) (w : World) : Prop where
  sz : a.tmps.size = A.n
  df : a.defers = []
  tm : ∀ t, TR P g w t (a.tmps.getD t undef) (st.tmps t)
  rt : ∀ t k, (st.tmps t).key = some k → A.root t = k
  bx : ∀ k cs, st.box k = some cs → BoxR P g w k cs
  mu : ∀ b o v, g.μ b o = some v → w.cell? ⟨b, o, none⟩ = some v
  kl : ∀ b x, g.κ b = some x → b < w.heap.size
  np : g.np = A.np
  ct : ∀ (k : Nat) (cs : List AV) (j : Nat) (x : AV) (k' : Nat), st.box k = some cs → cs[j]? = some x → x.key = some k' → (k, k') ∈ A.held

/-- What a piece of the run leaves alone: every block that nobody in this frame owned. -/
structure Fr (w : World) (g : Gh) (w' : World) (g' : Gh) : Prop where
  os : w'.os = w.os
  tape : w'.tape = w.tape
  output : w'.output = w.output
  size : w.heap.size ≤ w'.heap.size
  mu : Mem.le g.μ g'.μ
  old : ∀ b, b < w.heap.size → g.κ b = none → w'.heap[b]? = w.heap[b]? ∧ (∀ o, g'.μ b o = g.μ b o) ∧ g'.κ b = none
  np : g'.np = g.np
  rho : ∀ k, k < g.np → g'.ρ k = g.ρ k

theorem Fr.refl (w : World) (g : Gh) : Fr w g w g := ⟨rfl, rfl, rfl, Nat.le_refl _, Mem.le.refl _, fun _ _ h => ⟨rfl, fun _ => rfl, h⟩, rfl, fun _ _ => rfl⟩
theorem Fr.trans {w w1 w2 : World} {g g1 g2 : Gh} (h : Fr w g w1 g1) (k : Fr w1 g1 w2 g2) : Fr w g w2 g2 :=
  ⟨k.os.trans h.os, k.tape.trans h.tape, k.output.trans h.output, Nat.le_trans h.size k.size, h.mu.trans k.mu, fun b hb hn => by
    obtain ⟨a1, a2, a3⟩ := h.old b hb hn
    obtain ⟨b1, b2, b3⟩ := k.old b (Nat.lt_of_lt_of_le hb h.size) a3
    exact ⟨b1.trans a1, fun o => (b2 o).trans (a2 o), b3⟩, k.np.trans h.np, fun j hj => (k.rho j (by rw [h.np]; exact hj)).trans (h.rho j hj)⟩

/-- An entity's own blocks are kept. -/
def Keeps (g : Gh) (w : World) (g' : Gh) (w' : World) (x : Ent) : Prop :=
  ∀ b, g.κ b = some x → g'.κ b = some x ∧ w'.heap[b]? = w.heap[b]? ∧ ∀ o, g'.μ b o = g.μ b o

theorem OwnOK.keep {g g' : Gh} {w w' : World} {x : Ent} {v : Value} {y : AV} (h : OwnOK P g w x v y) (hk : Keeps g w g' w' x) : OwnOK P g' w' x v y := by
  intro e rows he
  rcases h e rows he with hn | ⟨b, cap, cur, h1, h2, h3, h4, h5, h6, h7, h8⟩
  · exact .inl hn
  · obtain ⟨k1, k2, k3⟩ := hk b h2
    exact .inr ⟨b, cap, cur, h1, k1, k2.trans h3, h4, h5, h6, fun o ho => (k3 o).trans (h7 o ho), h8⟩

theorem MsV.keep {g g' : Gh} {v : Value} {k : Nat} {e : TypeId} {lo n : Nat} (h : MsV P g v k e lo n) (hρ : g'.ρ k = g.ρ k) : MsV P g' v k e lo n := by
  rcases h with h | ⟨cap, h1, h2⟩
  · exact .inl h
  · exact .inr ⟨cap, h1, by rw [hρ]; exact h2⟩

theorem ExOK.keep {g g' : Gh} {w w' : World} {x : Ent} {v : Value} {e : TypeId} {rows : List (List AV)} (h : ExOK P g w x v e rows) (hle : Mem.le g.μ g'.μ) (hk : Keeps g w g' w' x) : ExOK P g' w' x v e rows := by
  rcases h with hn | ⟨b, cap, cur, h1, h2, h3, h4, h5, h6, h7, h8, h9⟩
  · exact .inl hn
  · obtain ⟨k1, k2, k3⟩ := hk b h2
    exact .inr ⟨b, cap, cur, h1, k1, k2.trans h3, h4, h5, h6, fun o => (k3 o).trans (h7 o), h8, h9.mono hle⟩

theorem TR.keep {g g' : Gh} {w w' : World} {t : Nat} {v : Value} {x : AV} (h : TR P g w t v x) (hle : Mem.le g.μ g'.μ) (hρ : ∀ k, x.key = some k → g'.ρ k = g.ρ k) (hk : Keeps g w g' w' (.tmp t)) : TR P g' w' t v x := by
  cases x with
  | loc k off => have := hρ k rfl; simp only [TR] at h ⊢; rw [this]; exact h
  | ms k e lo n => exact MsV.keep P h (hρ k rfl)
  | ex e rows => exact ExOK.keep P h hle hk
  | fs rows => exact ⟨h.1.mono hle, h.2⟩
  | _ => exact ⟨h.1.mono hle, h.2.keep P hk⟩

theorem CV.of {g : Gh} {w : World} {x : Ent} {v : Value} {y : AV} (h : DR g.μ v y) (ho : OwnOK P g w x v y) : CV P g w x v y := by
  cases y <;> first | exact ⟨h, ho⟩ | (cases h)
theorem CV.dr {g : Gh} {w : World} {x : Ent} {v : Value} {y : AV} (h : CV P g w x v y) (hl : y.key = none) : DR g.μ v y ∧ OwnOK P g w x v y := by
  cases y <;> first | exact h | (simp [AV.key] at hl)
theorem CR.keep {g g' : Gh} {w w' : World} {x : Ent} {v : Value} {y : AV} (h : CR P g w x v y) (hle : Mem.le g.μ g'.μ) (hρ : ∀ k, y.key = some k → g'.ρ k = g.ρ k) (hk : Keeps g w g' w' x) : CR P g' w' x v y := by
  refine ⟨h.1, ?_⟩
  have h2 := h.2
  cases y with
  | ms k e lo n => exact MsV.keep P h2 (hρ k rfl)
  | _ => exact ⟨h2.1.mono hle, h2.2.keep P hk⟩

theorem BoxR.keep {g g' : Gh} {w w' : World} {k : Nat} {cs : List AV} (h : BoxR P g w k cs) (hle : Mem.le g.μ g'.μ) (hρ : g'.ρ k = g.ρ k) (hcl : ∀ (j : Nat) (x : AV) (k' : Nat), cs[j]? = some x → x.key = some k' → g'.ρ k' = g.ρ k')
    (hb : Keeps g w g' w' (.box k)) (hc : ∀ j, Keeps g w g' w' (.cell k j)) : BoxR P g' w' k cs := by
  refine ⟨fun hne => ?_, fun hne => ?_, fun hne o => ?_⟩
  · rw [hρ]; exact (hb _ (h.own hne)).1
  · obtain ⟨k1, k2, k3⟩ := hb _ (h.own hne)
    obtain ⟨cur, e, h1, h2, h3⟩ := h.mem hne
    exact ⟨cur, e, by rw [hρ, k2]; exact h1, h2, fun j v x hv hx => (h3 j v x hv hx).keep P hle (fun k' hk' => hcl j x k' hx hk') (hc j)⟩
  · rw [hρ, (hb _ (h.own hne)).2.2]; exact h.free hne o

variable {P} {A : Ann} {g : Gh} {st : AS} {a : Act} {w : World}

theorem getD_put (a : Act) (t u : Nat) (v : Value) (h : t < a.tmps.size) : (a.put (some t) v).tmps.getD u undef = if u = t then v else a.tmps.getD u undef := by
  simp only [Act.put, Array.getD_eq_getD_getElem?, Array.getElem?_setIfInBounds]
  by_cases hu : u = t
  · subst hu; simp [h]
  · simp [hu, Ne.symm hu]

theorem size_put (a : Act) (d : Option Nat) (v : Value) : (a.put d v).tmps.size = a.tmps.size := by cases d <;> simp [Act.put]
theorem defers_put (a : Act) (d : Option Nat) (v : Value) : (a.put d v).defers = a.defers := by cases d <;> simp [Act.put]

/-- A value written to a slot. -/
theorem Rel.putAny (h : Rel P A g st a w) {t : Nat} {v : Value} {x : AV} (ht : t < A.n) (hx : TR P g w t v x) (hr : ∀ k, x.key = some k → A.root t = k) : Rel P A g (st.put t x) (a.put (some t) v) w := by
  refine ⟨by rw [size_put]; exact h.sz, by rw [defers_put]; exact h.df, fun u => ?_, fun u k he => ?_, h.bx, h.mu, h.kl, h.np, h.ct⟩
  · rw [getD_put a t u v (by rw [h.sz]; exact ht), AS.tmps_put]
    split
    · rename_i e; subst e; exact hx
    · exact h.tm u
  · rw [AS.tmps_put] at he
    split at he
    · rename_i e; subst e; exact hr k he
    · exact h.rt u k he

/-- A slot's abstract value is weakened, the run stays. -/
theorem Rel.weaken (h : Rel P A g st a w) (t : Nat) (x : AV) (hx : ∀ v, TR P g w t v (st.tmps t) → TR P g w t v x) (hl : x.isLoc = false) : Rel P A g (st.put t x) a w := by
  refine ⟨h.sz, h.df, fun u => ?_, fun u k he => ?_, h.bx, h.mu, h.kl, h.np, h.ct⟩
  · rw [AS.tmps_put]
    split
    · rename_i e; subst e; exact hx _ (h.tm u)
    · exact h.tm u
  · rw [AS.tmps_put] at he
    split at he
    · rw [key_none hl] at he; simp at he
    · exact h.rt u k he

theorem TR.undef {t : Nat} {v : Value} : TR P g w t v .undef := ⟨.undef v, OwnOK.triv P (by simp)⟩

theorem Rel.forget (h : Rel P A g st a w) (t : Nat) : Rel P A g (st.put t .undef) a w := h.weaken t .undef (fun _ _ => TR.undef) rfl

theorem share_isLoc (x : AV) : x.share.isLoc = x.isLoc := by unfold AV.share; split <;> rfl
theorem share_own (x : AV) : ∀ e rows, x.share ≠ .slice (.own e) rows := by
  intro e rows; unfold AV.share; split
  · simp
  · rename_i h; exact fun he => h e rows he
theorem TR.share {t u : Nat} {v : Value} {x : AV} (h : TR P g w t v x) (hl : x.isLoc = false) : TR P g w u v x.share :=
  TR.of P (by rw [share_isLoc]; exact hl) (TR.dr P h hl).1.share (OwnOK.triv P (share_own x))

theorem Rel.shareAt (h : Rel P A g st a w) (t : Nat) (hl : (st.tmps t).isLoc = false) : Rel P A g (st.put t (st.tmps t).share) a w :=
  h.weaken t _ (fun _ hv => hv.share hl) (by rw [share_isLoc]; exact hl)

/-- Forgetting a list of slots. -/
def AS.forgets (st : AS) (l : List Nat) : AS := l.foldl (fun s t => s.put t .undef) st
theorem Rel.forgets : ∀ (l : List Nat) {st : AS}, Rel P A g st a w → Rel P A g (st.forgets l) a w
  | [], _, h => h
  | t :: l, _, h => Rel.forgets l (h.forget t)
theorem AS.forgets_box (l : List Nat) : ∀ (st : AS), (st.forgets l).box = st.box := by
  induction l with
  | nil => intro st; rfl
  | cons t l ih => intro st; exact ih _
theorem AS.forgets_tmps (l : List Nat) : ∀ (st : AS) (u : Nat), (st.forgets l).tmps u = if u ∈ l then .undef else st.tmps u := by
  induction l with
  | nil => intro st u; simp [AS.forgets]
  | cons t l ih =>
    intro st u
    have := ih (st.put t .undef) u
    simp only [AS.forgets, List.foldl_cons] at this ⊢
    rw [this, AS.tmps_put]
    by_cases h1 : u ∈ l
    · simp [h1]
    · by_cases h2 : u = t
      · simp [h2]
      · simp [h1, h2]

/-- A draw. -/
theorem Rel.drew (h : Rel P A g st a w) : Rel P A g st a w.drew := by
  have hk : ∀ x, Keeps g w g w.drew x := fun x b hb => ⟨hb, rfl, fun _ => rfl⟩
  exact ⟨h.sz, h.df, fun t => (h.tm t).keep P (Mem.le.refl _) (fun _ _ => rfl) (hk _), h.rt, fun k cs hc => (h.bx k cs hc).keep P (Mem.le.refl _) rfl (fun _ _ _ _ _ => rfl) (hk _) (fun j => hk _), h.mu, h.kl, h.np, h.ct⟩
theorem Fr.drew (w : World) (g : Gh) : Fr w g w.drew g := ⟨rfl, rfl, rfl, Nat.le_refl _, Mem.le.refl _, fun _ _ h => ⟨rfl, fun _ => rfl, h⟩, rfl, fun _ _ => rfl⟩

/-- The world and the ghosts turn, every entity but some is kept. -/
theorem Rel.turn {g' : Gh} {w' : World} (h : Rel P A g st a w) (hle : Mem.le g.μ g'.μ) (hρ : ∀ k, (st.box k).isSome = true → g'.ρ k = g.ρ k) (hloc : ∀ t k, (st.tmps t).key = some k → g'.ρ k = g.ρ k)
    (hcl : ∀ (k : Nat) (cs : List AV) (j : Nat) (x : AV) (k' : Nat), st.box k = some cs → cs[j]? = some x → x.key = some k' → g'.ρ k' = g.ρ k')
    (hkt : ∀ t, (st.tmps t).owns = true → Keeps g w g' w' (.tmp t)) (hkb : ∀ k, (st.box k).isSome = true → Keeps g w g' w' (.box k)) (hkc : ∀ k j, (st.box k).isSome = true → Keeps g w g' w' (.cell k j))
    (hmu : ∀ b o v, g'.μ b o = some v → w'.cell? ⟨b, o, none⟩ = some v) (hkl : ∀ b x, g'.κ b = some x → b < w'.heap.size) (hnp : g'.np = g.np) : Rel P A g' st a w' := by
  refine ⟨h.sz, h.df, fun t => ?_, h.rt, fun k cs hc => (h.bx k cs hc).keep P hle (hρ k (by simp [hc])) (fun j x k' => hcl k cs j x k' hc) (hkb k (by simp [hc])) (fun j => hkc k j (by simp [hc])), hmu, hkl, hnp.trans h.np, h.ct⟩
  have ht := h.tm t
  cases hx : st.tmps t with
  | loc k off => rw [hx] at ht; simp only [TR] at ht ⊢; rw [hloc t k (by rw [hx]; rfl)]; exact ht
  | ms k e lo n => rw [hx] at ht; exact MsV.keep P ht (hloc t k (by rw [hx]; rfl))
  | ex e rows => rw [hx] at ht; exact ExOK.keep P ht hle (hkt t (by rw [hx]; rfl))
  | fs rows => rw [hx] at ht; exact ⟨ht.1.mono hle, ht.2⟩
  | slice tag rows =>
    rw [hx] at ht
    cases tag with
    | own e => exact ⟨ht.1.mono hle, ht.2.keep P (hkt t (by rw [hx]; rfl))⟩
    | _ => exact ⟨ht.1.mono hle, OwnOK.triv P (by simp)⟩
  | _ => rw [hx] at ht; exact ⟨ht.1.mono hle, OwnOK.triv P (by simp)⟩

end Go.Abs
