/- The heap: what a step reads, lays, writes and gives up. -/
import Derived.Test.YtjeenahnkcgfcaaGreatDoorSim5
import Derived.Deep.AppendSrc
import Derived.Laws.CopyRow
import Derived.Laws.AppendOwn
import Derived.Great.FillDense
set_option linter.unusedVariables false
set_option linter.unusedSimpArgs false
namespace Go.Sim
open Go.RowKit

variable {E : Env} {g : Gh} {f : Hf} {w : World}

def upF (f : Hf) (u : Up) : Hf := fun j => if j = u.1 then u.2 else f j
def upsF (f : Hf) : List Up → Hf
  | [] => f
  | u :: us => upsF (upF f u) us

theorem up_get (h : Hs) (u : Up) : (h.up u).hp.get = upF h.hp.get u := funext fun j => Tr.get_set _ _ _ _
theorem ups_get : ∀ (us : List Up) (h : Hs), (h.ups us).hp.get = upsF h.hp.get us
  | [], _ => rfl
  | u :: us, h => by
    show ((h.up u).ups us).hp.get = _
    rw [ups_get us, up_get]; rfl
theorem ups_nx : ∀ (us : List Up) (h : Hs), (h.ups us).nx = h.nx
  | [], _ => rfl
  | u :: us, h => by
    show ((h.up u).ups us).nx = _
    rw [ups_nx us]; rfl

def Gh.bind (g : Gh) (id : Nat) (p : Nat × Nat) (l : Nat) (e : TypeId) : Gh := ⟨g.η, g.sz, fun j => if j = id then some p else g.ρ j, fun j => if j = id then l else g.lim j, fun j => if j = id then e else g.et j⟩
theorem Gh.le_bind {id : Nat} {p : Nat × Nat} {l : Nat} {e : TypeId} (h : g.ρ id = none) : g.le (g.bind id p l e) := by
  have key : ∀ j q, g.ρ j = some q → j ≠ id := fun j q hq e => by subst e; rw [h] at hq; simp at hq
  refine ⟨rfl, rfl, fun j q hq => ?_, fun j q hq => ?_, fun j q hq => ?_⟩
  · show (if j = id then some p else g.ρ j) = some q
    rw [if_neg (key j q hq)]; exact hq
  · exact if_neg (key j q hq)
  · exact if_neg (key j q hq)
theorem Gh.bind_self (g : Gh) (id : Nat) (p : Nat × Nat) (l : Nat) (e : TypeId) : (g.bind id p l e).ρ id = some p := by simp [Gh.bind]
theorem Gh.bind_lim (g : Gh) (id : Nat) (p : Nat × Nat) (l : Nat) (e : TypeId) : (g.bind id p l e).lim id = l := by simp [Gh.bind]
theorem Gh.bind_et (g : Gh) (id : Nat) (p : Nat × Nat) (l : Nat) (e : TypeId) : (g.bind id p l e).et id = e := by simp [Gh.bind]
theorem Gh.bind_ne (g : Gh) {id j : Nat} (p : Nat × Nat) (l : Nat) (e : TypeId) (h : j ≠ id) : (g.bind id p l e).ρ j = g.ρ j := by simp [Gh.bind, h]

theorem HR.none_of (h : HR g f w) {id : Nat} (hn : g.ρ id = none) : f id = none := by
  cases hf : f id with
  | none => rfl
  | some o =>
    obtain ⟨b, c, h1, _⟩ := h.ob id o hf
    rw [hn] at h1; simp at h1

/-- Less is known. -/
theorem HR.sub (h : HR g f w) {f' : Hf} (hs : ∀ id o, f' id = some o → f id = some o) : HR g f' w :=
  ⟨fun id o ho => h.ob id o (hs id o ho), fun i j x y b c d hx hy h1 h2 => h.inj i j x y b c d (hs i x hx) (hs j y hy) h1 h2⟩

/-- What is written lies in a block of the heap's. -/
theorem HR.write (h : HR g f w) {id b c : Nat} {o o' : SO} {w' : World} (hf : f id = some o) (hρ : g.ρ id = some (b, c)) (hsz : w'.heap.size = w.heap.size)
    (hoth : ∀ k, k ≠ b → w'.heap[k]? = w.heap[k]?) (hor : OR g w' id b c o') (h1 : w'.os = w.os) (h2 : w'.tape = w.tape) (h3 : w'.output = w.output) :
    HR g (upF f (id, some o')) w' ∧ Fr g f w g (upF f (id, some o')) w' := by
  have hb : b < w.heap.size := by
    obtain ⟨b', c', q1, q2, _⟩ := h.ob id o hf
    rw [hρ] at q1
    obtain ⟨rfl, rfl⟩ : b = b' ∧ c = c' := by simpa using q1
    exact q2
  refine ⟨⟨fun j x hx => ?_, fun i j x y b1 c1 d1 hx hy e1 e2 => ?_⟩, ⟨h1, h2, h3, by omega, .refl _, fun k hk hn => hoth k (fun e => hn ⟨id, o, c, hf, by rw [e]; exact hρ⟩), fun k hk hm => ?_⟩⟩
  · simp only [upF] at hx
    split at hx
    · rename_i e; subst e; cases hx
      exact ⟨b, c, hρ, by omega, hor⟩
    · rename_i e
      obtain ⟨b1, c1, q1, q2, q3⟩ := h.ob j x hx
      refine ⟨b1, c1, q1, by omega, q3.mono (.refl _) q1 (hoth b1 (fun e' => ?_))⟩
      subst e'
      exact e (h.inj j id x o b1 c1 c hx hf q1 hρ)
  · have key : ∀ k z, upF f (id, some o') k = some z → ∃ z', f k = some z' := by
      intro k z hz
      simp only [upF] at hz
      split at hz
      · rename_i e; subst e; exact ⟨o, hf⟩
      · exact ⟨z, hz⟩
    obtain ⟨x', hx'⟩ := key i x hx
    obtain ⟨y', hy'⟩ := key j y hy
    exact h.inj i j x' y' b1 c1 d1 hx' hy' e1 e2
  · obtain ⟨j, x, d, hx, hd⟩ := hm
    simp only [upF] at hx
    split at hx
    · rename_i e; subst e; exact ⟨_, o, d, hf, hd⟩
    · exact ⟨j, x, d, hx, hd⟩

theorem HR.alloc (h : HR g f w) {new : Nat} (hn : g.ρ new = none) {o' : SO} {w' : World} {ob : Obj} {l : Nat} {e : TypeId} (hw : w' = w.alloc ob) (hor : OR (g.bind new (w.heap.size, 0) l e) w' new w.heap.size 0 o') :
    HR (g.bind new (w.heap.size, 0) l e) (upF f (new, some o')) w' ∧ Fr g f w (g.bind new (w.heap.size, 0) l e) (upF f (new, some o')) w' := by
  subst hw
  have hfn := h.none_of hn
  have hle := Gh.le_bind (p := (w.heap.size, 0)) (l := l) (e := e) hn
  have hsz : (w.alloc ob).heap.size = w.heap.size + 1 := by simp
  refine ⟨⟨fun j x hx => ?_, fun i j x y b1 c1 d1 hx hy e1 e2 => ?_⟩, ⟨rfl, rfl, rfl, by omega, hle, fun k hk _ => heap_alloc_old w ob hk, fun k hk hm => ?_⟩⟩
  · simp only [upF] at hx
    split at hx
    · rename_i e; subst e; cases hx
      exact ⟨w.heap.size, 0, Gh.bind_self _ _ _ _ _, by omega, hor⟩
    · rename_i e
      obtain ⟨b1, c1, q1, q2, q3⟩ := h.ob j x hx
      exact ⟨b1, c1, (Gh.bind_ne g _ _ _ e).trans q1, by omega, q3.mono hle q1 (heap_alloc_old w ob q2)⟩
  · simp only [upF] at hx hy
    split at hx
    · rename_i ei; subst ei
      split at hy
      · rename_i ej; exact ej.symm
      · rename_i ej
        rw [Gh.bind_self] at e1
        rw [Gh.bind_ne g _ _ _ ej] at e2
        obtain ⟨b2, c2, q1, q2, _⟩ := h.ob j y hy
        rw [e2] at q1
        simp at e1 q1
        omega
    · rename_i ei
      rw [Gh.bind_ne g _ _ _ ei] at e1
      split at hy
      · rename_i ej; subst ej
        rw [Gh.bind_self] at e2
        obtain ⟨b2, c2, q1, q2, _⟩ := h.ob i x hx
        rw [e1] at q1
        simp at e2 q1
        omega
      · rename_i ej
        rw [Gh.bind_ne g _ _ _ ej] at e2
        exact h.inj i j x y b1 c1 d1 hx hy e1 e2
  · obtain ⟨j, x, d, hx, hd⟩ := hm
    simp only [upF] at hx
    split at hx
    · rename_i e; subst e
      rw [Gh.bind_self] at hd
      simp at hd
      omega
    · rename_i e
      rw [Gh.bind_ne g _ _ _ e] at hd
      exact ⟨j, x, d, hx, hd⟩

/-- A block is given up; its number goes. -/
theorem HR.kill (h : HR g f w) (id : Nat) : HR g (upF f (id, none)) w ∧ Fr g f w g (upF f (id, none)) w := by
  have key : ∀ k z, upF f (id, none) k = some z → f k = some z := by
    intro k z hz
    simp only [upF] at hz
    split at hz
    · simp at hz
    · exact hz
  refine ⟨h.sub key, ⟨rfl, rfl, rfl, Nat.le_refl _, .refl _, fun _ _ _ => rfl, fun k hk hm => ?_⟩⟩
  obtain ⟨j, x, d, hx, hd⟩ := hm
  exact ⟨j, x, d, key j x hx, hd⟩

/-- The block of a number goes on under a new one. -/
theorem HR.rename (h : HR g f w) {id new b c c' l : Nat} {e : TypeId} {o o' : SO} {w' : World} (hn : g.ρ new = none) (hf : f id = some o) (hρ : g.ρ id = some (b, c)) (hsz : w'.heap.size = w.heap.size)
    (hoth : ∀ k, k ≠ b → w'.heap[k]? = w.heap[k]?) (hor : OR (g.bind new (b, c') l e) w' new b c' o') (h1 : w'.os = w.os) (h2 : w'.tape = w.tape) (h3 : w'.output = w.output) :
    HR (g.bind new (b, c') l e) (upF (upF f (id, none)) (new, some o')) w' ∧ Fr g f w (g.bind new (b, c') l e) (upF (upF f (id, none)) (new, some o')) w' := by
  have hle := Gh.le_bind (p := (b, c')) (l := l) (e := e) hn
  have hfn := h.none_of hn
  have hb : b < w.heap.size := by
    obtain ⟨b', c', q1, q2, _⟩ := h.ob id o hf
    rw [hρ] at q1
    obtain ⟨rfl, rfl⟩ : b = b' ∧ c = c' := by simpa using q1
    exact q2
  have key : ∀ j x, upF (upF f (id, none)) (new, some o') j = some x → (j = new ∧ x = o') ∨ (j ≠ new ∧ j ≠ id ∧ f j = some x) := by
    intro j x hx
    simp only [upF] at hx
    split at hx
    · rename_i e; cases hx; exact .inl ⟨e, rfl⟩
    · rename_i e
      split at hx
      · simp at hx
      · rename_i e'; exact .inr ⟨e, e', hx⟩
  have hno : ∀ j x d, j ≠ id → f j = some x → g.ρ j = some (b, d) → False := fun j x d hj hx hd => hj (h.inj j id x o b d c hx hf hd hρ)
  refine ⟨⟨fun j x hx => ?_, fun i j x y b1 c1 d1 hx hy e1 e2 => ?_⟩, ⟨h1, h2, h3, by omega, hle, fun k hk hn => hoth k (fun e => hn ⟨id, o, c, hf, by rw [e]; exact hρ⟩), fun k hk hm => ?_⟩⟩
  · rcases key j x hx with ⟨rfl, rfl⟩ | ⟨q1, q2, q3⟩
    · exact ⟨b, c', Gh.bind_self _ _ _ _ _, by omega, hor⟩
    · obtain ⟨b1, c1, r1, r2, r3⟩ := h.ob j x q3
      exact ⟨b1, c1, (Gh.bind_ne g _ _ _ q1).trans r1, by omega, r3.mono hle r1 (hoth b1 (fun e => by subst e; exact hno j x c1 q2 q3 r1))⟩
  · rcases key i x hx with ⟨rfl, rfl⟩ | ⟨q1, q2, q3⟩ <;> rcases key j y hy with ⟨rfl, rfl⟩ | ⟨r1, r2, r3⟩
    · rfl
    · rw [Gh.bind_self] at e1
      rw [Gh.bind_ne g _ _ _ r1] at e2
      obtain ⟨rfl, _⟩ : b = b1 ∧ c' = c1 := by simpa using e1
      exact (hno j y d1 r2 r3 e2).elim
    · rw [Gh.bind_self] at e2
      rw [Gh.bind_ne g _ _ _ q1] at e1
      obtain ⟨rfl, _⟩ : b = b1 ∧ c' = d1 := by simpa using e2
      exact (hno i x c1 q2 q3 e1).elim
    · rw [Gh.bind_ne g _ _ _ q1] at e1
      rw [Gh.bind_ne g _ _ _ r1] at e2
      exact h.inj i j x y b1 c1 d1 q3 r3 e1 e2
  · obtain ⟨j, x, d, hx, hd⟩ := hm
    rcases key j x hx with ⟨rfl, rfl⟩ | ⟨q1, q2, q3⟩
    · rw [Gh.bind_self] at hd
      obtain ⟨rfl, _⟩ : b = k ∧ c' = d := by simpa using hd
      exact ⟨id, o, c, hf, hρ⟩
    · rw [Gh.bind_ne g _ _ _ q1] at hd
      exact ⟨j, x, d, q3, hd⟩

/-! ### cells -/
theorem cell_heap {b o : Nat} {cur : Array Value} {e : TypeId} {fz : Nat × Nat} (h : w.heap[b]? = some (.cells cur e fz)) : w.cell? ⟨b, o, none⟩ = cur[o]? := by simp [World.cell?, h]
theorem add_lit (b o j : Nat) : (⟨b, o, none⟩ : Addr).add j = ⟨b, o + j, none⟩ := by unfold Addr.add; split <;> simp_all

/-- Some cells of a block: their values. -/
theorem Cells.vals {id b o : Nat} {e : TypeId} {cs : List SV} (h : Cells g w id b o e cs) (off n : Nat) (hl : off + n ≤ cs.length) :
    ∃ vs : List Value, vs.length = n ∧ VCs g vs ((cs.drop off).take n) ∧ ∀ j v, vs[j]? = some v → w.cell? ⟨b, o + off + j, none⟩ = some v := by
  obtain ⟨⟨cur, h1, h0, vs, h2, h3⟩, h4⟩ := h
  refine ⟨(vs.drop off).take n, ?_, (h2.drop off).take n, fun j v hv => ?_⟩
  · have := h2.length
    simp; omega
  · rw [cell_heap h1]
    rw [List.getElem?_take] at hv
    split at hv
    · rw [List.getElem?_drop] at hv
      rw [Nat.add_assoc]
      exact h3 _ _ hv
    · simp at hv

theorem splice_get {α : Type} {cs xs : List α} {off : Nat} (h : off + xs.length ≤ cs.length) (j : Nat) :
    (cs.take off ++ xs ++ cs.drop (off + xs.length))[j]? = if off ≤ j ∧ j < off + xs.length then xs[j - off]? else cs[j]? := by
  by_cases h1 : j < off
  · rw [if_neg (by omega), List.append_assoc, List.getElem?_append_left (by simp; omega), List.getElem?_take]
    simp [h1]
  · by_cases h2 : j < off + xs.length
    · rw [if_pos ⟨by omega, h2⟩, List.getElem?_append_left (by simp; omega), List.getElem?_append_right (by simp; omega)]
      congr 1
      simp [Nat.min_eq_left (by omega : off ≤ cs.length)]
    · rw [List.getElem?_append_right (by simp; omega), List.getElem?_drop, if_neg (by omega)]
      congr 1
      simp [Nat.min_eq_left (by omega : off ≤ cs.length)]
      omega
theorem splice_eq (cs : List SV) (off : Nat) (xs : List SV) : splice cs off xs = cs.take off ++ xs ++ cs.drop (off + xs.length) := rfl
theorem splice_length {cs : List SV} {off : Nat} {xs : List SV} (h : off + xs.length ≤ cs.length) : (splice cs off xs).length = cs.length := by
  rw [splice_eq]; simp; omega

/-- Cells are written. -/
theorem Cells.store {P : Program} {id b o : Nat} {e : TypeId} {cs : List SV} (h : Cells g w id b o e cs) {off : Nat} {us : List Value} {xs : List SV} (hx : VCs g us xs) (hl : off + xs.length ≤ cs.length) :
    ∃ w', (storeCells ⟨b, o + off, none⟩ us 0).run P w = .ok () w' ∧ Cells g w' id b o e (splice cs off xs) ∧ w'.heap.size = w.heap.size ∧ (∀ k, k ≠ b → w'.heap[k]? = w.heap[k]?) ∧ w'.os = w.os ∧ w'.tape = w.tape ∧ w'.output = w.output := by
  have hul := hx.length
  by_cases hu0 : us = []
  · subst hu0
    have hx0 : xs = [] := List.eq_nil_of_length_eq_zero (by simpa using hul.symm)
    subst hx0
    refine ⟨w, rfl, ?_, rfl, fun _ _ => rfl, rfl, rfl, rfl⟩
    have : splice cs off [] = cs := by rw [splice_eq]; simp
    rw [this]; exact h
  obtain ⟨⟨cur, h1, h0, vs, h2, h3⟩, h4⟩ := h
  have hvl := h2.length
  have hpos : 0 < us.length := by cases us with | nil => exact absurd rfl hu0 | cons _ _ => simp
  have hsz : o + off + us.length ≤ cur.size := by
    have hlt : off + us.length - 1 < vs.length := by omega
    have := h3 (off + us.length - 1) vs[off + us.length - 1] (by simp [hlt])
    have := (Array.getElem?_eq_some_iff.1 this).1
    omega
  have hrun := run_storeCells_at P b (o + off) e us 0 cur w h1 (by omega) hx.one
  simp only [Nat.add_zero] at hrun
  refine ⟨_, hrun, ⟨⟨_, setRow_heap w b cur _ e _ h1, ?_, vs.take off ++ us ++ vs.drop (off + us.length), ?_, ?_⟩, h4⟩, by simp, fun k hk => setRow_other w b k _ hk, rfl, rfl, rfl⟩
  · simp; omega
  · rw [splice_eq, ← hul]
    exact ((h2.take off).append hx).append (h2.drop _)
  · intro j v hv
    rw [splice_get (by omega)] at hv
    have hg : (cur.toList.take (o + off) ++ us ++ cur.toList.drop (o + off + us.length)).toArray[o + j]? = if o + off ≤ o + j ∧ o + j < o + off + us.length then us[o + j - (o + off)]? else cur[o + j]? := by
      rw [List.getElem?_toArray, splice_get (by simp; omega)]
      simp
    rw [hg]
    split at hv
    · rename_i hc
      rw [if_pos (by omega)]
      have : o + j - (o + off) = j - off := by omega
      rw [this]; exact hv
    · rename_i hc
      rw [if_neg (by omega)]
      exact h3 j v hv

end Go.Sim
