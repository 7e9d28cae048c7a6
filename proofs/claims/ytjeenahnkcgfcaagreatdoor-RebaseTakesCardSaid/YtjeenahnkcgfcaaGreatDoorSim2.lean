/- What the machine's values and blocks mean. -/
import Derived.Test.YtjeenahnkcgfcaaGreatDoorSim1
set_option linter.unusedVariables false
set_option linter.unusedSimpArgs false
namespace Go.Sim
open Go.RowKit

theorem sel_if {α : Type} (b : Bool) (x y : α) : sel b x y = if b = true then x else y := by cases b <;> rfl
theorem sel_some {α : Type} {b : Bool} {x : Option α} {r : α} (h : sel b x none = some r) : b = true ∧ x = some r := by
  cases b
  · simp [sel] at h
  · exact ⟨rfl, h⟩
theorem bind1_some {α γ : Type} {x : Option α} {f : α → Option γ} {r : γ} (h : bind1 x f = some r) : ∃ a, x = some a ∧ f a = some r := by
  cases x with
  | none => cases h
  | some a => exact ⟨a, rfl, h⟩
theorem bind2_some {α β γ : Type} {x : Option α} {y : Option β} {f : α → β → Option γ} {r : γ} (h : bind2 x y f = some r) : ∃ a b, x = some a ∧ y = some b ∧ f a b = some r := by
  cases x with
  | none => cases h
  | some a =>
    cases y with
    | none => cases h
    | some b => exact ⟨a, b, rfl, rfl, h⟩
theorem bind3_some {α β δ γ : Type} {x : Option α} {y : Option β} {z : Option δ} {f : α → β → δ → Option γ} {r : γ} (h : bind3 x y z f = some r) : ∃ a b c, x = some a ∧ y = some b ∧ z = some c ∧ f a b c = some r := by
  obtain ⟨a, ha, h⟩ := bind1_some h
  obtain ⟨b, c, hb, hc, h⟩ := bind2_some h
  exact ⟨a, b, c, ha, hb, hc, h⟩

theorem beq_iff (a b : Nat) : Nat.beq a b = true ↔ a = b := ⟨Nat.eq_of_beq_eq_true, fun h => by subst h; exact Nat.beq_refl a⟩
theorem beq_eq (a b : Nat) : Nat.beq a b = decide (a = b) := by
  rw [Bool.eq_iff_iff, beq_iff]; simp
theorem ble_iff (a b : Nat) : Nat.ble a b = true ↔ a ≤ b := by rw [Nat.ble_eq]
theorem ble_eq (a b : Nat) : Nat.ble a b = decide (a ≤ b) := by
  rw [Bool.eq_iff_iff, ble_iff]; simp

theorem Tr.get_nil {α : Type} (i : Nat) : (Tr.nil : Tr α).get i = none := rfl
theorem Tr.get_node {α : Type} (l r : Tr α) (v : Option α) (i : Nat) : (Tr.node l v r).get i = if i = 0 then v else if i % 2 = 1 then l.get (i / 2) else r.get (i / 2 - 1) := by
  show sel (Nat.beq i 0) v (sel (Nat.beq (Nat.mod i 2) 1) (l.get (Nat.div i 2)) (r.get (Nat.sub (Nat.div i 2) 1))) = _
  rw [sel_if, sel_if, beq_eq, beq_eq]
  simp only [decide_eq_true_eq]
  rfl
def Tr.left {α : Type} : Tr α → Tr α
  | .nil => .nil
  | .node l _ _ => l
def Tr.right {α : Type} : Tr α → Tr α
  | .nil => .nil
  | .node _ _ r => r
def Tr.val {α : Type} : Tr α → Option α
  | .nil => none
  | .node _ v _ => v
theorem Tr.get_parts {α : Type} (t : Tr α) (i : Nat) : t.get i = if i = 0 then t.val else if i % 2 = 1 then t.left.get (i / 2) else t.right.get (i / 2 - 1) := by
  cases t with
  | nil => simp [Tr.val, Tr.left, Tr.right, Tr.get_nil]
  | node l v r => rw [Tr.get_node]; rfl
theorem Tr.setN_succ {α : Type} (n : Nat) (t : Tr α) (i : Nat) (x : Option α) : Tr.setN (n + 1) t i x =
    if i = 0 then .node t.left x t.right else if i % 2 = 1 then .node (Tr.setN n t.left (i / 2) x) t.val t.right else .node t.left t.val (Tr.setN n t.right (i / 2 - 1) x) := by
  have e : Tr.setN (n + 1) t i x = sel (Nat.beq i 0) (Tr.node t.left x t.right) (sel (Nat.beq (Nat.mod i 2) 1) (.node (Tr.setN n t.left (Nat.div i 2) x) t.val t.right) (.node t.left t.val (Tr.setN n t.right (Nat.sub (Nat.div i 2) 1) x))) := by
    cases t <;> rfl
  rw [e, sel_if, sel_if, beq_eq, beq_eq]
  simp only [decide_eq_true_eq]
  rfl
theorem Tr.get_setN {α : Type} : ∀ (n : Nat) (t : Tr α) (i j : Nat) (x : Option α), i < n → (Tr.setN n t i x).get j = if j = i then x else t.get j
  | 0, _, _, _, _, h => by omega
  | n + 1, t, i, j, x, h => by
    rw [Tr.setN_succ]
    by_cases h0 : i = 0
    · subst h0
      rw [if_pos rfl, Tr.get_node]
      by_cases hj : j = 0
      · simp [hj]
      · rw [if_neg hj, if_neg hj, Tr.get_parts t j, if_neg hj]
    · rw [if_neg h0]
      by_cases h1 : i % 2 = 1
      · rw [if_pos h1, Tr.get_node, Tr.get_parts t j]
        by_cases hj : j = 0
        · subst hj; rw [if_pos rfl, if_pos rfl, if_neg (by omega)]
        · rw [if_neg hj, if_neg hj]
          by_cases hj1 : j % 2 = 1
          · rw [if_pos hj1, if_pos hj1, Tr.get_setN n _ _ _ _ (by omega)]
            by_cases e : j = i
            · rw [if_pos e, if_pos (by omega)]
            · rw [if_neg e, if_neg (by omega)]
          · rw [if_neg hj1, if_neg hj1, if_neg (by omega)]
      · rw [if_neg h1, Tr.get_node, Tr.get_parts t j]
        by_cases hj : j = 0
        · subst hj; rw [if_pos rfl, if_pos rfl, if_neg (by omega)]
        · rw [if_neg hj, if_neg hj]
          by_cases hj1 : j % 2 = 1
          · rw [if_pos hj1, if_pos hj1, if_neg (by omega)]
          · rw [if_neg hj1, if_neg hj1, Tr.get_setN n _ _ _ _ (by omega)]
            by_cases e : j = i
            · rw [if_pos e, if_pos (by omega)]
            · rw [if_neg e, if_neg (by omega)]
theorem Tr.get_set {α : Type} (t : Tr α) (i j : Nat) (x : Option α) : (t.set i x).get j = if j = i then x else t.get j := Tr.get_setN (i + 1) t i j x (by omega)

/-- Ghosts: the values of the unknown numbers; the sizes of the types; where each block lies: block and first cell; how many cells it surely has, and its type. -/
structure Gh where
  η : Nat → Int
  sz : TypeId → Nat
  ρ : Nat → Option (Nat × Nat)
  lim : Nat → Nat
  et : Nat → TypeId

structure Gh.le (g g' : Gh) : Prop where
  η : g'.η = g.η
  sz : g'.sz = g.sz
  ρ : ∀ id p, g.ρ id = some p → g'.ρ id = some p
  lim : ∀ id p, g.ρ id = some p → g'.lim id = g.lim id
  et : ∀ id p, g.ρ id = some p → g'.et id = g.et id
theorem Gh.le.refl (g : Gh) : g.le g := ⟨rfl, rfl, fun _ _ h => h, fun _ _ _ => rfl, fun _ _ _ => rfl⟩
theorem Gh.le.trans {a b c : Gh} (h : a.le b) (k : b.le c) : a.le c :=
  ⟨k.η.trans h.η, k.sz.trans h.sz, fun id p q => k.ρ id p (h.ρ id p q), fun id p q => (k.lim id p (h.ρ id p q)).trans (h.lim id p q), fun id p q => (k.et id p (h.ρ id p q)).trans (h.et id p q)⟩

mutual
inductive VR (g : Gh) : Value → SV → Prop
  | bool (b) : VR g (.bool b) (.bool b)
  | int (k e) {n : Int} (h : n = e.ev g.η) : VR g (.int k n) (.int k e)
  | str (s) : VR g (.string s) (.str s)
  | ptr {id off b o} (h : g.ρ id = some (b, o)) : VR g (.pointer (some ⟨b, o + off, none⟩)) (.ptr id off)
  | nilp : VR g (.pointer none) .nilp
  | sl {id off n b o c} {cap : Cp} (h : g.ρ id = some (b, o)) (hn : n ≤ c) (hc : ∀ m, cap = .k m → c = m) (hl : ∀ e, cap = .u e → g.et id = e ∧ off + c * g.sz e ≤ g.lim id) : VR g (.slice (some ⟨b, o + off, none⟩) n c) (.sl id off n cap)
  | sle {a c} : VR g (.slice a 0 c) .sle
  | nils : VR g (.slice none 0 0) .nils
  | mp {id b o} (h : g.ρ id = some (b, o)) : VR g (.map (some b)) (.mp id)
  | nilm : VR g (.map none) .nilm
  | fn {f : FuncId} {first caps : Array Value} {fs cs : List SV} (h1 : VRs g first.toList fs) (h2 : VRs g caps.toList cs) : VR g (.func (.func f) first caps) (.fn (.func f) fs cs)
  | yld {id b o} (h : g.ρ id = some (b, o)) : VR g (.func (.yield b) #[] #[]) (.yld id)
  | nilf : VR g .nilFunc .nilf
  | ifc {t v x} (h : VR g v x) : VR g (.iface t v) (.ifc t x)
  | nili : VR g .nilIface .nili
  | agg {vs : Array Value} {cs} (h : VCs g vs.toList cs) : VR g (.agg vs) (.agg cs)
  | tup {vs : Array Value} {cs} (h : VRs g vs.toList cs) : VR g (.tuple vs) (.tup cs)
  | undef (v) : VR g v .undef
inductive VRs (g : Gh) : List Value → List SV → Prop
  | nil : VRs g [] []
  | cons {v x vs xs} (h : VR g v x) (ht : VRs g vs xs) : VRs g (v :: vs) (x :: xs)
inductive VCs (g : Gh) : List Value → List SV → Prop
  | nil : VCs g [] []
  | cons {v x vs xs} (h1 : v.oneCell' = true) (h : VR g v x) (ht : VCs g vs xs) : VCs g (v :: vs) (x :: xs)
end

mutual
theorem VR.mono {g g' : Gh} (hle : g.le g') : ∀ {v x}, VR g v x → VR g' v x
  | _, _, .bool b => .bool b
  | _, _, .int k e h => .int k e (by rw [hle.η]; exact h)
  | _, _, .str s => .str s
  | _, _, .ptr h => .ptr (hle.ρ _ _ h)
  | _, _, .nilp => .nilp
  | _, _, .sl h hn hc hl => .sl (hle.ρ _ _ h) hn hc (fun e he => by rw [hle.sz, hle.et _ _ h, hle.lim _ _ h]; exact hl e he)
  | _, _, .sle => .sle
  | _, _, .nils => .nils
  | _, _, .mp h => .mp (hle.ρ _ _ h)
  | _, _, .nilm => .nilm
  | _, _, .fn h1 h2 => .fn (h1.mono hle) (h2.mono hle)
  | _, _, .yld h => .yld (hle.ρ _ _ h)
  | _, _, .nilf => .nilf
  | _, _, .ifc h => .ifc (h.mono hle)
  | _, _, .nili => .nili
  | _, _, .agg h => .agg (h.mono hle)
  | _, _, .tup h => .tup (h.mono hle)
  | _, _, .undef v => .undef v
theorem VRs.mono {g g' : Gh} (hle : g.le g') : ∀ {v x}, VRs g v x → VRs g' v x
  | _, _, .nil => .nil
  | _, _, .cons h ht => .cons (h.mono hle) (ht.mono hle)
theorem VCs.mono {g g' : Gh} (hle : g.le g') : ∀ {v x}, VCs g v x → VCs g' v x
  | _, _, .nil => .nil
  | _, _, .cons h1 h ht => .cons h1 (h.mono hle) (ht.mono hle)
end

variable {g : Gh} {P : Program}

theorem VCs.length : ∀ {vs : List Value} {cs : List SV}, VCs g vs cs → vs.length = cs.length
  | _, _, .nil => rfl
  | _, _, .cons _ _ ht => by simp [ht.length]
theorem VRs.length : ∀ {vs : List Value} {cs : List SV}, VRs g vs cs → vs.length = cs.length
  | _, _, .nil => rfl
  | _, _, .cons _ ht => by simp [ht.length]
theorem VCs.get : ∀ {vs : List Value} {cs : List SV}, VCs g vs cs → ∀ {j : Nat} {x : SV}, cs[j]? = some x → ∃ v, vs[j]? = some v ∧ v.oneCell' = true ∧ VR g v x
  | _, _, .nil, _, _, h => by simp at h
  | _, _, .cons h1 hd ht, j, x, h => by
    cases j with
    | zero => simp at h; subst h; exact ⟨_, rfl, h1, hd⟩
    | succ j => simp at h; obtain ⟨v, a, b, c⟩ := ht.get h; exact ⟨v, by simpa using a, b, c⟩
theorem VRs.get : ∀ {vs : List Value} {cs : List SV}, VRs g vs cs → ∀ {j : Nat} {x : SV}, cs[j]? = some x → ∃ v, vs[j]? = some v ∧ VR g v x
  | _, _, .nil, _, _, h => by simp at h
  | _, _, .cons hd ht, j, x, h => by
    cases j with
    | zero => simp at h; subst h; exact ⟨_, rfl, hd⟩
    | succ j => simp at h; obtain ⟨v, a, c⟩ := ht.get h; exact ⟨v, by simpa using a, c⟩
theorem VCs.append : ∀ {vs us : List Value} {cs ds : List SV}, VCs g vs cs → VCs g us ds → VCs g (vs ++ us) (cs ++ ds)
  | _, _, _, _, .nil, k => k
  | _, _, _, _, .cons h1 hd ht, k => .cons h1 hd (ht.append k)
theorem VRs.append : ∀ {vs us : List Value} {cs ds : List SV}, VRs g vs cs → VRs g us ds → VRs g (vs ++ us) (cs ++ ds)
  | _, _, _, _, .nil, k => k
  | _, _, _, _, .cons hd ht, k => .cons hd (ht.append k)
theorem VCs.drop : ∀ {vs : List Value} {cs : List SV} (n : Nat), VCs g vs cs → VCs g (vs.drop n) (cs.drop n)
  | _, _, 0, h => h
  | _, _, n + 1, .nil => by simpa using .nil
  | _, _, n + 1, .cons _ _ ht => by simpa using ht.drop n
theorem VCs.take : ∀ {vs : List Value} {cs : List SV} (n : Nat), VCs g vs cs → VCs g (vs.take n) (cs.take n)
  | _, _, 0, _ => by simpa using .nil
  | _, _, n + 1, .nil => by simpa using .nil
  | _, _, n + 1, .cons h1 hd ht => by simpa using .cons h1 hd (ht.take n)
theorem VCs.one : ∀ {vs : List Value} {cs : List SV}, VCs g vs cs → ∀ v ∈ vs, v.oneCell' = true
  | _, _, .nil, v, hv => by simp at hv
  | _, _, .cons h1 _ ht, v, hv => by
    rcases List.mem_cons.1 hv with rfl | hv
    · exact h1
    · exact ht.one v hv
theorem VCs.mk : ∀ {vs : List Value} {cs : List SV}, vs.length = cs.length → (∀ (j : Nat) (v : Value) (x : SV), vs[j]? = some v → cs[j]? = some x → v.oneCell' = true ∧ VR g v x) → VCs g vs cs
  | [], [], _, _ => .nil
  | v :: vs, x :: xs, hl, h => by
    obtain ⟨a, b⟩ := h 0 v x rfl rfl
    exact .cons a b (VCs.mk (by simpa using hl) fun j v x hv hx => h (j + 1) v x (by simpa using hv) (by simpa using hx))
  | [], _ :: _, hl, _ => by simp at hl
  | _ :: _, [], hl, _ => by simp at hl

/-- The cells of a block from a place on. -/
structure Cells (g : Gh) (w : World) (id b o : Nat) (e : TypeId) (cs : List SV) : Prop where
  mem : ∃ cur : Array Value, w.heap[b]? = some (.cells cur e (0, 0)) ∧ o + g.lim id ≤ cur.size ∧ ∃ vs, VCs g vs cs ∧ ∀ j v, vs[j]? = some v → cur[o + j]? = some v
  et : g.et id = e

def EntR (g : Gh) (m : MapEntry) (x : SV × SV × Nat) : Prop := VR g m.key x.1 ∧ VR g m.val x.2.1 ∧ m.born = x.2.2
inductive EntsR (g : Gh) : List MapEntry → List (SV × SV × Nat) → Prop
  | nil : EntsR g [] []
  | cons {m x ms xs} (h : EntR g m x) (ht : EntsR g ms xs) : EntsR g (m :: ms) (x :: xs)
theorem EntsR.mono {g g' : Gh} (hle : g.le g') : ∀ {ms : List MapEntry} {xs : List (SV × SV × Nat)}, EntsR g ms xs → EntsR g' ms xs
  | _, _, .nil => .nil
  | _, _, .cons h ht => .cons ⟨h.1.mono hle, h.2.1.mono hle, h.2.2⟩ (ht.mono hle)

/-- The slots of a frame. -/
structure FR (g : Gh) (nt : Nat) (tm : Tf) (tmps : Array Value) : Prop where
  sz : tmps.size = nt
  tm : ∀ t x, tm t = some x → VR g (tmps.getD t undef) x
theorem FR.mono {g g' : Gh} (hle : g.le g') {nt : Nat} {tm : Tf} {tmps : Array Value} (h : FR g nt tm tmps) : FR g' nt tm tmps := ⟨h.sz, fun t x hx => (h.tm t x hx).mono hle⟩

/-- What lies at a block's place. -/
def OR (g : Gh) (w : World) (id b o : Nat) : SO → Prop
  | .cells e cs => Cells g w id b o e cs
  | .map es c => ∃ ms, w.heap[b]? = some (.map ms c) ∧ EntsR g ms.toList es
  | .strIter s pos => o = 0 ∧ w.heap[b]? = some (.stringIter s pos)
  | .mapIter mp since seen last => o = 0 ∧ ∃ (bm : Option Nat) (sa : Array Nat), w.heap[b]? = some (.mapIter bm since sa last) ∧ sa.toList = seen ∧ (match mp with | none => bm = none | some m => ∃ x y, bm = some x ∧ g.ρ m = some (x, y))
  | .loop nt tm ps as bo st pe dd => codeOk as = true ∧ codeOk bo = true ∧ ∃ l : Loop, w.heap[b]? = some (.loop l) ∧ l.state = st ∧ l.pending = pe ∧ l.params.toList = ps ∧ l.assign = as ∧ l.body = bo ∧ FR g nt tm.get l.tmps ∧ ∃ o', g.ρ dd = some (l.defers, o')
  | .dfr => w.heap[b]? = some (.deferred (some []))

theorem Cells.mono {g g' : Gh} (hle : g.le g') {w w' : World} {id b o : Nat} {e : TypeId} {cs : List SV} (hρ : g.ρ id = some (b, o)) (h : Cells g w id b o e cs) (hw : w'.heap[b]? = w.heap[b]?) : Cells g' w' id b o e cs := by
  obtain ⟨⟨cur, h1, h0, vs, h2, h3⟩, h4⟩ := h
  exact ⟨⟨cur, hw.trans h1, by rw [hle.lim _ _ hρ]; exact h0, vs, h2.mono hle, h3⟩, (hle.et _ _ hρ).trans h4⟩
theorem OR.mono {g g' : Gh} (hle : g.le g') {w w' : World} {id b o : Nat} {x : SO} (hρ : g.ρ id = some (b, o)) (h : OR g w id b o x) (hw : w'.heap[b]? = w.heap[b]?) : OR g' w' id b o x := by
  cases x with
  | cells e cs => exact Cells.mono hle hρ h hw
  | map es c => obtain ⟨ms, h1, h2⟩ := h; exact ⟨ms, hw.trans h1, h2.mono hle⟩
  | strIter s pos => exact ⟨h.1, hw.trans h.2⟩
  | mapIter mp since seen last =>
    obtain ⟨h0, bm, sa, h1, h2, h3⟩ := h
    refine ⟨h0, bm, sa, hw.trans h1, h2, ?_⟩
    cases mp with
    | none => exact h3
    | some m => obtain ⟨x, y, e1, e2⟩ := h3; exact ⟨x, y, e1, hle.ρ _ _ e2⟩
  | loop nt tm ps as bo st pe dd =>
    obtain ⟨k1, k2, l, h1, h2, h3, h4, h5, h6, h7, o', h8⟩ := h
    exact ⟨k1, k2, l, hw.trans h1, h2, h3, h4, h5, h6, h7.mono hle, o', hle.ρ _ _ h8⟩
  | dfr => exact hw.trans h

/-- The heap. -/
structure HR (g : Gh) (hp : Hf) (w : World) : Prop where
  ob : ∀ id o, hp id = some o → ∃ b c, g.ρ id = some (b, c) ∧ b < w.heap.size ∧ OR g w id b c o
  inj : ∀ i j x y b c d, hp i = some x → hp j = some y → g.ρ i = some (b, c) → g.ρ j = some (b, d) → i = j

/-- Block b is one of the heap's. -/
def Mine (g : Gh) (hp : Hf) (b : Nat) : Prop := ∃ id o c, hp id = some o ∧ g.ρ id = some (b, c)

/-- What a piece of the run leaves alone. -/
structure Fr (g : Gh) (hp : Hf) (w : World) (g' : Gh) (hp' : Hf) (w' : World) : Prop where
  os : w'.os = w.os
  tape : w'.tape = w.tape
  output : w'.output = w.output
  size : w.heap.size ≤ w'.heap.size
  le : g.le g'
  old : ∀ b, b < w.heap.size → ¬ Mine g hp b → w'.heap[b]? = w.heap[b]?
  own : ∀ b, b < w.heap.size → Mine g' hp' b → Mine g hp b

theorem Fr.refl (g : Gh) (hp : Hf) (w : World) : Fr g hp w g hp w := ⟨rfl, rfl, rfl, Nat.le_refl _, .refl _, fun _ _ _ => rfl, fun _ _ h => h⟩
theorem Fr.trans {g g1 g2 : Gh} {h h1 h2 : Hf} {w w1 w2 : World} (a : Fr g h w g1 h1 w1) (b : Fr g1 h1 w1 g2 h2 w2) : Fr g h w g2 h2 w2 :=
  ⟨b.os.trans a.os, b.tape.trans a.tape, b.output.trans a.output, Nat.le_trans a.size b.size, a.le.trans b.le,
    fun k hk hn => (b.old k (Nat.lt_of_lt_of_le hk a.size) (fun hm => hn (a.own k hk hm))).trans (a.old k hk hn),
    fun k hk hm => a.own k hk (b.own k (Nat.lt_of_lt_of_le hk a.size) hm)⟩

end Go.Sim
