import Derived.WalkKit
namespace Go.Abs
open Go.RowKit

/-- Immutable memory: block, offset. -/
abbrev Mem := Nat → Nat → Option Value

def Mem.le (a b : Mem) : Prop := ∀ k o v, a k o = some v → b k o = some v
theorem Mem.le.refl (a : Mem) : Mem.le a a := fun _ _ _ h => h
theorem Mem.le.trans {a b c : Mem} (h : Mem.le a b) (k : Mem.le b c) : Mem.le a c := fun x y v q => k x y v (h x y v q)

inductive Tag where
  | sh | nil | own (e : TypeId)
  deriving DecidableEq, Inhabited

/-- Abstract values: trees. -/
inductive AV where
  | bool (b : Bool)
  | int (k : IntKind) (n : Int)
  | str (s : ByteArray)
  | slice (tag : Tag) (rows : List (List AV))
  | agg (cs : List AV)
  | tuple (vs : List AV)
  | loc (k off : Nat)
  | ms (k : Nat) (e : TypeId) (lo n : Nat)
  | ex (e : TypeId) (rows : List (List AV))
  | fs (rows : List (List AV))
  | imm (cs : List AV)
  | ptr (cs : List AV)
  | msp (e : TypeId) (lo n : Nat) (cs : List AV)
  | fn (f : Fn)
  | nilFunc
  | undef
  deriving Inhabited

mutual
inductive DR (μ : Mem) : Value → AV → Prop
  | bool (b) : DR μ (.bool b) (.bool b)
  | int (k n) : DR μ (.int k n) (.int k n)
  | str (s) : DR μ (.string s) (.str s)
  | sliceE {a cap tag} (h : tag = .nil → a = none ∧ cap = 0) : DR μ (.slice a 0 cap) (.slice tag [])
  | slice {b off cap tag r rs n} (ht : tag ≠ .nil) (hu : ∀ x ∈ rs, x.length = r.length) (hn : n = rs.length + 1) (hcap : n ≤ cap) (h : CellsAt μ b off (r :: rs).flatten) :
      DR μ (.slice (some ⟨b, off, none⟩) n cap) (.slice tag (r :: rs))
  | agg {vs : Array Value} {cs} (h : CellsR μ vs.toList cs) : DR μ (.agg vs) (.agg cs)
  | tuple {vs : Array Value} {cs} (h : ValsR μ vs.toList cs) : DR μ (.tuple vs) (.tuple cs)
  | imm {b off cs} (h : CellsAt μ b off cs) : DR μ (.pointer (some ⟨b, off, none⟩)) (.imm cs)
  | fn (f) : DR μ (.func f #[] #[]) (.fn f)
  | nilFunc : DR μ .nilFunc .nilFunc
  | undef (v) : DR μ v .undef
inductive CellsR (μ : Mem) : List Value → List AV → Prop
  | nil : CellsR μ [] []
  | cons {v x vs xs} (h1 : v.oneCell' = true) (h : DR μ v x) (ht : CellsR μ vs xs) : CellsR μ (v :: vs) (x :: xs)
inductive ValsR (μ : Mem) : List Value → List AV → Prop
  | nil : ValsR μ [] []
  | cons {v x vs xs} (h : DR μ v x) (ht : ValsR μ vs xs) : ValsR μ (v :: vs) (x :: xs)
inductive CellsAt (μ : Mem) : Nat → Nat → List AV → Prop
  | nil {b off} : CellsAt μ b off []
  | cons {b off v x xs} (hm : μ b off = some v) (h1 : v.oneCell' = true) (h : DR μ v x) (ht : CellsAt μ b (off + 1) xs) : CellsAt μ b off (x :: xs)
end

mutual
theorem DR.mono {μ μ' : Mem} (hle : Mem.le μ μ') : ∀ {v x}, DR μ v x → DR μ' v x
  | _, _, .bool b => .bool b
  | _, _, .int k n => .int k n
  | _, _, .str s => .str s
  | _, _, .sliceE h => .sliceE h
  | _, _, .slice ht hu hn hcap h => .slice ht hu hn hcap (h.mono hle)
  | _, _, .agg h => .agg (h.mono hle)
  | _, _, .tuple h => .tuple (h.mono hle)
  | _, _, .imm h => .imm (h.mono hle)
  | _, _, .fn f => .fn f
  | _, _, .nilFunc => .nilFunc
  | _, _, .undef v => .undef v
theorem CellsR.mono {μ μ' : Mem} (hle : Mem.le μ μ') : ∀ {v x}, CellsR μ v x → CellsR μ' v x
  | _, _, .nil => .nil
  | _, _, .cons h1 h ht => .cons h1 (h.mono hle) (ht.mono hle)
theorem ValsR.mono {μ μ' : Mem} (hle : Mem.le μ μ') : ∀ {v x}, ValsR μ v x → ValsR μ' v x
  | _, _, .nil => .nil
  | _, _, .cons h ht => .cons (h.mono hle) (ht.mono hle)
theorem CellsAt.mono {μ μ' : Mem} (hle : Mem.le μ μ') : ∀ {b off x}, CellsAt μ b off x → CellsAt μ' b off x
  | _, _, _, .nil => .nil
  | _, _, _, .cons hm h1 h ht => .cons (hle _ _ _ hm) h1 (h.mono hle) (ht.mono hle)
end

theorem CellsAt.get {μ : Mem} {b : Nat} : ∀ {off : Nat} {cs : List AV}, CellsAt μ b off cs → ∀ {j : Nat} {x : AV}, cs[j]? = some x →
    ∃ v, μ b (off + j) = some v ∧ v.oneCell' = true ∧ DR μ v x
  | _, _, .nil, _, _, h => by simp at h
  | off, _, .cons hm h1 hd ht, j, x, h => by
    cases j with
    | zero => simp at h; subst h; exact ⟨_, hm, h1, hd⟩
    | succ j =>
      simp at h
      obtain ⟨v, a, b, c⟩ := ht.get h
      exact ⟨v, by rw [← a]; congr 1; omega, b, c⟩

theorem CellsAt.mk {μ : Mem} {b : Nat} : ∀ {cs : List AV} {off : Nat}, (∀ (j : Nat) (x : AV), cs[j]? = some x →
    ∃ v, μ b (off + j) = some v ∧ v.oneCell' = true ∧ DR μ v x) → CellsAt μ b off cs
  | [], _, _ => .nil
  | x :: xs, off, h => by
    obtain ⟨v, a, b, c⟩ := h 0 x rfl
    refine .cons a b c (CellsAt.mk fun j y hy => ?_)
    obtain ⟨v, a, b, c⟩ := h (j + 1) y (by simpa using hy)
    exact ⟨v, by rw [← a]; congr 1; omega, b, c⟩

theorem CellsAt.drop {μ : Mem} {b off : Nat} {cs : List AV} (h : CellsAt μ b off cs) (n : Nat) : CellsAt μ b (off + n) (cs.drop n) :=
  CellsAt.mk fun j x hx => by
    rw [List.getElem?_drop] at hx
    obtain ⟨v, a, b, c⟩ := h.get hx
    exact ⟨v, by rw [← a]; congr 1; omega, b, c⟩

theorem CellsAt.take {μ : Mem} {b off : Nat} {cs : List AV} (h : CellsAt μ b off cs) (n : Nat) : CellsAt μ b off (cs.take n) :=
  CellsAt.mk fun j x hx => by
    rw [List.getElem?_take] at hx
    split at hx
    · exact h.get hx
    · simp at hx

theorem CellsAt.append {μ : Mem} {b off : Nat} {cs ds : List AV} (h : CellsAt μ b off cs) (k : CellsAt μ b (off + cs.length) ds) : CellsAt μ b off (cs ++ ds) :=
  CellsAt.mk fun j x hx => by
    rw [List.getElem?_append] at hx
    split at hx
    · exact h.get hx
    · obtain ⟨v, a, b, c⟩ := k.get hx
      exact ⟨v, by rw [← a]; congr 1; omega, b, c⟩

/-- The cells as a list of values. -/
theorem CellsAt.vals {μ : Mem} {b : Nat} : ∀ {off : Nat} {cs : List AV}, CellsAt μ b off cs →
    ∃ vs : List Value, CellsR μ vs cs ∧ ∀ j v, vs[j]? = some v → μ b (off + j) = some v
  | _, _, .nil => ⟨[], .nil, by simp⟩
  | off, _, .cons (v := v) hm h1 hd ht => by
    obtain ⟨vs, a, b⟩ := ht.vals
    refine ⟨v :: vs, .cons h1 hd a, fun j u hu => ?_⟩
    cases j with
    | zero => simp at hu; subst hu; exact hm
    | succ j => simp at hu; have := b j u hu; rw [← this]; congr 1; omega

theorem CellsR.length {μ : Mem} : ∀ {vs : List Value} {cs : List AV}, CellsR μ vs cs → vs.length = cs.length
  | _, _, .nil => rfl
  | _, _, .cons _ _ ht => by simp [ht.length]

theorem CellsR.get {μ : Mem} : ∀ {vs : List Value} {cs : List AV}, CellsR μ vs cs → ∀ {j : Nat} {x : AV}, cs[j]? = some x →
    ∃ v, vs[j]? = some v ∧ v.oneCell' = true ∧ DR μ v x
  | _, _, .nil, _, _, h => by simp at h
  | _, _, .cons h1 hd ht, j, x, h => by
    cases j with
    | zero => simp at h; subst h; exact ⟨_, rfl, h1, hd⟩
    | succ j => simp at h; obtain ⟨v, a, b, c⟩ := ht.get h; exact ⟨v, by simpa using a, b, c⟩

theorem CellsR.mk {μ : Mem} : ∀ {vs : List Value} {cs : List AV}, vs.length = cs.length → (∀ (j : Nat) (v : Value) (x : AV), vs[j]? = some v → cs[j]? = some x →
    v.oneCell' = true ∧ DR μ v x) → CellsR μ vs cs
  | [], [], _, _ => .nil
  | v :: vs, x :: xs, hl, h => by
    obtain ⟨a, b⟩ := h 0 v x rfl rfl
    exact .cons a b (CellsR.mk (by simpa using hl) fun j v x hv hx => h (j + 1) v x (by simpa using hv) (by simpa using hx))
  | [], _ :: _, hl, _ => by simp at hl
  | _ :: _, [], hl, _ => by simp at hl

theorem CellsR.append {μ : Mem} : ∀ {vs us : List Value} {cs ds : List AV}, CellsR μ vs cs → CellsR μ us ds → CellsR μ (vs ++ us) (cs ++ ds)
  | _, _, _, _, .nil, k => k
  | _, _, _, _, .cons h1 hd ht, k => .cons h1 hd (ht.append k)

theorem CellsR.drop {μ : Mem} : ∀ {vs : List Value} {cs : List AV} (n : Nat), CellsR μ vs cs → CellsR μ (vs.drop n) (cs.drop n)
  | _, _, 0, h => h
  | _, _, n + 1, .nil => by simpa using .nil
  | _, _, n + 1, .cons _ _ ht => by simpa using ht.drop n

theorem CellsR.take {μ : Mem} : ∀ {vs : List Value} {cs : List AV} (n : Nat), CellsR μ vs cs → CellsR μ (vs.take n) (cs.take n)
  | _, _, 0, _ => by simpa using .nil
  | _, _, n + 1, .nil => by simpa using .nil
  | _, _, n + 1, .cons h1 hd ht => by simpa using .cons h1 hd (ht.take n)

theorem ValsR.length {μ : Mem} : ∀ {vs : List Value} {cs : List AV}, ValsR μ vs cs → vs.length = cs.length
  | _, _, .nil => rfl
  | _, _, .cons _ ht => by simp [ht.length]

theorem ValsR.get {μ : Mem} : ∀ {vs : List Value} {cs : List AV}, ValsR μ vs cs → ∀ {j : Nat} {x : AV}, cs[j]? = some x →
    ∃ v, vs[j]? = some v ∧ DR μ v x
  | _, _, .nil, _, _, h => by simp at h
  | _, _, .cons hd ht, j, x, h => by
    cases j with
    | zero => simp at h; subst h; exact ⟨_, rfl, hd⟩
    | succ j => simp at h; obtain ⟨v, a, c⟩ := ht.get h; exact ⟨v, by simpa using a, c⟩

/-- The box that a value leads into. -/
def AV.key : AV → Option Nat
  | .loc k _ => some k
  | .ms k _ _ _ => some k
  | _ => none

attribute [simp] AV.key

/-- A value that owns its block. -/
def AV.owns : AV → Bool
  | .slice (.own _) _ => true
  | .ex _ _ => true
  | _ => false
attribute [simp] AV.owns

def AV.share : AV → AV
  | .slice (.own _) rows => .slice .sh rows
  | x => x
def AV.norm1 : AV → AV
  | .slice _ rows => .slice .sh rows
  | x => x
def AV.norm : AV → AV
  | .slice _ rows => .slice .sh rows
  | .agg cs => .agg (cs.map AV.norm1)
  | .tuple cs => .tuple (cs.map AV.norm1)
  | x => x

theorem DR.share {μ : Mem} {v : Value} {x : AV} (h : DR μ v x) : DR μ v x.share := by
  cases h with
  | @sliceE a cap tag h => cases tag <;> first | exact .sliceE h | exact .sliceE (by simp)
  | @slice b off cap tag r rs n ht hu hn hcap h => cases tag <;> first | exact absurd rfl ht | exact .slice (by simp) hu hn hcap h
  | _ => constructor <;> assumption
theorem DR.norm1 {μ : Mem} {v : Value} {x : AV} (h : DR μ v x) : DR μ v x.norm1 := by
  cases h with
  | sliceE h => exact .sliceE (by simp)
  | slice ht hu hn hcap h => exact .slice (by simp) hu hn hcap h
  | _ => constructor <;> assumption
theorem CellsR.norm1 {μ : Mem} : ∀ {vs : List Value} {cs : List AV}, CellsR μ vs cs → CellsR μ vs (cs.map AV.norm1)
  | _, _, .nil => .nil
  | _, _, .cons h1 hd ht => .cons h1 hd.norm1 ht.norm1
theorem ValsR.norm1 {μ : Mem} : ∀ {vs : List Value} {cs : List AV}, ValsR μ vs cs → ValsR μ vs (cs.map AV.norm1)
  | _, _, .nil => .nil
  | _, _, .cons hd ht => .cons hd.norm1 ht.norm1
theorem CellsR.share {μ : Mem} : ∀ {vs : List Value} {cs : List AV}, CellsR μ vs cs → CellsR μ vs (cs.map AV.share)
  | _, _, .nil => .nil
  | _, _, .cons h1 hd ht => .cons h1 hd.share ht.share
theorem DR.norm {μ : Mem} {v : Value} {x : AV} (h : DR μ v x) : DR μ v x.norm := by
  cases h with
  | sliceE h => exact .sliceE (by simp)
  | slice ht hu hn hcap h => exact .slice (by simp) hu hn hcap h
  | agg h => exact .agg h.norm1
  | tuple h => exact .tuple h.norm1
  | _ => constructor <;> assumption

end Go.Abs
