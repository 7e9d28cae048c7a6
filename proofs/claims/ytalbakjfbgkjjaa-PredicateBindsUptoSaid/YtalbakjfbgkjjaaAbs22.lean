import Derived.Test.YtalbakjfbgkjjaaAbs21
set_option linter.unusedSimpArgs false
namespace Go.Abs
open Go.RowKit

/-- Plain readings of what may fail. -/
def idx {α : Type} (xs : List α) (i : Int) : Option α := if 0 ≤ i then xs[i.toNat]? else none
def app {α : Type} (xs ys : List α) : Option (List α) := if xs.length + ys.length ≤ 2147483648 then some (xs ++ ys) else none
def cut {α : Type} (xs : List α) (lo hi : Option Int) : Option (List α) :=
  if 0 ≤ lo.getD 0 ∧ 0 ≤ hi.getD 0 ∧ (lo.getD 0).toNat ≤ (hi.map Int.toNat).getD xs.length ∧ (hi.map Int.toNat).getD xs.length ≤ xs.length then
    some ((xs.take ((hi.map Int.toNat).getD xs.length)).drop (lo.getD 0).toNat) else none
def cutS (s : ByteArray) (lo hi : Option Int) : Option ByteArray :=
  if 0 ≤ lo.getD 0 ∧ 0 ≤ hi.getD 0 ∧ (lo.getD 0).toNat ≤ (hi.map Int.toNat).getD s.size ∧ (hi.map Int.toNat).getD s.size ≤ s.size then
    some (s.extract (lo.getD 0).toNat ((hi.map Int.toNat).getD s.size)) else none
def cat (a b : ByteArray) : Option ByteArray := if a.size + b.size ≤ 4294967296 then some (a ++ b) else none
def idxS (s : ByteArray) (i : Int) : Option Int := if 0 ≤ i then (s[i.toNat]?).map fun b => (b.toNat : Int) else none
def quo (k : IntKind) (a b : Int) : Option Int := if b = 0 then none else some (k.wrap (a.tdiv b))
def rem (a b : Int) : Option Int := if b = 0 then none else some (a.tmod b)
abbrev w64 (x : Int) : Int := IntKind.i64.wrap x

/-- A type of elements: its rows. -/
structure RowsOK (P : Program) (t e : TypeId) {α : Type} (enc : α → List AV) (rows : List α → List (List AV)) : Prop where
  app : appT P t = some (e, P.cellsOf e)
  info : (P.info? e).isSome = true
  len : ∀ x, (enc x).length = P.cellsOf e
  map : ∀ xs, rows xs = xs.map enc

section
variable {P : Program} {A : Ann} {t e : TypeId} {α : Type} {enc : α → List AV} {rows : List α → List (List AV)}

theorem RowsOK.und (R : RowsOK P t e enc rows) : P.underlying t = some (.slice e) := by
  obtain ⟨_, _, h, _⟩ := appT_spec R.app
  exact h

theorem RowsOK.lenOb (R : RowsOK P t e enc rows) (xs : List α) : AV.int .i64 ((rows xs).length : Int) = .int .i64 (xs.length : Int) := by rw [R.map, List.length_map]

theorem RowsOK.idxOb (R : RowsOK P t e enc rows) {xs : List α} {i : Int} {x : α} {k : IntKind} {tag : Tag} {d : Nat} (h : idx xs i = some x) :
    indexAddrA P A (some d) t (.slice tag (rows xs)) (.int k i) = some ⟨[(d, .imm (enc x))], []⟩ := by
  unfold idx at h
  split at h
  · rename_i h0
    simp [indexAddrA, h0, R.und, R.map, h, R.len, R.info, putA, AV.share]
  · simp at h

theorem RowsOK.rows_len (R : RowsOK P t e enc rows) (xs : List α) : ∀ r ∈ rows xs, r.length = P.cellsOf e := by
  rw [R.map]
  intro r hr
  obtain ⟨x, _, rfl⟩ := List.mem_map.1 hr
  exact R.len x

theorem RowsOK.appOb (R : RowsOK P t e enc rows) {xs ys zs : List α} {d s : Nat} {tag : Tag} (hd : s ≠ d) (h : Abs.app xs ys = some zs) :
    appendA P d t (.tmp s) (.slice (.own e) (rows xs)) (.slice tag (rows ys)) = some ⟨[(d, .slice (.own e) (rows zs)), (s, .slice .sh (rows xs))], []⟩ := by
  unfold Abs.app at h
  split at h
  · rename_i hl
    simp at h; subst h
    have h1 := R.rows_len ys
    have h2 : (rows xs).length + (rows ys).length ≤ 2147483648 := by rw [R.map, R.map]; simpa using hl
    simp only [appendA, R.app]
    rw [if_pos h1]
    rw [if_pos ⟨trivial, hd, h2⟩, R.map (xs ++ ys), List.map_append, ← R.map, ← R.map]
  · simp at h

theorem RowsOK.appNil (R : RowsOK P t e enc rows) {ys zs : List α} {d : Nat} {s : Operand} {tag : Tag} (h : Abs.app [] ys = some zs) :
    appendA P d t s (.slice .nil []) (.slice tag (rows ys)) = some ⟨[(d, .slice (.own e) (rows zs))], []⟩ := by
  unfold Abs.app at h
  split at h
  · rename_i hl
    simp at h; subst h
    have h1 := R.rows_len ys
    have h2 : (rows ys).length ≤ 2147483648 := by rw [R.map]; simpa using hl
    simp only [appendA, R.app]
    rw [if_pos h1, if_pos h2]
  · simp at h

/-- A slice of parts. -/
theorem RowsOK.build1 (R : RowsOK P t e enc rows) (xs : List α) : AV.slice (.own e) (xs.map enc) = .slice (.own e) (rows xs) := by rw [R.map]

/-- The bounds of a slice. -/
def boundV : Option AV → Option (Option Nat)
  | none => some none
  | some (.int _ i) => if 0 ≤ i then some (some i.toNat) else none
  | some _ => none
def sliceV (P : Program) (A : Ann) (d : Option Nat) (t : TypeId) (x : AV) (lo hi : Option AV) : Option Ups :=
  match boundV lo, boundV hi with
  | some l, some h => (sliceA P t x l h).bind (putA A d)
  | _, _ => none
theorem boundV_ok {lo : Option Int} (k : IntKind) (h : 0 ≤ lo.getD 0) : boundV (lo.map (AV.int k)) = some (lo.map Int.toNat) := by
  cases lo with
  | none => rfl
  | some i => simp at h; simp [boundV, h]

theorem RowsOK.cutOb (R : RowsOK P t e enc rows) {xs zs : List α} {lo hi : Option Int} {tag : Tag} {d : Nat} (h : cut xs lo hi = some zs) :
    sliceV P A (some d) t (.slice tag (rows xs)) (lo.map (AV.int .i64)) (hi.map (AV.int .i64)) = some ⟨[(d, .slice (if tag = .nil then .nil else .sh) (rows zs))], []⟩ := by
  unfold cut at h
  split at h
  · rename_i hc
    obtain ⟨c1, c2, c3, c4⟩ := hc
    rw [sliceV, boundV_ok _ c1, boundV_ok _ c2]
    simp only
    simp at h; subst h
    have e1 : (lo.map Int.toNat).getD 0 = (lo.getD 0).toNat := by cases lo <;> rfl
    have hlen : (rows xs).length = xs.length := by rw [R.map]; simp
    have h1 := R.rows_len xs
    simp only [sliceA, R.und, e1, hlen]
    rw [if_pos ⟨c3, c4, h1, R.info⟩]
    simp only [Option.bind_some, putA, R.map, List.map_drop, List.map_take]
    by_cases ht : tag = .nil
    · simp [ht, AV.share]
    · simp [ht, AV.share]
  · simp at h

theorem cutS_ob {t : TypeId} (hu : P.underlying t = some .string) {s z : ByteArray} {lo hi : Option Int} {d : Nat} (h : cutS s lo hi = some z) :
    sliceV P A (some d) t (.str s) (lo.map (AV.int .i64)) (hi.map (AV.int .i64)) = some ⟨[(d, .str z)], []⟩ := by
  unfold cutS at h
  split at h
  · rename_i hc
    obtain ⟨c1, c2, c3, c4⟩ := hc
    rw [sliceV, boundV_ok _ c1, boundV_ok _ c2]
    simp only
    simp at h; subst h
    have e1 : (lo.map Int.toNat).getD 0 = (lo.getD 0).toNat := by cases lo <;> rfl
    simp only [sliceA, hu, e1]
    rw [if_pos ⟨c3, c4⟩]
    rfl
  · simp at h
end

theorem cat_ob {P : Program} {A : Ann} {t : TypeId} {a b c : ByteArray} {d : Nat} (h : cat a b = some c) : (binA P .add t (.str a) (.str b)).bind (putA A (some d)) = some ⟨[(d, .str c)], []⟩ := by
  unfold cat at h
  split at h
  · rename_i hc
    simp at h; subst h
    simp [binA, hc, putA, AV.share]
  · simp at h
theorem quo_ob {P : Program} {A : Ann} {t : TypeId} {k : IntKind} {a b c : Int} {d : Nat} (h : quo k a b = some c) : (binA P .quo t (.int k a) (.int k b)).bind (putA A (some d)) = some ⟨[(d, .int k c)], []⟩ := by
  unfold quo at h
  split at h
  · simp at h
  · rename_i hb
    simp at h; subst h
    simp [binA, hb, putA, AV.share]
theorem rem_ob {P : Program} {A : Ann} {t : TypeId} {k : IntKind} {a b c : Int} {d : Nat} (h : rem a b = some c) : (binA P .rem t (.int k a) (.int k b)).bind (putA A (some d)) = some ⟨[(d, .int k c)], []⟩ := by
  unfold rem at h
  split at h
  · simp at h
  · rename_i hb
    simp at h; subst h
    simp [binA, hb, putA, AV.share]
theorem idxS_ob {P : Program} {A : Ann} {t : TypeId} (hu : P.underlying t = some .string) {k : IntKind} {s : ByteArray} {i c : Int} {d : Nat} (h : idxS s i = some c) :
    (indexA P t (.str s) (.int k i)).bind (putA A (some d)) = some ⟨[(d, .int .u8 c)], []⟩ := by
  unfold idxS at h
  split at h
  · rename_i h0
    simp only [Option.map_eq_some_iff] at h
    obtain ⟨b, hb, rfl⟩ := h
    simp [indexA, h0, hu, hb, putA, AV.share]
  · simp at h

/-- A value of a function type: 0 is nil. -/
def fnAV : Nat → AV
  | 0 => .nilFunc
  | n + 1 => .fn (.func (n + 1))

theorem callOK_bool {P : Program} {ann : FuncId → Ann} {f : FuncId} {args : List AV} {b c : Bool} {outs : List (Nat × List AV)} (h : CallOK P ann f args (.bool b) outs) (hb : b = c) : CallOK P ann f args (.bool c) outs := hb ▸ h
theorem callOK_fn {P : Program} {ann : FuncId → Ann} {f : FuncId} {args : List AV} {b c : Nat} {outs : List (Nat × List AV)} (h : CallOK P ann f args (.fn (.func b)) outs) (hb : (b == c) = true) : CallOK P ann f args (.fn (.func c)) outs := by
  have : b = c := by simpa using hb
  exact this ▸ h
theorem int_eq {k : IntKind} {a b : Int} (h : (a == b) = true) : AV.int k a = .int k b := by
  have : a = b := by simpa using h
  rw [this]

end Go.Abs
