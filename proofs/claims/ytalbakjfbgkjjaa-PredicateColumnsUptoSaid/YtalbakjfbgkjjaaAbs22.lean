import Derived.Test.YtalbakjfbgkjjaaAbs21
set_option linter.unusedSimpArgs false
namespace Go.Abs
open Go.RowKit

/-- Plain readings of what may fail. -/
def idx {α : Type} (xs : List α) (i : Int) : Option α := if 0 ≤ i then xs[i.toNat]? else none
def app {α : Type} (xs ys : List α) : Option (List α) := if xs.length + ys.length ≤ 2147483648 then some (xs ++ ys) else none
def cut {α : Type} (xs : List α) (lo hi : Option Int) : Option (List α) :=
  if 0 ≤ lo.getD 0 ∧ 0 ≤ hi.getD 0 ∧ (lo.getD 0).toNat ≤ (hi.map Int.toNat).getD xs.length ∧ (hi.map Int.toNat).getD xs.length ≤ xs.length then
    some ((xs.take ((hi.map Int.toNat).getD xs.length)).drop (lo.getD 0).toNat) else none
def cutS (s : ByteArray) (lo hi : Option Int) : Option ByteArray :=
  if 0 ≤ lo.getD 0 ∧ 0 ≤ hi.getD 0 ∧ (lo.getD 0).toNat ≤ (hi.map Int.toNat).getD s.size ∧ (hi.map Int.toNat).getD s.size ≤ s.size then
    some (s.extract (lo.getD 0).toNat ((hi.map Int.toNat).getD s.size)) else none
def cat (a b : ByteArray) : Option ByteArray := if a.size + b.size ≤ 4294967296 then some (a ++ b) else none
def idxS (s : ByteArray) (i : Int) : Option Int := if 0 ≤ i then (s[i.toNat]?).map fun b => (b.toNat : Int) else none
def quo (k : IntKind) (a b : Int) : Option Int := if b = 0 then none else some (k.wrap (a.tdiv b))
def rem (a b : Int) : Option Int := if b = 0 then none else some (a.tmod b)
abbrev w64 (x : Int) : Int := IntKind.i64.wrap x

/-- A type of elements: its rows. -/
structure RowsOK (P : Program) (t e : TypeId) {α : Type} (enc : α → List AV) (rows : List α → List (List AV)) : Prop where
  app : appT P t = some (e, P.cellsOf e)
  info : (P.info? e).isSome = true
  len : ∀ x, (enc x).length = P.cellsOf e
  map : ∀ xs, rows xs = xs.map enc
  shr : ∀ x, (enc x).map AV.share = enc x

section
variable {P : Program} {A : Ann} {t e : TypeId} {α : Type} {enc : α → List AV} {rows : List α → List (List AV)}

theorem RowsOK.und (R : RowsOK P t e enc rows) : P.underlying t = some (.slice e) := by
  obtain ⟨_, _, h, _⟩ := appT_spec R.app
  exact h

theorem RowsOK.lenOb (R : RowsOK P t e enc rows) (xs : List α) : AV.int .i64 ((rows xs).length : Int) = .int .i64 (xs.length : Int) := by rw [R.map, List.length_map]

theorem RowsOK.rlen (R : RowsOK P t e enc rows) (xs : List α) : (rows xs).length = xs.length := by rw [R.map, List.length_map]

theorem RowsOK.idxOb (R : RowsOK P t e enc rows) {xs : List α} {i : Int} {x : α} {k : IntKind} {tag : Tag} {d : Nat} (h : idx xs i = some x) :
    indexAddrA P A (some d) t (.slice tag (rows xs)) (.int k i) = some ⟨[(d, .imm (enc x))], []⟩ := by
  unfold idx at h
  split at h
  · rename_i h0
    simp [indexAddrA, h0, R.und, R.map, h, R.len, R.info, putA, AV.share]
  · simp at h

theorem RowsOK.rows_len (R : RowsOK P t e enc rows) (xs : List α) : ∀ r ∈ rows xs, r.length = P.cellsOf e := by
  rw [R.map]
  intro r hr
  obtain ⟨x, _, rfl⟩ := List.mem_map.1 hr
  exact R.len x

theorem RowsOK.appOb (R : RowsOK P t e enc rows) {xs ys zs : List α} {d s : Nat} {tag : Tag} {B : Nat → Option (List AV)} (hd : s ≠ d) (h : Abs.app xs ys = some zs) :
    appendA P A d t (.tmp s) (.slice (.own e) (rows xs)) (.slice tag (rows ys)) B = some ⟨[(d, .slice (.own e) (rows zs)), (s, .slice .sh (rows xs))], []⟩ := by
  unfold Abs.app at h
  split at h
  · rename_i hl
    simp at h; subst h
    have h1 := R.rows_len ys
    have h2 : (rows xs).length + (rows ys).length ≤ 2147483648 := by rw [R.map, R.map]; simpa using hl
    simp only [appendA, R.app]
    rw [if_pos h1]
    rw [if_pos ⟨trivial, hd, h2⟩, R.map (xs ++ ys), List.map_append, ← R.map, ← R.map]
  · simp at h

theorem RowsOK.appEx (R : RowsOK P t e enc rows) {xs ys zs : List α} {d s : Nat} {tag : Tag} {B : Nat → Option (List AV)} (hd : s ≠ d) (h : Abs.app xs ys = some zs) :
    appendA P A d t (.tmp s) (.ex e (rows xs)) (.slice tag (rows ys)) B = some ⟨[(d, .ex e (rows zs)), (s, .undef)], []⟩ := by
  unfold Abs.app at h
  split at h
  · rename_i hl
    simp at h; subst h
    have h1 := R.rows_len ys
    have h2 : (rows xs).length + (rows ys).length ≤ 2147483648 := by rw [R.map, R.map]; simpa using hl
    simp only [appendA, R.app]
    rw [if_pos h1]
    rw [if_pos ⟨trivial, hd, h2⟩, R.map (xs ++ ys), List.map_append, ← R.map, ← R.map]
  · simp at h

/-- What an append to nothing gives, by the notes on its slot. -/
def freshU (A : Ann) (d : Nat) (e : TypeId) (rows : List (List AV)) (B : Nat → Option (List AV)) : Option Ups :=
  if A.muts.contains d then unpackU A d e rows B else if A.exs.contains d then some ⟨[(d, .ex e rows)], []⟩ else some ⟨[(d, .slice (.own e) rows)], []⟩

theorem RowsOK.appNilU (R : RowsOK P t e enc rows) {ys zs : List α} {d : Nat} {s : Operand} {tag : Tag} {B : Nat → Option (List AV)} (h : Abs.app [] ys = some zs) :
    appendA P A d t s (.slice .nil []) (.slice tag (rows ys)) B = freshU A d e (rows zs) B := by
  unfold Abs.app at h
  split at h
  · rename_i hl
    simp at h; subst h
    have h1 := R.rows_len ys
    have h2 : (rows ys).length ≤ 2147483648 := by rw [R.map]; simpa using hl
    simp only [appendA, R.app]
    rw [if_pos h1, if_pos h2, freshU]
  · simp at h

theorem RowsOK.appFsU (R : RowsOK P t e enc rows) {xs zs : List α} {y : α} {ys : List α} {d : Nat} {s : Operand} {tag : Tag} {B : Nat → Option (List AV)} (h : Abs.app xs (y :: ys) = some zs) :
    appendA P A d t s (.fs (rows xs)) (.slice tag (rows (y :: ys))) B = freshU A d e (rows zs) B := by
  unfold Abs.app at h
  split at h
  · rename_i hl
    simp at h; subst h
    have h1 := R.rows_len (y :: ys)
    have h3 := R.rows_len xs
    have h2 : (rows xs).length + (rows (y :: ys)).length ≤ 2147483648 := by rw [R.map, R.map]; simpa using hl
    have e1 : rows (y :: ys) = enc y :: rows ys := by rw [R.map, R.map, List.map_cons]
    have e2 : rows (xs ++ y :: ys) = rows xs ++ enc y :: rows ys := by rw [R.map, R.map, R.map]; simp
    rw [e1] at h1 h2 ⊢
    rw [e2]
    simp only [appendA, R.app]
    rw [if_pos h1, if_pos ⟨h3, by simpa using h2⟩, freshU]
  · simp at h

theorem freshU_own {A : Ann} {d : Nat} {e : TypeId} {rows : List (List AV)} {B : Nat → Option (List AV)} (h1 : A.muts.contains d = false) (h2 : A.exs.contains d = false) : freshU A d e rows B = some ⟨[(d, .slice (.own e) rows)], []⟩ := by
  simp only [freshU, h1, h2]; rfl
theorem freshU_ex {A : Ann} {d : Nat} {e : TypeId} {rows : List (List AV)} {B : Nat → Option (List AV)} (h1 : A.muts.contains d = false) (h2 : A.exs.contains d = true) : freshU A d e rows B = some ⟨[(d, .ex e rows)], []⟩ := by
  simp only [freshU, h1, h2]; rfl
theorem freshU_ms {A : Ann} {d : Nat} {e : TypeId} {rows : List (List AV)} {B : Nat → Option (List AV)} {u : Ups} (h1 : A.muts.contains d = true) (h2 : unpackU A d e rows B = some u) : freshU A d e rows B = some u := by
  simp only [freshU, h1]; exact h2
/-- A fresh slice over a box that no cell of a box leads to. -/
theorem RowsOK.unpack0 (R : RowsOK P t e enc rows) {zs : List α} {A : Ann} {d K : Nat} {B : Nat → Option (List AV)} {l : List (Nat × AV)} (hr : A.root d = K) (h1 : A.np ≤ K ∧ A.n ≤ K) (h2 : A.holders K = []) (hl : (A.derived K).map (fun u => (u, AV.undef)) = l) :
    unpackU A d e (rows zs) B = some ⟨(d, .ms K e 0 zs.length) :: l, [(K, flatS (rows zs))]⟩ := by
  subst hr
  subst hl
  have hl : (rows zs).length = zs.length := by rw [R.map]; simp
  rw [unpackU, if_pos h1, h2, hl]
theorem RowsOK.unpack1 (R : RowsOK P t e enc rows) {zs : List α} {A : Ann} {d K k : Nat} {cs : List AV} {B : Nat → Option (List AV)} (hr : A.root d = K) (h1 : A.np ≤ K ∧ A.n ≤ K) {l : List (Nat × AV)} (h2 : A.holders K = [k]) (hb : B k = some cs) (hl : (A.derived K).map (fun u => (u, AV.undef)) = l) :
    unpackU A d e (rows zs) B = some ⟨(d, .ms K e 0 zs.length) :: l, [(K, flatS (rows zs)), (k, cleanK K cs)]⟩ := by
  subst hr
  subst hl
  have hl : (rows zs).length = zs.length := by rw [R.map]; simp
  rw [unpackU, if_pos h1, h2]
  simp only [hb, hl]

theorem RowsOK.appNil (R : RowsOK P t e enc rows) {ys zs : List α} {d : Nat} {s : Operand} {tag : Tag} {B : Nat → Option (List AV)} (h1 : A.muts.contains d = false) (h2 : A.exs.contains d = false) (h : Abs.app [] ys = some zs) :
    appendA P A d t s (.slice .nil []) (.slice tag (rows ys)) B = some ⟨[(d, .slice (.own e) (rows zs))], []⟩ := by
  rw [R.appNilU h, freshU_own h1 h2]

/-- A number in range. -/
def bnd (n : Nat) (i : Int) : Option Nat := if 0 ≤ i ∧ i.toNat < n then some i.toNat else none
def setAt {α : Type} (xs : List α) (i : Nat) (x : α) : Option (List α) := if i < xs.length then some (xs.set i x) else none
theorem setAt_len {α : Type} {xs ys : List α} {i : Nat} {x : α} (h : setAt xs i x = some ys) : ys.length = xs.length := by
  unfold setAt at h
  split at h
  · simp at h; subst h; simp
  · simp at h

theorem RowsOK.idxMs (R : RowsOK P t e enc rows) {n x s : Nat} {i : Int} {k : IntKind} {K d : Nat} (hr : A.root d = K) (hs : P.cellsOf e = s) (h : bnd n i = some x) :
    indexAddrA P A (some d) t (.ms K e 0 n) (.int k i) = some ⟨[(d, .loc K (x * s))], []⟩ := by
  unfold bnd at h
  split at h
  · rename_i hc
    obtain ⟨h0, h1⟩ := hc
    simp at h; subst h
    simp [indexAddrA, h0, R.und, h1, R.info, putA, hr, hs]
  · simp at h

theorem flat_drop {s : Nat} {enc : α → List AV} (hl : ∀ x, (enc x).length = s) : ∀ (xs : List α) (x : Nat), (xs.map enc).flatten.drop (x * s) = ((xs.drop x).map enc).flatten
  | xs, 0 => by simp
  | [], x + 1 => by simp
  | y :: xs, x + 1 => by
    rw [List.map_cons, List.flatten_cons, List.drop_succ_cons, ← flat_drop hl xs x]
    have : (x + 1) * s = (enc y).length + x * s := by rw [hl]; simp [Nat.add_mul, Nat.add_comm]
    rw [this, List.drop_length_add_append]
theorem flat_take {s : Nat} {enc : α → List AV} (hl : ∀ x, (enc x).length = s) : ∀ (xs : List α) (x : Nat), (xs.map enc).flatten.take (x * s) = ((xs.take x).map enc).flatten
  | xs, 0 => by simp
  | [], x + 1 => by simp
  | y :: xs, x + 1 => by
    rw [List.map_cons, List.flatten_cons, List.take_succ_cons, List.map_cons, List.flatten_cons, ← flat_take hl xs x]
    have : (x + 1) * s = (enc y).length + x * s := by rw [hl]; simp [Nat.add_mul, Nat.add_comm]
    rw [this, List.take_length_add_append]
theorem flat_len {s : Nat} {enc : α → List AV} (hl : ∀ x, (enc x).length = s) (xs : List α) : (xs.map enc).flatten.length = xs.length * s := by
  induction xs with
  | nil => simp
  | cons y xs ih => simp [ih, hl, Nat.add_mul, Nat.add_comm]

theorem RowsOK.flatS (R : RowsOK P t e enc rows) (xs : List α) : Abs.flatS (rows xs) = (xs.map enc).flatten := by
  rw [Abs.flatS, R.map, List.map_flatten, List.map_map]
  congr 1
  exact List.map_congr_left fun x _ => R.shr x

theorem RowsOK.flat_len (R : RowsOK P t e enc rows) (xs : List α) : (Abs.flatS (rows xs)).length = xs.length * P.cellsOf e := by rw [R.flatS]; exact Abs.flat_len R.len xs

/-- The cells of an element. -/
theorem RowsOK.flat_at (R : RowsOK P t e enc rows) {xs : List α} {x f : Nat} {y : α} (h : xs[x]? = some y) (hf : f ≤ P.cellsOf e) : ∃ zs : List α, (Abs.flatS (rows xs)).drop (x * P.cellsOf e + f) = (enc y).drop f ++ (zs.map enc).flatten := by
  have hx : x < xs.length := by
    by_cases hx : x < xs.length
    · exact hx
    · rw [List.getElem?_eq_none (by omega)] at h; simp at h
  have hd : xs.drop x = y :: xs.drop (x + 1) := by
    rw [List.drop_eq_getElem_cons hx]
    rw [List.getElem?_eq_getElem hx] at h
    simp at h; rw [h]
  refine ⟨xs.drop (x + 1), ?_⟩
  rw [R.flatS, ← List.drop_drop, flat_drop R.len, hd, List.map_cons, List.flatten_cons, List.drop_append_of_le_length (by rw [R.len]; exact hf)]

theorem getElem?_lt {xs : List α} {x : Nat} {y : α} (h : xs[x]? = some y) : x < xs.length := by
  by_cases hx : x < xs.length
  · exact hx
  · rw [List.getElem?_eq_none (by omega)] at h; simp at h

/-- A part of an element is read. -/
theorem RowsOK.loadEl (R : RowsOK P t e enc rows) {xs : List α} {x f m s : Nat} {y : α} {t' : TypeId} {K d : Nat} {vs : List AV} (ha : aggT P t' = some true) (hs : P.cellsOf e = s) (hm : P.cellsOf t' = m) (hf : f + m ≤ s) (hn : noHold A K = true) (hv : ((enc y).drop f).take m = vs) (h : xs[x]? = some y) :
    loadBox P A (some d) t' K (x * s + f) (Abs.flatS (rows xs)) = some ⟨[(d, .agg vs)], []⟩ := by
  subst hs; subst hm
  obtain ⟨zs, hz⟩ := R.flat_at h (f := f) (by omega)
  have hx := getElem?_lt h
  have hlen : x * P.cellsOf e + f + P.cellsOf t' ≤ (Abs.flatS (rows xs)).length := by
    rw [R.flat_len]
    have : (x + 1) * P.cellsOf e ≤ xs.length * P.cellsOf e := Nat.mul_le_mul_right _ hx
    rw [Nat.add_mul] at this
    omega
  have hvs : vs.map AV.share = vs := by
    subst hv
    rw [List.map_take, List.map_drop, R.shr]
  simp only [loadBox, ha, hn, Bool.true_or]
  rw [if_pos ⟨hlen, trivial⟩, hz, List.take_append_of_le_length (by rw [List.length_drop, R.len]; omega), hv, hvs]
  rfl

/-- A cell of an element is read. -/
theorem RowsOK.loadCe (R : RowsOK P t e enc rows) {xs : List α} {x f s : Nat} {y : α} {t' : TypeId} {K d : Nat} {c : AV} {u : Ups} (ha : aggT P t' = some false) (hs : P.cellsOf e = s) (hv : (enc y)[f]? = some c) (hu : putA A (some d) c = some u) (h : xs[x]? = some y) :
    loadBox P A (some d) t' K (x * s + f) (Abs.flatS (rows xs)) = some u := by
  subst hs
  have hf : f < P.cellsOf e := by rw [← R.len y]; exact getElem?_lt hv
  obtain ⟨zs, hz⟩ := R.flat_at h (f := f) (by omega)
  have hc : (Abs.flatS (rows xs))[x * P.cellsOf e + f]? = some c := by
    have := congrArg (fun l => l[0]?) hz
    simp only [List.getElem?_drop, Nat.add_zero] at this
    rw [this, List.getElem?_append_left (by rw [List.length_drop, R.len]; omega), List.getElem?_drop, Nat.add_zero]
    exact hv
  have hs : c.share = c := by
    have := congrArg (fun l => l[f]?) (R.shr y)
    simp only [List.getElem?_map, hv, Option.map_some, Option.some.injEq] at this
    exact this
  simp only [loadBox, ha, hc]
  split
  · rename_i he _
    have he := Option.some.inj he
    subst he
    simp [AV.share] at hs
  · rename_i he _
    have he := Option.some.inj he
    subst he
    exact hu
  · rename_i he; simp at he

theorem flat_set {s : Nat} {enc : α → List AV} (hl : ∀ x, (enc x).length = s) {xs : List α} {x : Nat} {y y' : α} {f : Nat} {vs : List AV} (h : xs[x]? = some y) (hf : f + vs.length ≤ s) (he : enc y' = splice (enc y) f vs) :
    splice (xs.map enc).flatten (x * s + f) vs = ((xs.set x y').map enc).flatten := by
  have hx := getElem?_lt h
  have hlen := Abs.flat_len hl xs
  have hle : (x + 1) * s ≤ xs.length * s := Nat.mul_le_mul_right _ hx
  rw [Nat.add_mul] at hle
  have e0 : xs[x] = y := by rw [List.getElem?_eq_getElem hx] at h; simpa using h
  have hsplit : xs = xs.take x ++ y :: xs.drop (x + 1) := by
    rw [← e0, ← List.drop_eq_getElem_cons hx, List.take_append_drop]
  have hset : xs.set x y' = xs.take x ++ y' :: xs.drop (x + 1) := by rw [List.set_eq_take_append_cons_drop, if_pos hx]
  have hA : ((xs.take x).map enc).flatten.length = x * s := by rw [Abs.flat_len hl, List.length_take, Nat.min_eq_left (by omega)]
  rw [hset]
  conv => lhs; rw [hsplit]
  simp only [List.map_append, List.map_cons, List.flatten_append, List.flatten_cons, he]
  unfold splice
  generalize ((xs.take x).map enc).flatten = AA at hA ⊢
  generalize ((xs.drop (x + 1)).map enc).flatten = CC
  rw [← hA]
  have hly := hl y
  rw [List.take_length_add_append, List.take_append_of_le_length (by omega), Nat.add_assoc, List.drop_length_add_append, List.drop_append_of_le_length (by omega)]
  simp [List.append_assoc]

/-- A part of an element is written. -/
theorem RowsOK.storeEl (R : RowsOK P t e enc rows) {xs zs : List α} {x f m s : Nat} {y y' : α} {t' : TypeId} {K : Nat} {o : Operand} {v : AV} {vs : List AV} (hs : P.cellsOf e = s) (hm : P.cellsOf t' = m) (hi : (P.info? t').isSome = true) (hc : v.cells = some vs) (hl : vs.length = m) (hf : f + m ≤ s)
    (hno : v.norm1 = v) (hsh : vs.map AV.share = vs) (he : enc y' = splice (enc y) f vs) (hy : xs[x]? = some y) (h : setAt xs x y' = some zs) :
    storeBox P A t' K (x * s + f) (Abs.flatS (rows xs)) o v = some ⟨[], [(K, Abs.flatS (rows zs))]⟩ := by
  subst hs; subst hm
  have hx := getElem?_lt hy
  have hlen : x * P.cellsOf e + f + vs.length ≤ (Abs.flatS (rows xs)).length := by
    rw [R.flat_len, hl]
    have : (x + 1) * P.cellsOf e ≤ xs.length * P.cellsOf e := Nat.mul_le_mul_right _ hx
    rw [Nat.add_mul] at this
    omega
  have hz : zs = xs.set x y' := by
    unfold setAt at h
    rw [if_pos hx] at h
    simpa using h.symm
  subst hz
  have key : splice (Abs.flatS (rows xs)) (x * P.cellsOf e + f) (vs.map AV.share) = Abs.flatS (rows (xs.set x y')) := by
    rw [hsh, R.flatS, R.flatS]
    exact flat_set R.len hy (by omega) he
  unfold storeBox
  split
  · simp [AV.cells] at hc
  · rename_i hms
    rw [hc]
    simp only
    rw [if_pos ⟨hl, hlen, hi⟩]
    split
    · simp [AV.norm1] at hno
    · rw [key]

/-- The views of a frozen box. -/
theorem RowsOK.view (R : RowsOK P t e enc rows) {xs : List α} {K : Nat} {e' : TypeId} {n : Nat} (h : n = xs.length) : okView (rows xs) (.ms K e' 0 n) (rows xs) := by
  subst h
  have hl : (rows xs).length = xs.length := by rw [R.map]; simp
  refine ⟨by omega, ?_⟩
  rw [List.drop_zero, ← hl, List.take_of_length_le (by simp)]
  rw [R.map, List.map_map]
  exact List.map_congr_left fun x _ => (R.shr x).symm

def cutN {α : Type} (xs : List α) (n : Nat) : Option (List α) := if n ≤ xs.length then some (xs.take n) else none
theorem RowsOK.viewN (R : RowsOK P t e enc rows) {xs ys : List α} {K : Nat} {e' : TypeId} {n : Nat} (h : cutN xs n = some ys) : okView (rows xs) (.ms K e' 0 n) (rows ys) := by
  unfold cutN at h
  split at h
  · rename_i hn
    simp at h; subst h
    have hl : (rows xs).length = xs.length := by rw [R.map]; simp
    refine ⟨by omega, ?_⟩
    rw [List.drop_zero, R.map, R.map, List.map_map, List.map_take]
    congr 1
    exact List.map_congr_left fun x _ => (R.shr x).symm
  · simp at h

theorem callOK_msp {P : Program} {ann : FuncId → Ann} {f : FuncId} {e' : TypeId} {lo n m : Nat} {cs args : List AV} {r : AV} {outs : List (Nat × List AV)} (h : n = m) (k : CallOK P ann f (.msp e' lo m cs :: args) r outs) : CallOK P ann f (.msp e' lo n cs :: args) r outs := h ▸ k

theorem ms_len {K : Nat} {e' : TypeId} {n m : Nat} (h : n = m) : AV.ms K e' 0 n = .ms K e' 0 m := by rw [h]

/-- A slice of parts. -/
theorem RowsOK.build1 (R : RowsOK P t e enc rows) (xs : List α) : AV.slice (.own e) (xs.map enc) = .slice (.own e) (rows xs) := by rw [R.map]

/-- The bounds of a slice. -/
def boundV : Option AV → Option (Option Nat)
  | none => some none
  | some (.int _ i) => if 0 ≤ i then some (some i.toNat) else none
  | some _ => none
def sliceV (P : Program) (A : Ann) (d : Option Nat) (t : TypeId) (x : AV) (lo hi : Option AV) : Option Ups :=
  match boundV lo, boundV hi with
  | some l, some h => (sliceA P t x l h).bind (putA A d)
  | _, _ => none
theorem boundV_ok {lo : Option Int} (k : IntKind) (h : 0 ≤ lo.getD 0) : boundV (lo.map (AV.int k)) = some (lo.map Int.toNat) := by
  cases lo with
  | none => rfl
  | some i => simp at h; simp [boundV, h]

theorem RowsOK.cutOb (R : RowsOK P t e enc rows) {xs zs : List α} {lo hi : Option Int} {tag : Tag} {d : Nat} (h : cut xs lo hi = some zs) :
    sliceV P A (some d) t (.slice tag (rows xs)) (lo.map (AV.int .i64)) (hi.map (AV.int .i64)) = some ⟨[(d, .slice (if tag = .nil then .nil else .sh) (rows zs))], []⟩ := by
  unfold cut at h
  split at h
  · rename_i hc
    obtain ⟨c1, c2, c3, c4⟩ := hc
    rw [sliceV, boundV_ok _ c1, boundV_ok _ c2]
    simp only
    simp at h; subst h
    have e1 : (lo.map Int.toNat).getD 0 = (lo.getD 0).toNat := by cases lo <;> rfl
    have hlen : (rows xs).length = xs.length := by rw [R.map]; simp
    have h1 := R.rows_len xs
    simp only [sliceA, R.und, e1, hlen]
    rw [if_pos ⟨c3, c4, h1, R.info⟩]
    simp only [Option.bind_some, putA, R.map, List.map_drop, List.map_take]
    by_cases ht : tag = .nil
    · simp [ht, AV.share]
    · simp [ht, AV.share]
  · simp at h

def cut3 (xs : List α) (hi mx : Int) : Option (List α) := if 0 ≤ hi ∧ hi = mx ∧ hi.toNat ≤ xs.length then some (xs.take hi.toNat) else none
def slice3V (P : Program) (d : Option Nat) (t : TypeId) (x hi mx : AV) : Option Ups :=
  match boundV (some hi), boundV (some mx) with
  | some (some h), some (some m) => slice3A P d t x h m
  | _, _ => none
theorem RowsOK.cut3Ob (R : RowsOK P t e enc rows) {xs zs : List α} {hi mx : Int} {tag : Tag} {d : Nat} (h : cut3 xs hi mx = some zs) :
    slice3V P (some d) t (.slice tag (rows xs)) (.int .i64 hi) (.int .i64 mx) = some ⟨[(d, .fs (rows zs))], []⟩ := by
  unfold cut3 at h
  split at h
  · rename_i hc
    obtain ⟨c1, rfl, c3⟩ := hc
    simp at h; subst h
    have hlen : (rows xs).length = xs.length := by rw [R.map]; simp
    have h1 := R.rows_len xs
    simp only [slice3V, boundV, c1, if_true, slice3A, R.und]
    rw [if_pos ⟨trivial, by rw [hlen]; exact c3, h1, R.info⟩]
    rw [R.map, R.map, List.map_take]
  · simp at h

theorem cutS_ob {t : TypeId} (hu : P.underlying t = some .string) {s z : ByteArray} {lo hi : Option Int} {d : Nat} (h : cutS s lo hi = some z) :
    sliceV P A (some d) t (.str s) (lo.map (AV.int .i64)) (hi.map (AV.int .i64)) = some ⟨[(d, .str z)], []⟩ := by
  unfold cutS at h
  split at h
  · rename_i hc
    obtain ⟨c1, c2, c3, c4⟩ := hc
    rw [sliceV, boundV_ok _ c1, boundV_ok _ c2]
    simp only
    simp at h; subst h
    have e1 : (lo.map Int.toNat).getD 0 = (lo.getD 0).toNat := by cases lo <;> rfl
    simp only [sliceA, hu, e1]
    rw [if_pos ⟨c3, c4⟩]
    rfl
  · simp at h
end

theorem cat_ob {P : Program} {A : Ann} {t : TypeId} {a b c : ByteArray} {d : Nat} (h : cat a b = some c) : (binA P .add t (.str a) (.str b)).bind (putA A (some d)) = some ⟨[(d, .str c)], []⟩ := by
  unfold cat at h
  split at h
  · rename_i hc
    simp at h; subst h
    simp [binA, hc, putA, AV.share]
  · simp at h
theorem quo_ob {P : Program} {A : Ann} {t : TypeId} {k : IntKind} {a b c : Int} {d : Nat} (h : quo k a b = some c) : (binA P .quo t (.int k a) (.int k b)).bind (putA A (some d)) = some ⟨[(d, .int k c)], []⟩ := by
  unfold quo at h
  split at h
  · simp at h
  · rename_i hb
    simp at h; subst h
    simp [binA, hb, putA, AV.share]
theorem rem_ob {P : Program} {A : Ann} {t : TypeId} {k : IntKind} {a b c : Int} {d : Nat} (h : rem a b = some c) : (binA P .rem t (.int k a) (.int k b)).bind (putA A (some d)) = some ⟨[(d, .int k c)], []⟩ := by
  unfold rem at h
  split at h
  · simp at h
  · rename_i hb
    simp at h; subst h
    simp [binA, hb, putA, AV.share]
theorem idxS_ob {P : Program} {A : Ann} {t : TypeId} (hu : P.underlying t = some .string) {k : IntKind} {s : ByteArray} {i c : Int} {d : Nat} (h : idxS s i = some c) :
    (indexA P t (.str s) (.int k i)).bind (putA A (some d)) = some ⟨[(d, .int .u8 c)], []⟩ := by
  unfold idxS at h
  split at h
  · rename_i h0
    simp only [Option.map_eq_some_iff] at h
    obtain ⟨b, hb, rfl⟩ := h
    simp [indexA, h0, hu, hb, putA, AV.share]
  · simp at h

/-- A value of a function type: 0 is nil. -/
def fnAV : Nat → AV
  | 0 => .nilFunc
  | n + 1 => .fn (.func (n + 1))

theorem callOK_bool {P : Program} {ann : FuncId → Ann} {f : FuncId} {args : List AV} {b c : Bool} {outs : List (Nat × List AV)} (h : CallOK P ann f args (.bool b) outs) (hb : b = c) : CallOK P ann f args (.bool c) outs := hb ▸ h
theorem callOK_fn {P : Program} {ann : FuncId → Ann} {f : FuncId} {args : List AV} {b c : Nat} {outs : List (Nat × List AV)} (h : CallOK P ann f args (.fn (.func b)) outs) (hb : (b == c) = true) : CallOK P ann f args (.fn (.func c)) outs := by
  have : b = c := by simpa using hb
  exact this ▸ h
theorem int_eq {k : IntKind} {a b : Int} (h : (a == b) = true) : AV.int k a = .int k b := by
  have : a = b := by simpa using h
  rw [this]

end Go.Abs
