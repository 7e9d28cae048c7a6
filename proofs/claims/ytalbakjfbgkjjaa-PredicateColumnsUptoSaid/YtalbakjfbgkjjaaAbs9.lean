import Derived.Test.YtalbakjfbgkjjaaAbsP
set_option linter.unusedSimpArgs false
namespace Go.Abs
open Go.RowKit

variable {P : Program} {A : Ann} {g : Gh} {st : AS} {a : Act} {w : World} {T : Nat → AV} {B : Nat → Option (List AV)}

/-- A bound of a slice expression: missing, or a number that is not negative. -/
def boundA (T : Nat → AV) : Option Operand → Option (Option Nat)
  | none => some none
  | some x =>
    match valA T x with
    | .int _ i => if 0 ≤ i then some (some i.toNat) else none
    | _ => none

theorem boundA_spec (h : Rel P A g st a w) (hs : Sees T B st) {x : Option Operand} {r : Option Nat} (hb : boundA T x = some r) :
    (x = none ∧ r = none) ∨ ∃ y k i n, x = some y ∧ r = some n ∧ a.eval y = .int k i ∧ 0 ≤ i ∧ i.toNat = n := by
  unfold boundA at hb
  split at hb
  · simp at hb; exact .inl ⟨rfl, hb.symm⟩
  · rename_i y
    split at hb
    · rename_i k i hy
      split at hb
      · rename_i hi
        simp at hb
        have hd := (hs.pr h y).1 (by rw [hy]; rfl)
        rw [hy] at hd
        generalize hv : a.eval y = v at hd
        cases hd
        exact .inr ⟨y, k, i, i.toNat, rfl, hb.symm, hv, hi, rfl⟩
      · simp at hb
    · simp at hb

def sliceA (P : Program) (t : TypeId) (x : AV) (lo hi : Option Nat) : Option AV :=
  match P.underlying t, x with
  | some (.slice e), .slice tag rows =>
    if lo.getD 0 ≤ hi.getD rows.length ∧ hi.getD rows.length ≤ rows.length ∧ (∀ r ∈ rows, r.length = P.cellsOf e) ∧ (P.info? e).isSome = true then
      some (.slice (if tag = .nil then .nil else .sh) ((rows.take (hi.getD rows.length)).drop (lo.getD 0)))
    else none
  | some .string, .str s =>
    if lo.getD 0 ≤ hi.getD s.size ∧ hi.getD s.size ≤ s.size then some (.str (s.extract (lo.getD 0) (hi.getD s.size))) else none
  | _, _ => none

theorem run_sliceBound {k : IntKind} {i : Int} {y : Nat} (h0 : 0 ≤ i) (h1 : i.toNat ≤ y) (c : BoundsCode) : (Instr.sliceBound (.int k i) y c).run P w = .ok i.toNat w := by
  have : 0 ≤ i ∧ i ≤ (y : Int) := ⟨h0, by omega⟩
  simp only [Instr.sliceBound, asIntOf, Sem.run_bind, Sem.run_pure, Result.andThen_ok, if_pos this, Sem.run_ite]

theorem sliceA_sound (h : Rel P A g st a w) (hs : Sees T B st) {t : TypeId} {x y : AV} {v : Value} (hx : PR P g v x) {lo hi : Option Operand} {l u : Option Nat} (hl : boundA T lo = some l) (hu : boundA T hi = some u)
    (hp : sliceA P t x l u = some y) : ∃ r, (Instr.sliceAt t v (lo.map a.eval) (hi.map a.eval) none).run P w = .ok r w ∧ DR g.μ r y := by
  have hbounds : ∀ (isS : Bool) (len cap : Nat), l.getD 0 ≤ u.getD len → u.getD len ≤ len → len ≤ cap →
      (Instr.sliceBounds isS len cap (lo.map a.eval) (hi.map a.eval) none).run P w = .ok (l.getD 0, u.getD len, cap) w := by
    intro isS len cap h1 h2 h3
    rcases boundA_spec h hs hl with ⟨rfl, rfl⟩ | ⟨y1, k1, i1, n1, rfl, rfl, e1, p1, q1⟩ <;> rcases boundA_spec h hs hu with ⟨rfl, rfl⟩ | ⟨y2, k2, i2, n2, rfl, rfl, e2, p2, q2⟩
    · simp [Instr.sliceBounds]
    · simp at h1 h2
      simp [Instr.sliceBounds, e2, run_sliceBound (P := P) (w := w) p2 (by omega : i2.toNat ≤ cap), q2]
    · simp at h1 h2
      simp [Instr.sliceBounds, e1, run_sliceBound (P := P) (w := w) p1 (by omega : i1.toNat ≤ len), q1]
    · simp at h1 h2
      have r2 := run_sliceBound (P := P) (w := w) p2 (by omega : i2.toNat ≤ cap) (k := k2)
      have r1 := run_sliceBound (P := P) (w := w) p1 (by omega : i1.toNat ≤ n2) (k := k1)
      rw [q2] at r2
      rw [q1] at r1
      simp [Instr.sliceBounds, e1, e2, r2, r1]
  unfold sliceA at hp
  split at hp
  · rename_i e tag rows ht
    split at hp
    · rename_i hc
      obtain ⟨c1, c2, c3, c4⟩ := hc
      simp at hp; subst hp
      obtain ⟨ie, hie⟩ := Option.isSome_iff_exists.1 c4
      have hd := hx.1 rfl
      have run : ∀ (ad : Option Addr) (cap : Nat), rows.length ≤ cap → (Instr.sliceAt t (.slice ad rows.length cap) (lo.map a.eval) (hi.map a.eval) none).run P w =
          .ok (.slice (if cap = l.getD 0 then ad else ad.map (·.add (l.getD 0 * P.cellsOf e))) (u.getD rows.length - l.getD 0) (cap - l.getD 0)) w := by
        intro ad cap hcap
        have hb := hbounds true rows.length cap c1 c2 hcap
        simp only [Instr.sliceAt, Sem.run_bind, run_underlying ht, Result.andThen_ok, Instr.slice, hb, run_sizeOf' hie, Sem.run_pure]
      by_cases hne : rows = []
      · subst hne
        obtain ⟨ad, cap, hv, hnil⟩ := hd.empty
        subst hv
        refine ⟨_, run ad cap (by simp), ?_⟩
        simp at c1 c2
        have e2 : u.getD ([] : List (List AV)).length = 0 := by simpa using c2
        have e1 : l.getD 0 = 0 := by simp at e2; omega
        simp only [List.take_nil, List.drop_nil, e2, e1, Nat.sub_self, Nat.sub_zero]
        refine .sliceE fun htag => ?_
        split at htag
        · rename_i hh
          obtain ⟨q1, q2⟩ := hnil hh
          subst q1; subst q2
          simp
        · simp at htag
      · obtain ⟨b, off, cap, s, hv, htag, hcap, hus, hca⟩ := hd.rows hne
        subst hv
        refine ⟨_, run _ cap hcap, ?_⟩
        have hs' : s = P.cellsOf e := by
          obtain ⟨r, hr⟩ := List.exists_mem_of_ne_nil rows hne
          rw [← hus r hr, c3 r hr]
        subst hs'
        rw [if_neg htag]
        have hlen : ((rows.take (u.getD rows.length)).drop (l.getD 0)).length = u.getD rows.length - l.getD 0 := by simp; omega
        cases hrs : (rows.take (u.getD rows.length)).drop (l.getD 0) with
        | nil =>
          rw [hrs] at hlen
          simp at hlen
          rw [← hlen]
          exact .sliceE (by simp)
        | cons r rs =>
          rw [hrs] at hlen
          simp at hlen
          have hne' : ¬ cap = l.getD 0 := by omega
          rw [if_neg hne', Option.map_some, add_lit, ← hlen]
          have hmem : ∀ x ∈ r :: rs, x ∈ rows := fun x hx => by rw [← hrs] at hx; exact List.mem_of_mem_take (List.mem_of_mem_drop hx)
          refine .slice (by simp) (fun x hx => by rw [c3 x (hmem x (by simp [hx])), c3 r (hmem r (by simp))]) rfl (by omega) ?_
          have h1 := (hca.take (u.getD rows.length * P.cellsOf e)).drop (l.getD 0 * P.cellsOf e)
          rw [← flatten_take c3, ← flatten_drop (fun r hr => c3 r (List.mem_of_mem_take hr)), hrs] at h1
          exact h1
    · simp at hp
  · rename_i s ht
    split at hp
    · rename_i hc
      simp at hp; subst hp
      have hd := hx.1 rfl
      cases hd
      have hb := hbounds false s.size s.size hc.1 hc.2 (Nat.le_refl _)
      refine ⟨.string (s.extract (l.getD 0) (u.getD s.size)), ?_, .str _⟩
      simp only [Instr.sliceAt, Sem.run_bind, run_underlying ht, Result.andThen_ok, Instr.slice, Option.isSome_none, Bool.false_eq_true, if_false, hb, Sem.run_pure, Sem.run_ite]
    · simp at hp
  · simp at hp

/-- s[:m:m] -/
def slice3A (P : Program) (d : Option Nat) (t : TypeId) (x : AV) (h m : Nat) : Option Ups :=
  match d, P.underlying t, x with
  | some d, some (.slice e), .slice _ rows => if h = m ∧ m ≤ rows.length ∧ (∀ r ∈ rows, r.length = P.cellsOf e) ∧ (P.info? e).isSome = true then some ⟨[(d, .fs (rows.take m))], []⟩ else none
  | _, _, _ => none

theorem slice3A_sound (h : Rel P A g st a w) (hs : Sees T B st) {d : Option Nat} {t : TypeId} {x hi mx : Operand} {hn mn : Nat} (hh : boundA T (some hi) = some (some hn)) (hm : boundA T (some mx) = some (some mn)) {u : Ups}
    (hp : slice3A P d t (valA T x) hn mn = some u) (hlt : ∀ p ∈ u.ts, p.1 < A.n) : ∃ r, (Instr.sliceAt t (a.eval x) none (some (a.eval hi)) (some (a.eval mx))).run P w = .ok r w ∧ Rel P A g (st.apply u) (a.put d r) w := by
  unfold slice3A at hp
  split at hp
  · rename_i d e tag rows hu hxv
    split at hp
    · rename_i hc
      obtain ⟨rfl, c2, c3, c4⟩ := hc
      simp at hp; subst hp
      obtain ⟨ie, hie⟩ := Option.isSome_iff_exists.1 c4
      have hd : DR g.μ (a.eval x) (.slice tag rows) := by
        have := (hs.pr h x).1 (by rw [hxv]; rfl)
        rw [hxv] at this; exact this
      rcases boundA_spec h hs hh with ⟨q, _⟩ | ⟨y1, k1, i1, n1, e1, e1', p1, p1', p1''⟩
      · simp at q
      rcases boundA_spec h hs hm with ⟨q, _⟩ | ⟨y2, k2, i2, n2, e2, e2', p2, p2', p2''⟩
      · simp at q
      simp at e1 e1' e2 e2'
      subst e1; subst e2
      have run : ∀ (ad : Option Addr) (cap : Nat), rows.length ≤ cap → (Instr.sliceAt t (.slice ad rows.length cap) none (some (a.eval hi)) (some (a.eval mx))).run P w = .ok (.slice ad hn hn) w := by
        intro ad cap hcap
        have r1 := run_sliceBound (P := P) (w := w) p2' (by omega : i2.toNat ≤ cap) (k := k2) .slice3Acap
        have r2 := run_sliceBound (P := P) (w := w) p1' (by omega : i1.toNat ≤ hn) (k := k1) .slice3B
        have t1 : i1.toNat = hn := by omega
        have t2 : i2.toNat = hn := by omega
        rw [t2] at r1
        rw [t1] at r2
        simp only [Instr.sliceAt, Sem.run_bind, run_underlying hu, Result.andThen_ok, Instr.slice, Instr.sliceBounds, p1, p2, if_true, r1, r2, Sem.run_pure, run_sizeOf' hie]
        have : (ad.map fun x => x.add 0) = ad := by cases ad <;> simp [Addr.add]
        simp [this]
      by_cases hne : rows = []
      · subst hne
        obtain ⟨ad, cap, hv, hnil⟩ := hd.empty
        rw [hv]
        simp at c2
        subst c2
        refine ⟨_, run ad cap (by simp), ?_⟩
        rw [apply_one]
        exact h.putAny (hlt (d, .fs (List.take 0 [])) (by simp)) ⟨.sliceE (by simp), ad, 0, rfl⟩ (by simp)
      · obtain ⟨b, off, cap, s, hv, htag, hcap, hus, hca⟩ := hd.rows hne
        rw [hv]
        refine ⟨_, run _ cap hcap, ?_⟩
        rw [apply_one]
        refine h.putAny (hlt (d, .fs (rows.take hn)) (by simp)) ⟨?_, _, hn, rfl⟩ (by simp)
        have hlen : (rows.take hn).length = hn := by simp; omega
        cases hrs : rows.take hn with
        | nil => rw [hrs] at hlen; simp at hlen; rw [← hlen]; exact .sliceE (by simp)
        | cons r rs =>
          rw [hrs] at hlen
          simp at hlen
          have hmem : ∀ x ∈ r :: rs, x.length = s := fun x hx => by rw [← hrs] at hx; exact hus x (List.mem_of_mem_take hx)
          refine .slice (by simp) (fun x hx => by rw [hmem x (by simp [hx]), hmem r (by simp)]) (by omega) (by omega) ?_
          rw [← hrs, flatten_take hus]
          exact hca.take _
    · simp at hp
  · simp at hp

def indexA (P : Program) (t : TypeId) (x ix : AV) : Option AV :=
  match ix with
  | .int _ i =>
    if 0 ≤ i then
      match P.underlying t, x with
      | some .string, .str s => (s[i.toNat]?).map fun b => .int .u8 b.toNat
      | some (.array n e), .agg cs => if i < n ∧ (P.info? e).isSome = true then partA P e cs (i.toNat * P.cellsOf e) else none
      | _, _ => none
    else none
  | _ => none

theorem indexA_sound {μ : Mem} {t : TypeId} {x ix y : AV} {v iv : Value} (hx : DR μ v x) (hix : DR μ iv ix) (hp : indexA P t x ix = some y) (w : World) : ∃ r, (Instr.index t v iv).run P w = .ok r w ∧ DR μ r y := by
  unfold indexA at hp
  split at hp
  · rename_i k i
    cases hix
    split at hp
    · rename_i hi0
      split at hp
      · rename_i s ht
        cases hx
        cases hb : s[i.toNat]? with
        | none => simp [hb] at hp
        | some b =>
          simp [hb] at hp; subst hp
          refine ⟨.int .u8 b.toNat, ?_, .int _ _⟩
          simp only [Instr.index, asIntOf, Sem.run_bind, Sem.run_pure, Result.andThen_ok, run_underlying ht, if_pos hi0, hb]
      · rename_i n e cs ht
        split at hp
        · rename_i hc
          obtain ⟨ie, hie⟩ := Option.isSome_iff_exists.1 hc.2
          cases hx with
          | agg hcs =>
            obtain ⟨r, hr1, hr2⟩ := partA_spec hp hcs w
            refine ⟨r, ?_, hr2⟩
            have hin : 0 ≤ i ∧ i < (n : Int) := ⟨hi0, hc.1⟩
            simp only [Instr.index, asIntOf, Sem.run_bind, Sem.run_pure, Result.andThen_ok, run_underlying ht, if_pos hin, run_sizeOf' hie, hr1, Sem.run_ite]
        · simp at hp
      · simp at hp
    · simp at hp
  · simp at hp

def fieldA (P : Program) (t : TypeId) (x : AV) (f : Nat) : Option AV :=
  match P.underlying t, x with
  | some (.struct fields), .agg cs =>
    match fields[f]? with
    | some fl => partA P fl.type cs fl.offset
    | none => none
  | _, _ => none

theorem fieldA_sound {μ : Mem} {t : TypeId} {x y : AV} {f : Nat} {v : Value} (hx : DR μ v x) (hp : fieldA P t x f = some y) (w : World) : ∃ r, (Instr.field t v f).run P w = .ok r w ∧ DR μ r y := by
  unfold fieldA at hp
  split at hp
  · rename_i fields cs ht
    split at hp
    · rename_i fl hf
      cases hx with
      | agg hcs =>
        obtain ⟨r, hr1, hr2⟩ := partA_spec hp hcs w
        refine ⟨r, ?_, hr2⟩
        simp only [Instr.field, Sem.run_bind, run_underlying ht, Result.andThen_ok, hf, asAgg, Sem.run_pure, hr1]
    · simp at hp
  · simp at hp

def unA (op : UnOp) (x : AV) : Option AV :=
  match op, x with
  | .not, .bool b => some (.bool (!b))
  | .neg, .int k n => some (.int k (k.wrap (0 - n)))
  | _, _ => none
theorem unA_sound {μ : Mem} {op : UnOp} {x y : AV} {v : Value} (hx : DR μ v x) (hp : unA op x = some y) (w : World) : ∃ r, (Op.unary op v).run P w = .ok r w ∧ DR μ r y := by
  unfold unA at hp
  split at hp
  · cases hx; simp at hp; subst hp; exact ⟨_, rfl, .bool _⟩
  · cases hx; simp at hp; subst hp; exact ⟨_, by simp [Op.unary, Op.intArith], .int _ _⟩
  · simp at hp

def convA (P : Program) (src dst : TypeId) (x : AV) : Option AV :=
  match P.underlying src, P.underlying dst, x with
  | some _, some (.int k), .int _ n => some (.int k (k.wrap n))
  | some _, some .string, .str s => some (.str s)
  | _, _, _ => none
theorem convA_sound {μ : Mem} {src dst : TypeId} {x y : AV} {v : Value} (hx : DR μ v x) (hp : convA P src dst x = some y) (w : World) : ∃ r, (convert src dst v).run P w = .ok r w ∧ DR μ r y := by
  unfold convA at hp
  split at hp
  · rename_i h1 h2
    cases hx; simp at hp; subst hp
    exact ⟨_, by simp [convert, run_underlying h1, run_underlying h2, Conv.intToInt], .int _ _⟩
  · rename_i h1 h2
    cases hx; simp at hp; subst hp
    exact ⟨_, by simp [convert, run_underlying h1, run_underlying h2], .str _⟩
  · simp at hp

def lenA (P : Program) (t : TypeId) (x : AV) : Option AV :=
  match P.underlying t, x with
  | some (.slice _), .slice _ rows => some (.int .i64 rows.length)
  | some (.slice _), .ms _ _ _ n => some (.int .i64 n)
  | some .string, .str s => some (.int .i64 s.size)
  | some (.array n _), _ => some (.int .i64 n)
  | _, _ => none
theorem DR.len {μ : Mem} {v : Value} {tag : Tag} {rows : List (List AV)} (h : DR μ v (.slice tag rows)) : ∃ a cap, v = .slice a rows.length cap := by
  cases h with
  | sliceE h => exact ⟨_, _, rfl⟩
  | slice _ _ hn _ _ => subst hn; exact ⟨_, _, rfl⟩
theorem lenA_sound {g : Gh} {t : TypeId} {x y : AV} {v : Value} (hx : PR P g v x) (hp : lenA P t x = some y) (ty : TypeId) (w : World) : ∃ r, (Builtin.len_ #[t] ty #[v]).run P w = .ok r w ∧ DR g.μ r y := by
  unfold lenA at hp
  split at hp
  · rename_i h1
    simp at hp; subst hp
    obtain ⟨ad, cap, rfl⟩ := (hx.1 rfl).len
    exact ⟨_, by simp [Builtin.len_, run_underlying h1, goInt], .int _ _⟩
  · rename_i k e lo n h1
    simp at hp; subst hp
    rcases hx.2.2 _ _ _ _ rfl with ⟨rfl, rfl⟩ | ⟨cap, _, rfl⟩
    · exact ⟨_, by simp [Builtin.len_, run_underlying h1, goInt], .int _ _⟩
    · exact ⟨_, by simp [Builtin.len_, run_underlying h1, goInt], .int _ _⟩
  · rename_i h1
    cases hx.1 rfl; simp at hp; subst hp
    exact ⟨_, by simp [Builtin.len_, run_underlying h1, goInt], .int _ _⟩
  · rename_i h1
    simp at hp; subst hp
    exact ⟨_, by simp [Builtin.len_, run_underlying h1, goInt], .int _ _⟩
  · simp at hp

def minA (x y : AV) : Option AV :=
  match x, y with
  | .int k a, .int _ b => some (.int k (if b < a then b else a))
  | _, _ => none
theorem minA_sound {μ : Mem} {x y z : AV} {v u : Value} (hx : DR μ v x) (hy : DR μ u y) (hp : minA x y = some z) (ts : Array TypeId) (ty : TypeId) (w : World) : ∃ r, (Builtin.min_ ts ty #[v, u]).run P w = .ok r w ∧ DR μ r z := by
  unfold minA at hp
  split at hp
  · cases hx; cases hy; simp at hp; subst hp
    exact ⟨_, by simp [Builtin.min_, Builtin.min2], .int _ _⟩
  · simp at hp
def maxA (x y : AV) : Option AV :=
  match x, y with
  | .int k a, .int _ b => some (.int k (if b > a then b else a))
  | _, _ => none

/-- The element type of an append, and its size in cells: all that the append asks of the types. -/
def appT (P : Program) (t : TypeId) : Option (TypeId × Nat) :=
  match P.underlying t with
  | some (.slice e) =>
    match P.info? e with
    | some i =>
      match i.zero with
      | some z => if z.cells.size = i.size ∧ i.bytes ≤ 65536 then some (e, i.size) else none
      | none => none
    | none => none
  | _ => none

theorem appT_spec {t e : TypeId} {s : Nat} (h : appT P t = some (e, s)) : ∃ i z, P.underlying t = some (.slice e) ∧ P.info? e = some i ∧ i.zero = some z ∧ z.cells.size = i.size ∧ i.bytes ≤ 65536 ∧ i.size = s := by
  unfold appT at h
  split at h
  · rename_i e' hu
    split at h
    · rename_i i hi
      split at h
      · rename_i z hz
        split at h
        · rename_i hc
          simp at h
          obtain ⟨rfl, rfl⟩ := h
          exact ⟨i, z, hu, hi, hz, hc.1, hc.2, rfl⟩
        · simp at h
      · simp at h
    · simp at h
  · simp at h

def appendA (P : Program) (A : Ann) (d : Nat) (t : TypeId) (s : Operand) (sv xv : AV) (B : Nat → Option (List AV)) : Option Ups :=
  match appT P t, xv with
  | some (e, size), .slice _ rows2 =>
    if ∀ r ∈ rows2, r.length = size then
      match sv with
      | .slice (.own e') rows =>
        match s with
        | .tmp t' => if e' = e ∧ t' ≠ d ∧ rows.length + rows2.length ≤ 2147483648 then some ⟨[(d, .slice (.own e) (rows ++ rows2)), (t', .slice .sh rows)], []⟩ else none
        | _ => none
      | .ex e' rows =>
        match s with
        | .tmp t' => if e' = e ∧ t' ≠ d ∧ rows.length + rows2.length ≤ 2147483648 then some ⟨[(d, .ex e (rows ++ rows2)), (t', .undef)], []⟩ else none
        | _ => none
      | .fs rows =>
        match rows2 with
        | r :: rs =>
          if (∀ r ∈ rows, r.length = size) ∧ rows.length + (rs.length + 1) ≤ 2147483648 then
            (if A.muts.contains d then unpackU A d e (rows ++ (r :: rs)) B else if A.exs.contains d then some ⟨[(d, .ex e (rows ++ (r :: rs)))], []⟩ else some ⟨[(d, .slice (.own e) (rows ++ (r :: rs)))], []⟩)
          else none
        | [] => none
      | .slice .nil [] =>
        if rows2.length ≤ 2147483648 then
          (if A.muts.contains d then unpackU A d e rows2 B else if A.exs.contains d then some ⟨[(d, .ex e rows2)], []⟩ else some ⟨[(d, .slice (.own e) rows2)], []⟩)
        else none
      | _ => none
    else none
  | _, _ => none

theorem unpackU_lt {d : Nat} {e : TypeId} {rows : List (List AV)} {u : Ups} (hp : unpackU A d e rows B = some u) (hlt : ∀ p ∈ u.ts, p.1 < A.n) : d < A.n := by
  unfold unpackU at hp
  split at hp
  · split at hp
    · simp at hp; subst hp; exact hlt (d, .ms (A.root d) e 0 rows.length) (by simp)
    · split at hp
      · simp at hp; subst hp; exact hlt (d, .ms (A.root d) e 0 rows.length) (by simp)
      · simp at hp
    · simp at hp
  · simp at hp

theorem appendA_sound (h : Rel P A g st a w) (hs : Sees T B st) {d : Nat} {t ty : TypeId} {s x : Operand} {u : Ups} (hp : appendA P A d t s (valA T s) (valA T x) B = some u) (hlt : ∀ p ∈ u.ts, p.1 < A.n) :
    ∃ r w' g', (Builtin.append_ #[t, t] ty #[a.eval s, a.eval x]).run P w = .ok r w' ∧ Rel P A g' (st.apply u) (a.put (some d) r) w' ∧ Fr w g w' g' := by
  unfold appendA at hp
  split at hp
  · rename_i e size tag2 rows2 happ hxv
    obtain ⟨i, z, hu, hi, hz, hzs, hby, rfl⟩ := appT_spec happ
    have hsrc : DR g.μ (a.eval x) (.slice tag2 rows2) := by
      have := (hs.pr h x).1 (by rw [hxv]; rfl)
      rw [hxv] at this; exact this
    split at hp
    · rename_i hrows
      split at hp
      · rename_i e' rows hsv
        split at hp
        rotate_left
        · simp at hp
        rename_i t'
        split at hp
        · rename_i hc
          obtain ⟨rfl, hne, hlen⟩ := hc
          simp at hp; subst hp
          have ht' : st.tmps t' = .slice (.own e') rows := by
            have : T t' = .slice (.own e') rows := hsv
            rw [hs.tmp (by rw [this]; simp), this]
          have htr := h.tm t'
          rw [ht'] at htr
          obtain ⟨hdr0, hown⟩ := htr
          have h1 : Rel P A g (st.put t' (.slice .sh rows)) a w := by
            have := h.shareAt t' (by rw [ht']; rfl)
            rw [ht'] at this
            exact this
          have hfree : ∀ v, ((st.put t' (.slice .sh rows)).tmps v).owns = true → v ≠ t' := by
            intro v hv he
            subst he
            simp [AS.tmps_put] at hv
          obtain ⟨r, w', g', q1, q2, q3⟩ := h1.append (t := t') (d := d) t ty e' i z hu hi hz hzs hdr0 hown hfree hsrc hrows (by simp only [maxLen]; omega) (by
            have := Nat.mul_le_mul hlen hby
            omega) (hlt (d, .slice (.own e') (rows ++ rows2)) (by simp))
          exact ⟨r, w', g', q1, by rw [apply_two]; exact q2, q3⟩
        · simp at hp
      · rename_i e' rows hsv
        split at hp
        rotate_left
        · simp at hp
        rename_i t'
        split at hp
        · rename_i hc
          obtain ⟨rfl, hne, hlen⟩ := hc
          simp at hp; subst hp
          have ht' : st.tmps t' = .ex e' rows := by
            have : T t' = .ex e' rows := hsv
            rw [hs.tmp (by rw [this]; simp), this]
          have htr := h.tm t'
          rw [ht'] at htr
          have hown : ExOK P g w (.tmp t') (a.tmps.getD t' undef) e' rows := htr
          have h1 : Rel P A g (st.put t' .undef) a w := h.forget t'
          have hfree : ∀ v, ((st.put t' .undef).tmps v).owns = true → v ≠ t' := by
            intro v hv he
            subst he
            simp [AS.tmps_put] at hv
          obtain ⟨r, w', g', q1, q2, q3⟩ := h1.appendEx (t := t') (d := d) t ty e' i z hu hi hz hzs hown hfree hsrc hrows (by simp only [maxLen]; omega) (by
            have := Nat.mul_le_mul hlen hby
            omega) (hlt (d, .ex e' (rows ++ rows2)) (by simp))
          exact ⟨r, w', g', q1, by rw [apply_two]; exact q2, q3⟩
        · simp at hp
      · rename_i rows hsv
        split at hp
        · rename_i r rs
          split at hp
          · rename_i hc
            obtain ⟨hur, hlen⟩ := hc
            have hT : ∃ t', s = .tmp t' ∧ T t' = .fs rows := by
              cases s with
              | tmp t' => exact ⟨t', rfl, hsv⟩
              | const v => simp only [valA] at hsv; unfold constAV at hsv; split at hsv <;> simp at hsv
              | func f => simp [valA] at hsv
              | global g => simp [valA] at hsv
            obtain ⟨t', rfl, hT⟩ := hT
            have htr := hs.tr h t'
            rw [hT] at htr
            obtain ⟨hdr0, hfull⟩ := htr
            have exs : d < A.n → ∃ r' w' g', (Builtin.append_ #[t, t] ty #[a.eval (.tmp t'), a.eval x]).run P w = .ok r' w' ∧ Rel P A g' (st.put d (.ex e (rows ++ (r :: rs)))) (a.put (some d) r') w' ∧ Fr w g w' g' := by
              intro hd
              exact h.appendFs (d := d) t ty e i z hu hi hz hzs hdr0 hfull hur hsrc hrows (by simp only [maxLen]; omega) (by
                have := Nat.mul_le_mul hlen hby
                omega) hd
            split at hp
            · obtain ⟨r', w', g', q1, q2, q3⟩ := exs (unpackU_lt hp hlt)
              obtain ⟨g'', q4, q5⟩ := unpackU_sound q2 hs hp
              exact ⟨r', w', g'', q1, q4, q3.trans q5⟩
            · split at hp
              · simp at hp; subst hp
                obtain ⟨r', w', g', q1, q2, q3⟩ := exs (hlt (d, .ex e (rows ++ (r :: rs))) (by simp))
                exact ⟨r', w', g', q1, by rw [apply_one]; exact q2, q3⟩
              · simp at hp; subst hp
                obtain ⟨r', w', g', q1, q2, q3⟩ := exs (hlt (d, .slice (.own e) (rows ++ (r :: rs))) (by simp))
                obtain ⟨g'', q4, q5⟩ := q2.freezeEx (d := d) (e := e) (rows := rows ++ (r :: rs)) (by simp [AS.tmps_put])
                refine ⟨r', w', g'', q1, ?_, q3.trans q5⟩
                rw [apply_one]
                have : (st.put d (.ex e (rows ++ (r :: rs)))).put d (.slice (.own e) (rows ++ (r :: rs))) = st.put d (.slice (.own e) (rows ++ (r :: rs))) := by
                  simp only [AS.put, AS.mk.injEq, and_true]
                  funext v; split <;> simp_all
                rw [this] at q4
                exact q4
          · simp at hp
        · simp at hp
      · rename_i hsv
        split at hp
        · rename_i hlen
          have hd0 : DR g.μ (a.eval s) (.slice .nil []) := by
            have := (hs.pr h s).1 (by rw [hsv]; rfl)
            rw [hsv] at this; exact this
          have hv0 : a.eval s = .slice none 0 0 := by
            obtain ⟨ad, cap, hv, hn⟩ := hd0.empty
            obtain ⟨rfl, rfl⟩ := hn rfl
            exact hv
          rw [hv0]
          have exs : d < A.n → ∃ r w' g', (Builtin.append_ #[t, t] ty #[.slice none 0 0, a.eval x]).run P w = .ok r w' ∧ Rel P A g' (st.put d (.ex e rows2)) (a.put (some d) r) w' ∧ Fr w g w' g' := by
            intro hd
            obtain ⟨r, w', g', q1, q2, q3⟩ := (h.forget d).appendEx (t := d) (d := d) t ty e i z hu hi hz hzs (v0 := .slice none 0 0) (rows := []) (.inl ⟨rfl, rfl⟩)
              (fun v hv he => by subst he; simp [AS.tmps_put] at hv) hsrc hrows (by simp only [maxLen, List.length_nil]; omega) (by
              simp only [List.length_nil, Nat.zero_add]
              have := Nat.mul_le_mul hlen hby
              omega) hd
            refine ⟨r, w', g', q1, ?_, q3⟩
            have : (st.put d .undef).put d (.ex e ([] ++ rows2)) = st.put d (.ex e rows2) := by
              simp only [AS.put, AS.mk.injEq, List.nil_append, and_true]
              funext v; split <;> simp_all
            rw [this] at q2
            exact q2
          split at hp
          · have hd : d < A.n := unpackU_lt hp hlt
            obtain ⟨r, w', g', q1, q2, q3⟩ := exs hd
            obtain ⟨g'', q4, q5⟩ := unpackU_sound q2 hs hp
            exact ⟨r, w', g'', q1, q4, q3.trans q5⟩
          · split at hp
            · simp at hp; subst hp
              obtain ⟨r, w', g', q1, q2, q3⟩ := exs (hlt (d, .ex e rows2) (by simp))
              exact ⟨r, w', g', q1, by rw [apply_one]; exact q2, q3⟩
            · simp at hp; subst hp
              obtain ⟨r, w', g', q1, q2, q3⟩ := (h.forget d).append (t := d) (d := d) t ty e i z hu hi hz hzs (v0 := .slice none 0 0) (rows := []) (.sliceE (by simp)) (fun e' rows' he => by simp at he; exact .inl ⟨rfl, he.2.symm ▸ rfl⟩)
                (fun v hv he => by subst he; simp [AS.tmps_put] at hv) hsrc hrows (by simp only [maxLen, List.length_nil]; omega) (by
                simp only [List.length_nil, Nat.zero_add]
                have := Nat.mul_le_mul hlen hby
                omega) (hlt (d, .slice (.own e) rows2) (by simp))
              refine ⟨r, w', g', q1, ?_, q3⟩
              rw [apply_one]
              have : (st.put d .undef).put d (.slice (.own e) ([] ++ rows2)) = st.put d (.slice (.own e) rows2) := by
                simp only [AS.put, AS.mk.injEq, List.nil_append, and_true]
                funext v; split <;> simp_all
              rw [this] at q2
              exact q2
        · simp at hp
      · simp at hp
    · simp at hp
  · simp at hp

end Go.Abs
