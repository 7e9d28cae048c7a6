/- The contracts of slices.Sort and slices.Compact at []int over plain data: the shelf's contracts, put into the form of the abstract semantics (a slice argument that is written in place). No condition. -/
import Derived.Test.YtalbakjfbgkjjaaDat
import Derived.Test.YtalbakjfbgkjjaaLaid
set_option maxRecDepth 100000
set_option linter.unusedSimpArgs false
namespace Go.Proofs.Ytalbakjfbgkjjaa
open Go.Abs Go.Sort

def rowI (xs : List Int) : List AV := flatS (rows3 xs)
theorem rowI_eq (xs : List Int) : rowI xs = xs.map fun x => AV.int .i64 x := by
  rw [rowI, R30.flatS]
  induction xs with
  | nil => rfl
  | cons x xs ih => rw [List.map_cons, List.flatten_cons, ih]; rfl
theorem rowI_norm (xs : List Int) : (rowI xs).map AV.norm1 = rowI xs := by
  rw [rowI_eq, List.map_map]
  exact List.map_congr_left fun x _ => rfl

theorem heap_put {w : World} {n blk off : Nat} {d : Array Int} {os : Array Obj} {cur : Array Value} {e : TypeId} (h : w.heap[blk]? = some (Obj.cells cur e (0, 0))) :
    (grow (putRow (Value.int .i64) (Sort.ahead w n) blk off d) os).heap[blk]? = some (Obj.cells (putCells (Value.int .i64) off d cur) e (0, 0)) := by
  have hlt : blk < w.heap.size := by
    by_cases hb : blk < w.heap.size
    · exact hb
    · rw [Array.getElem?_eq_none (by omega)] at h; simp at h
  have h1 : (putRow (Value.int .i64) (Sort.ahead w n) blk off d).heap[blk]? = some (Obj.cells (putCells (Value.int .i64) off d cur) e (0, 0)) := by
    show ((Sort.ahead w n).heap.modify blk (onCells (putCells (Value.int .i64) off d)))[blk]? = _
    rw [Array.getElem?_modify, if_pos rfl]
    show (w.heap[blk]?).map _ = _
    rw [h]
    rfl
  show ((putRow (Value.int .i64) (Sort.ahead w n) blk off d).heap ++ os)[blk]? = _
  rw [Array.getElem?_append_left]
  · exact h1
  · by_cases hb : blk < (putRow (Value.int .i64) (Sort.ahead w n) blk off d).heap.size
    · exact hb
    · rw [Array.getElem?_eq_none (by omega)] at h1; simp at h1
theorem heap_other {w : World} {n blk off : Nat} {d : Array Int} {os : Array Obj} {b : Nat} (hb : b < w.heap.size) (hne : b ≠ blk) :
    (grow (putRow (Value.int .i64) (Sort.ahead w n) blk off d) os).heap[b]? = w.heap[b]? := by
  have hs : (putRow (Value.int .i64) (Sort.ahead w n) blk off d).heap.size = w.heap.size := by
    show ((Sort.ahead w n).heap.modify blk _).size = _
    rw [Array.size_modify]; rfl
  show ((putRow (Value.int .i64) (Sort.ahead w n) blk off d).heap ++ os)[b]? = _
  rw [Array.getElem?_append_left (by omega)]
  show ((Sort.ahead w n).heap.modify blk _)[b]? = _
  rw [Array.getElem?_modify, if_neg (Ne.symm hne)]
  rfl
theorem size_put {w : World} {n blk off : Nat} {d : Array Int} {os : Array Obj} : (grow (putRow (Value.int .i64) (Sort.ahead w n) blk off d) os).heap.size = w.heap.size + os.size := by
  show ((putRow (Value.int .i64) (Sort.ahead w n) blk off d).heap ++ os).size = _
  rw [Array.size_append]
  show ((Sort.ahead w n).heap.modify blk _).size + _ = _
  rw [Array.size_modify]; rfl

theorem cell_of {w : World} {b o : Nat} {cur : Array Value} {e : TypeId} (h : w.heap[b]? = some (Obj.cells cur e (0, 0))) : w.cell? ⟨b, o, none⟩ = cur[o]? ∧ w.frozen? ⟨b, o, none⟩ = false := by
  constructor
  · simp [World.cell?, h]
  · simp [World.frozen?, h]

theorem dr_int {μ : Mem} {v : Value} {k : IntKind} {x : Int} (h : DR μ v (.int k x)) : v = .int k x := by cases h; rfl

/-- A row of numbers that is written in place. -/
theorem inplace {A : Ann} {g : Gh} {st : AS} {a : Act} {w : World} {xs ys : List Int} (h : Rel Try.prog A g st a w) (hb : st.box 0 = some (rowI xs)) (hne : xs ≠ []) (hl : ys.length = xs.length) (n : Nat) (os : Array Obj) :
    Holds (Value.int .i64) w (g.ρ 0) 0 xs.toArray ∧ g.ρ 0 < w.heap.size ∧
    Fr w g (grow (putRow (Value.int .i64) (Sort.ahead w n) (g.ρ 0) 0 ys.toArray) os) g ∧ (∀ b o u, g.μ b o = some u → (grow (putRow (Value.int .i64) (Sort.ahead w n) (g.ρ 0) 0 ys.toArray) os).cell? ⟨b, o, none⟩ = some u) ∧
    (∀ b x, g.κ b = some x → b < (grow (putRow (Value.int .i64) (Sort.ahead w n) (g.ρ 0) 0 ys.toArray) os).heap.size) ∧ BoxR Try.prog g (grow (putRow (Value.int .i64) (Sort.ahead w n) (g.ρ 0) 0 ys.toArray) os) 0 (rowI ys) := by
  have hx := h.bx 0 _ hb
  have hne' : rowI xs ≠ [] := by rw [rowI_eq]; simpa using hne
  have own := hx.own hne'
  have free := hx.free hne'
  obtain ⟨cur, e, m1, m2, m3⟩ := hx.mem hne'
  have hlen : (rowI xs).length = xs.length := by rw [rowI_eq]; simp
  have hlen' : (rowI ys).length = ys.length := by rw [rowI_eq]; simp
  have hlt := h.kl _ _ own
  have hp := heap_put (n := n) (off := 0) (d := ys.toArray) (os := os) m1
  refine ⟨fun j hj => ?_, hlt, ?_, fun b o u hu => ?_, fun b x hx' => ?_, ?_⟩
  · have hj : j < xs.length := by simpa using hj
    obtain ⟨c1, c2⟩ := cell_of (o := 0 + j) m1
    refine ⟨?_, c2⟩
    rw [c1, Nat.zero_add]
    have hjc : j < cur.size := by omega
    have e1 : cur[j]? = some cur[j] := Array.getElem?_eq_getElem hjc
    obtain ⟨_, q2⟩ := m3 j cur[j] (.int .i64 xs[j]) e1 (by rw [rowI_eq]; simp [hj])
    have q2 : DR g.μ cur[j] (.int .i64 xs[j]) ∧ _ := q2
    obtain ⟨q2, _⟩ := q2
    have ev : cur[j] = .int .i64 xs[j] := dr_int q2
    rw [e1, ev]
    simp [hj]
  · refine ⟨rfl, rfl, rfl, by rw [size_put]; omega, Mem.le.refl _, fun b hb' hn => ⟨heap_other hb' ?_, fun _ => rfl, hn⟩, rfl, fun _ _ => rfl⟩
    intro e
    rw [e, own] at hn
    simp at hn
  · have hb0 : b ≠ g.ρ 0 := by
      intro e
      rw [e, free o] at hu
      simp at hu
    have hc := h.mu b o u hu
    have hblt : b < w.heap.size := by
      by_cases hq : b < w.heap.size
      · exact hq
      · simp [World.cell?, Array.getElem?_eq_none (show w.heap.size ≤ b by omega)] at hc
    have ho := heap_other (n := n) (blk := g.ρ 0) (off := 0) (d := ys.toArray) (os := os) hblt hb0
    have : (grow (putRow (Value.int .i64) (Sort.ahead w n) (g.ρ 0) 0 ys.toArray) os).cell? ⟨b, o, none⟩ = w.cell? ⟨b, o, none⟩ := by
      simp only [World.cell?, ho]
    rw [this]
    exact hc
  · rw [size_put]
    have := h.kl _ _ hx'
    omega
  · refine ⟨fun _ => own, fun _ => ⟨_, e, hp, ?_, fun j v x hv hxj => ?_⟩, fun _ => free⟩
    · simp [putCells]; omega
    · rw [rowI_eq] at hxj
      simp only [List.getElem?_map] at hxj
      cases hy : ys[j]? with
      | none => simp [hy] at hxj
      | some y =>
        simp [hy] at hxj
        subst hxj
        have hj : j < ys.length := (List.getElem?_eq_some_iff.1 hy).1
        have hjc : j < cur.size := by omega
        have ev : v = .int .i64 y := by
          simp only [putCells, Array.getElem?_mapIdx, Array.getElem?_eq_getElem hjc, Option.map_some, Option.some.injEq] at hv
          rw [if_pos ⟨by omega, by simp; omega⟩] at hv
          have hy' : ys[j] = y := by
            rw [List.getElem?_eq_getElem hj] at hy
            simpa using hy
          simp [hj, hy'] at hv
          exact hv.symm
        subst ev
        exact ⟨rfl, CV.of _ (.int _ _) (OwnOK.triv _ (by simp))⟩

/-- Sorting by insertion. -/
def insI (x : Int) : List Int → List Int
  | [] => [x]
  | y :: ys => if x ≤ y then x :: y :: ys else y :: insI x ys
def sortI : List Int → List Int
  | [] => []
  | x :: xs => insI x (sortI xs)
theorem insI_perm (x : Int) : ∀ ys : List Int, (insI x ys).Perm (x :: ys)
  | [] => by simp [insI]
  | y :: ys => by
    unfold insI
    split
    · exact .refl _
    · exact ((insI_perm x ys).cons y).trans (.swap _ _ _)
theorem sortI_perm : ∀ xs : List Int, (sortI xs).Perm xs
  | [] => .nil
  | x :: xs => (insI_perm x _).trans ((sortI_perm xs).cons x)
theorem insI_sorted (x : Int) : ∀ ys : List Int, ys.Pairwise (· ≤ ·) → (insI x ys).Pairwise (· ≤ ·)
  | [], _ => by simp [insI]
  | y :: ys, h => by
    unfold insI
    split
    · rename_i hxy
      refine List.pairwise_cons.2 ⟨fun z hz => ?_, h⟩
      rcases List.mem_cons.1 hz with rfl | hz
      · exact hxy
      · exact Int.le_trans hxy ((List.pairwise_cons.1 h).1 z hz)
    · rename_i hxy
      refine List.pairwise_cons.2 ⟨fun z hz => ?_, insI_sorted x ys (List.pairwise_cons.1 h).2⟩
      rcases List.mem_cons.1 ((insI_perm x ys).mem_iff.1 hz) with rfl | hz
      · omega
      · exact (List.pairwise_cons.1 h).1 z hz
theorem sortI_sorted : ∀ xs : List Int, (sortI xs).Pairwise (· ≤ ·)
  | [] => .nil
  | x :: xs => insI_sorted x _ (sortI_sorted xs)
theorem sorted_unique : ∀ {xs ys : List Int}, xs.Pairwise (· ≤ ·) → ys.Pairwise (· ≤ ·) → xs.Perm ys → xs = ys
  | [], ys, _, _, h => by simpa using h.symm
  | x :: xs, [], _, _, h => by simp at h
  | x :: xs, y :: ys, hx, hy, h => by
    have h1 := List.pairwise_cons.1 hx
    have h2 := List.pairwise_cons.1 hy
    have e : x = y := by
      have a : x ∈ y :: ys := h.mem_iff.1 (by simp)
      have b : y ∈ x :: xs := h.mem_iff.2 (by simp)
      rcases List.mem_cons.1 a with rfl | a
      · rfl
      · rcases List.mem_cons.1 b with rfl | b
        · rfl
        · have := h2.1 x a
          have := h1.1 y b
          omega
    subst e
    rw [sorted_unique h1.2 h2.2 (List.Perm.cons_inv h)]
theorem mergeSort_sortI (xs : List Int) : (xs.mergeSort fun x y => decide (x ≤ y)) = sortI xs := by
  refine sorted_unique ?_ (sortI_sorted xs) ((List.mergeSort_perm xs _).trans (sortI_perm xs).symm)
  have := List.pairwise_mergeSort (le := fun x y : Int => decide (x ≤ y)) (fun a b c => by simp; omega) (fun a b => by simp; omega) xs
  exact this.imp (by simp)

def F52 (_n : Nat) (xs : List Int) : Option (List Int) := if xs.length < 4294967296 then some (sortI xs) else none
theorem F52_spec {n : Nat} {xs ys : List Int} (h : F52 n xs = some ys) : xs.length < 4294967296 ∧ sortI xs = ys := by
  unfold F52 at h
  split at h
  · exact ⟨by assumption, Option.some.inj h⟩
  · simp at h
theorem len52 {n : Nat} {xs ys : List Int} (h : F52 n xs = some ys) : ys.length = xs.length := by
  obtain ⟨_, rfl⟩ := F52_spec h
  exact (sortI_perm xs).length_eq
def res52 (_r : List Int) : AV := .tuple []
def outs52 (r : List Int) : List (Nat × List AV) := [(0, flatS (rows3 r))]

theorem empty52 (xs ys : List Int) (hl : ys.length = xs.length) (e : TypeId) (n : Nat) : EmptyOK [.msp e 0 n (List.map AV.norm1 (flatS (rows3 xs)))] [(0, flatS (rows3 ys))] := by
  intro i cs cs' h1 h2
  match i with
  | 0 =>
    have h1 : List.map AV.norm1 (rowI xs) = cs := Option.some.inj h1
    have h2 : rowI ys = cs' := Option.some.inj h2
    subst h1; subst h2
    rw [rowI_norm, rowI_eq, rowI_eq]
    simp only [List.map_eq_nil_iff]
    rw [← List.length_eq_zero_iff, ← List.length_eq_zero_iff, hl]
  | i + 1 => simp at h1

theorem ev52 (n : Nat) (xs ys : List Int) (h : F52 n xs = some ys) : CallOK Try.prog ann 52 [.msp 3 0 xs.length (List.map AV.norm1 (flatS (rows3 xs)))] (res52 ys) (outs52 ys) := by
  have hl := len52 h
  obtain ⟨hsz, hy⟩ := F52_spec h
  refine ⟨body52, .ext ⟨by kernel_rfl, (by decide : 1 ≤ (ann 52).n), fun i cs hi => ?_, empty52 xs ys hl _ _, fun g w vs hvs hrel => ?_⟩⟩
  · match i with
    | 0 => exact ⟨by kernel_rfl, rfl⟩
    | i + 1 => simp at hi
  · match vs, hvs with
    | ⟨[v]⟩, _ =>
      have h0 : MsV Try.prog g v 0 3 0 xs.length := hrel.tm 0
      have hb : (initAS [.msp 3 0 xs.length (List.map AV.norm1 (flatS (rows3 xs)))]).box 0 = some (rowI xs) := by
        show some (List.map AV.norm1 (rowI xs)) = _
        rw [rowI_norm]
      have fin : ∀ (w' : World) (g' : Gh), Fr w g w' g' → (∀ b o u, g'.μ b o = some u → w'.cell? ⟨b, o, none⟩ = some u) → (∀ b x, g'.κ b = some x → b < w'.heap.size) → BoxR Try.prog g' w' 0 (rowI ys) →
          ∃ v g', Ending.returned (.tuple #[]) = .returned v ∧ Fr w g w' g' ∧ (∀ b o u, g'.μ b o = some u → w'.cell? ⟨b, o, none⟩ = some u) ∧ (∀ b x, g'.κ b = some x → b < w'.heap.size) ∧ RetR Try.prog g' w' v (res52 ys) ∧
            ∀ i cs, (outs52 ys).lookup i = some cs → i < 1 → BoxR Try.prog g' w' i cs ∧ noOwn cs ∧ noKeys cs := by
        intro w' g' h1 h2 h3 h4
        refine ⟨_, g', rfl, h1, h2, h3, ⟨.tuple (by simpa using .nil), .tmp 0, by simp, OwnOK.triv _ (by simp [res52])⟩, fun i cs hi hlt => ?_⟩
        obtain rfl : i = 0 := by omega
        have hi : rowI ys = cs := Option.some.inj hi
        subst hi
        refine ⟨h4, fun x hx => ?_, fun x hx => ?_⟩
        · rw [rowI_eq] at hx
          obtain ⟨z, _, rfl⟩ := List.mem_map.1 hx
          simp
        · rw [rowI_eq] at hx
          obtain ⟨z, _, rfl⟩ := List.mem_map.1 hx
          rfl
      have none : ∀ p cap, xs = [] → v = .slice p 0 cap → Calls Try.prog 52 ⟨[v]⟩ w fun e w' => ∃ v g', e = .returned v ∧ Fr w g w' g' ∧ (∀ b o u, g'.μ b o = some u → w'.cell? ⟨b, o, none⟩ = some u) ∧ (∀ b x, g'.κ b = some x → b < w'.heap.size) ∧ RetR Try.prog g' w' v (res52 ys) ∧
            ∀ i cs, (outs52 ys).lookup i = some cs → i < 1 → BoxR Try.prog g' w' i cs ∧ noOwn cs ∧ noKeys cs := by
        intro p cap he hv
        subst hv
        refine (Any.slices_Sort_int_none lays189 p cap w).mono ?_
        rintro e w' ⟨rfl, rfl⟩
        have hy0 : ys = [] := by subst he; exact List.length_eq_zero_iff.1 hl
        subst hy0
        exact fin _ g (Fr.refl _ _) hrel.mu hrel.kl ⟨fun q => absurd rfl q, fun q => absurd rfl q, fun q => absurd rfl q⟩
      rcases h0 with ⟨e0, rfl⟩ | ⟨cap, hc, rfl⟩
      · exact none _ _ (List.length_eq_zero_iff.1 e0) rfl
      · by_cases hx : xs = []
        · exact none _ cap hx (by rw [hx]; rfl)
        · obtain ⟨k1, k2, _⟩ := inplace (ys := ys) hrel hb hx hl 0 #[]
          refine (Any.slices_Sort_int lays189 (g.ρ 0) 0 cap xs w k1 k2 (by omega)).mono ?_
          rintro e w' ⟨rfl, n, os, rfl⟩
          rw [mergeSort_sortI, hy]
          obtain ⟨_, _, k3, k4, k5, k6⟩ := inplace (ys := ys) hrel hb hx hl n os
          exact fin _ g k3 k4 k5 k6

/-- Runs of equal numbers are cut to one. -/
def ddI : List Int → List Int
  | [] => []
  | [x] => [x]
  | x :: y :: ys => if x = y then ddI (y :: ys) else x :: ddI (y :: ys)
def F53 (_n : Nat) (xs : List Int) : Option (Nat × List Int) := if xs.length < 4294967296 then some ((Lib.compact xs).length, Lib.compact xs ++ List.replicate (xs.length - (Lib.compact xs).length) 0) else none
def res53 (r : Nat × List Int) : AV := .ms 0 3 0 r.1
def outs53 (r : Nat × List Int) : List (Nat × List AV) := [(0, flatS (rows3 r.2))]
theorem compact_le (xs : List Int) : (Lib.compact xs).length ≤ xs.length := by
  unfold Lib.compact Lib.compactUpTo
  rw [List.length_map]
  refine Nat.le_trans (List.length_filter_le _ _) ?_
  simp
theorem len53 {n : Nat} {xs : List Int} {r : Nat × List Int} (h : F53 n xs = some r) : r.2.length = xs.length := by
  unfold F53 at h
  split at h
  · have h := Option.some.inj h
    subst h
    have := compact_le xs
    simp
    omega
  · simp at h

theorem get0 {v : Value} {k : Nat} : (Act.tmps ⟨(⟨[v]⟩ : Array Value) ++ Array.replicate k undef, []⟩).getD 0 undef = v := by
  rw [Array.getD_eq_getD_getElem?, Array.getElem?_append_left (by simp)]
  rfl

theorem one_val {vs : Array Value} {x : AV} (h : vs.size = [x].length) : ∃ v, vs = ⟨[v]⟩ := by
  match vs, h with
  | ⟨[v]⟩, _ => exact ⟨v, rfl⟩

theorem ev53 (n : Nat) (xs : List Int) (r : Nat × List Int) (h : F53 n xs = some r) : CallOK Try.prog ann 53 [.msp 3 0 xs.length (List.map AV.norm1 (flatS (rows3 xs)))] (res53 r) (outs53 r) := by
  have hl := len53 h
  have hr : xs.length < 4294967296 ∧ r.1 = (Lib.compact xs).length ∧ r.2 = Lib.compact xs ++ List.replicate (xs.length - (Lib.compact xs).length) 0 := by
    unfold F53 at h
    split at h
    · have h := Option.some.inj h
      subst h
      exact ⟨by assumption, rfl, rfl⟩
    · simp at h
  obtain ⟨hsz, hr1, hr2⟩ := hr
  have hle := compact_le xs
  refine ⟨body53, .ext ⟨by kernel_rfl, (by decide : 1 ≤ (ann 53).n), fun i cs hi => ?_, empty52 xs r.2 hl _ _, fun g w vs hvs hrel => ?_⟩⟩
  · match i with
    | 0 => exact ⟨by kernel_rfl, rfl⟩
    | i + 1 => simp at hi
  · obtain ⟨v, rfl⟩ : ∃ v, vs = ⟨[v]⟩ := one_val hvs
    · skip
      have h0 : MsV Try.prog g v 0 3 0 xs.length := by
        have q := hrel.tm 0
        rw [get0] at q
        exact q
      have hnp : g.np = 1 := hrel.np
      have hb : (initAS [.msp 3 0 xs.length (List.map AV.norm1 (flatS (rows3 xs)))]).box 0 = some (rowI xs) := by
        show some (List.map AV.norm1 (rowI xs)) = _
        rw [rowI_norm]
      have fin : ∀ (v : Value) (w' : World), Fr w g w' g → (∀ b o u, g.μ b o = some u → w'.cell? ⟨b, o, none⟩ = some u) → (∀ b x, g.κ b = some x → b < w'.heap.size) → BoxR Try.prog g w' 0 (rowI r.2) → MsV Try.prog g v 0 3 0 r.1 →
          ∃ v' g', Ending.returned v = .returned v' ∧ Fr w g w' g' ∧ (∀ b o u, g'.μ b o = some u → w'.cell? ⟨b, o, none⟩ = some u) ∧ (∀ b x, g'.κ b = some x → b < w'.heap.size) ∧ RetR Try.prog g' w' v' (res53 r) ∧
            ∀ i cs, (outs53 r).lookup i = some cs → i < 1 → BoxR Try.prog g' w' i cs ∧ noOwn cs ∧ noKeys cs := by
        intro v w' h1 h2 h3 h4 h5
        refine ⟨_, g, rfl, h1, h2, h3, ⟨by omega, h5⟩, fun i cs hi hlt => ?_⟩
        obtain rfl : i = 0 := by omega
        have hi : rowI r.2 = cs := Option.some.inj hi
        subst hi
        refine ⟨h4, fun x hx => ?_, fun x hx => ?_⟩
        · rw [rowI_eq] at hx
          obtain ⟨z, _, rfl⟩ := List.mem_map.1 hx
          simp
        · rw [rowI_eq] at hx
          obtain ⟨z, _, rfl⟩ := List.mem_map.1 hx
          rfl
      have none : ∀ p cap, xs = [] → v = .slice p 0 cap → MsV Try.prog g v 0 3 0 0 → Calls Try.prog 53 ⟨[v]⟩ w fun e w' => ∃ v g', e = .returned v ∧ Fr w g w' g' ∧ (∀ b o u, g'.μ b o = some u → w'.cell? ⟨b, o, none⟩ = some u) ∧ (∀ b x, g'.κ b = some x → b < w'.heap.size) ∧ RetR Try.prog g' w' v (res53 r) ∧
            ∀ i cs, (outs53 r).lookup i = some cs → i < 1 → BoxR Try.prog g' w' i cs ∧ noOwn cs ∧ noKeys cs := by
        intro p cap he hv hm
        subst hv
        refine (Any.slices_Compact_int_empty lays20 p cap w).mono ?_
        rintro e w' ⟨rfl, rfl⟩
        have hy0 : r.2 = [] := by subst he; exact List.length_eq_zero_iff.1 hl
        have hy1 : r.1 = 0 := by rw [hr1]; subst he; simpa using hle
        refine fin _ _ (Fr.refl _ _) hrel.mu hrel.kl ?_ (by rw [hy1]; exact hm)
        rw [hy0]
        exact ⟨fun q => absurd rfl q, fun q => absurd rfl q, fun q => absurd rfl q⟩
      rcases h0 with ⟨e0, rfl⟩ | ⟨cap, hc, rfl⟩
      · exact none _ _ (List.length_eq_zero_iff.1 e0) rfl (.inl ⟨rfl, rfl⟩)
      · by_cases hx : xs = []
        · exact none _ cap hx (by rw [hx]; rfl) (.inr ⟨cap, by omega, by rw [hx]; rfl⟩)
        · obtain ⟨k1, k2, _⟩ := inplace (ys := r.2) hrel hb hx hl 0 #[]
          refine (Any.slices_Compact_int lays20 (g.ρ 0) 0 cap xs w k1 (by omega) hc).mono ?_
          rintro e w' ⟨rfl, n, rfl⟩
          rw [← hr2]
          obtain ⟨_, _, k3, k4, k5, k6⟩ := inplace (ys := r.2) hrel hb hx hl n #[]
          rw [grow_empty] at k3 k4 k5 k6
          refine fin _ _ k3 k4 k5 k6 (.inr ⟨cap, by omega, ?_⟩)
          rw [hr1]
          rfl

end Go.Proofs.Ytalbakjfbgkjjaa
