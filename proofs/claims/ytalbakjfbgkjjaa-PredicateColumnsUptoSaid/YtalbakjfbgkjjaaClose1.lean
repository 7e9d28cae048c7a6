/- What an argument of a call reads as is a tree of the abstract semantics, of its type, no greater than its bulk. Conditions: structs and arrays are laid out without gaps (a fact that is computed). -/
import Derived.Test.YtalbakjfbgkjjaaRows
import Derived.Test.YtalbakjfbgkjjaaAbs22
import Derived.Carry
import Derived.OpenShut
import Derived.JoinedCond
set_option linter.unusedSimpArgs false
namespace Go.Proofs.Ytalbakjfbgkjjaa
open Go.Abs Go.RowKit

mutual
def bulkV : AV → Nat
  | .str s => s.size + 1
  | .slice _ rows => bulkRows rows + 1
  | _ => 1
def bulkRows : List (List AV) → Nat
  | [] => 0
  | r :: rs => bulkL r + bulkRows rs
def bulkL : List AV → Nat
  | [] => 0
  | x :: xs => bulkV x + bulkL xs
end

theorem bulkL_append (xs ys : List AV) : bulkL (xs ++ ys) = bulkL xs + bulkL ys := by
  induction xs with
  | nil => simp [bulkL]
  | cons x xs ih => simp [bulkL, ih]; omega

def all2 {α β : Type} (R : α → β → Prop) : List α → List β → Prop
  | [], [] => True
  | a :: l, b :: m => R a b ∧ all2 R l m
  | _, _ => False

/-- Cells of a type, as trees. -/
def TypedF (P : Program) : Nat → TypeId → List AV → Prop
  | 0, _, _ => False
  | n + 1, t, xs =>
    match P.underlying t with
    | some .bool => ∃ b, xs = [.bool b]
    | some (.int k) => ∃ i, xs = [.int k i] ∧ (Lit.int k i).wf = true
    | some .string => ∃ s : ByteArray, xs = [.str s] ∧ s.size ≤ maxLen
    | some (.slice e) => (∃ rows, xs = [.slice .sh rows] ∧ ∀ r ∈ rows, TypedF P n e r) ∨ xs = [.undef] ∧ P.cellsOf e = 0
    | some (.struct fs) => ∃ xss : List (List AV), xs = xss.flatten ∧ all2 (fun f ys => TypedF P n f.type ys) fs.toList xss
    | some (.array m e) => ∃ xss : List (List AV), xs = xss.flatten ∧ xss.length = m ∧ ∀ ys ∈ xss, TypedF P n e ys
    | _ => xs = [.undef]

def tilesFs (P : Program) (total : Nat) : Nat → List Field → Bool
  | off, [] => off == total
  | off, f :: fs => f.offset == off && decide (f.type < P.types.size) && tilesFs P total (off + P.cellsOf f.type) fs
def tilesT (P : Program) (t : TypeId) : Bool :=
  match P.underlying t with
  | some (.struct fs) => tilesFs P (P.cellsOf t) 0 fs.toList
  | some (.array n e) => P.cellsOf t == n * P.cellsOf e && decide (e < P.types.size)
  | some (.slice e) => decide (e < P.types.size)
  | _ => true

def memOf (w : World) : Mem := fun b o => w.cell? ⟨b, o, none⟩

section
variable {H : Type} {enc : TypeId × Value → H} {P : Program} {w : World} {base : Nat} {spare : Nat → Bool} {held : Bool}

theorem one_le (d : DataW H) : 1 ≤ Rows.uptoBulk d := by
  cases d with
  | lit l => cases l <;> simp [Rows.uptoBulk]
  | _ => simp [Rows.uptoBulk]

theorem mapM_all2 {α β : Type} {f : α → Option β} : ∀ {l : List α} {r : List β}, l.mapM f = some r → all2 (fun a b => f a = some b) l r
  | [], r, h => by simp at h; subst h; trivial
  | a :: l, r, h => by
    rw [List.mapM_cons] at h
    cases ha : f a with
    | none => simp [ha] at h
    | some b =>
      cases hl : l.mapM f with
      | none => simp [ha, hl] at h
      | some m =>
        simp [ha, hl] at h
        subst h
        exact ⟨ha, mapM_all2 hl⟩

theorem all2_length {α β : Type} {R : α → β → Prop} : ∀ {l : List α} {m : List β}, all2 R l m → l.length = m.length
  | [], [], _ => rfl
  | _ :: _, _ :: _, h => by simp [all2_length h.2]
  | [], _ :: _, h => h.elim
  | _ :: _, [], h => h.elim
theorem all2_get {α β : Type} {R : α → β → Prop} : ∀ {l : List α} {m : List β}, all2 R l m → ∀ {i : Nat} {b : β}, m[i]? = some b → ∃ a, l[i]? = some a ∧ R a b
  | [], [], _, _, _, h => by simp at h
  | a :: l, b :: m, h, i, x, hx => by
    cases i with
    | zero => simp at hx; subst hx; exact ⟨a, rfl, h.1⟩
    | succ i => simp at hx; obtain ⟨y, h1, h2⟩ := all2_get h.2 hx; exact ⟨y, by simpa using h1, h2⟩
  | [], _ :: _, h, _, _, _ => h.elim
  | _ :: _, [], h, _, _, _ => h.elim

theorem struct_pieces (n : Nat)
    (ih : ∀ t cs x, t < P.types.size → DataW.trod enc P w base spare held n t cs = some x → ∃ xs, CellsR (memOf w) cs xs ∧ TypedF P n t xs ∧ bulkL xs ≤ Rows.uptoBulk x.1) (total : Nat) :
    ∀ (fs : List Field) (off : Nat) (cs : List Value) (ys : List (DataW H × List MemPlace)), tilesFs P total off fs = true → cs.length = total →
      all2 (fun f y => DataW.trod enc P w base spare held n f.type ((cs.drop f.offset).take (P.cellsOf f.type)) = some y) fs ys → off ≤ total →
      ∃ xss : List (List AV), CellsR (memOf w) (cs.drop off) xss.flatten ∧ all2 (fun f zs => TypedF P n f.type zs) fs xss ∧ bulkL xss.flatten ≤ Rows.uptoBulkAll (ys.map (·.1))
  | [], off, cs, ys, ht, hl, h2, _ => by
    simp [tilesFs] at ht
    refine ⟨[], ?_, trivial, by simp [bulkL]⟩
    rw [List.drop_of_length_le (by omega)]
    exact .nil
  | f :: fs, off, cs, [], _, _, h2, _ => h2.elim
  | f :: fs, off, cs, y :: ys, ht, hl, h2, ho => by
    simp only [tilesFs, Bool.and_eq_true, beq_iff_eq, decide_eq_true_eq] at ht
    obtain ⟨⟨ht0, htt⟩, ht1⟩ := ht
    have ht : f.offset = off ∧ tilesFs P total (off + P.cellsOf f.type) fs = true := ⟨ht0, ht1⟩
    obtain ⟨h0, h1⟩ := h2
    obtain ⟨xs, c1, c2, c3⟩ := ih _ _ _ htt h0
    have hle : ∀ (fs : List Field) (o : Nat), tilesFs P total o fs = true → o ≤ total := by
      intro fs
      induction fs with
      | nil => intro o h; simp [tilesFs] at h; omega
      | cons g gs ihg => intro o h; simp only [tilesFs, Bool.and_eq_true] at h; have := ihg _ h.2; omega
    have hle' := hle fs _ ht.2
    obtain ⟨xss, d1, d2, d3⟩ := struct_pieces n ih total fs (off + P.cellsOf f.type) cs ys ht.2 hl h1 hle'
    refine ⟨xs :: xss, ?_, ⟨c2, d2⟩, ?_⟩
    · rw [ht.1] at c1
      have : cs.drop off = (cs.drop off).take (P.cellsOf f.type) ++ cs.drop (off + P.cellsOf f.type) := by
        rw [← List.drop_drop]; exact (List.take_append_drop _ _).symm
      rw [this]
      exact c1.append d1
    · simp only [List.flatten_cons, List.map_cons, Rows.uptoBulkAll, bulkL_append]
      omega

theorem array_pieces (n : Nat) (e : TypeId) (he : e < P.types.size)
    (ih : ∀ t cs x, t < P.types.size → DataW.trod enc P w base spare held n t cs = some x → ∃ xs, CellsR (memOf w) cs xs ∧ TypedF P n t xs ∧ bulkL xs ≤ Rows.uptoBulk x.1) (cs : List Value) :
    ∀ (m k : Nat) (ys : List (DataW H × List MemPlace)), cs.length = (k + m) * P.cellsOf e →
      all2 (fun i y => DataW.trod enc P w base spare held n e ((cs.drop (i * P.cellsOf e)).take (P.cellsOf e)) = some y) (List.range' k m) ys →
      ∃ xss : List (List AV), CellsR (memOf w) (cs.drop (k * P.cellsOf e)) xss.flatten ∧ xss.length = m ∧ (∀ zs ∈ xss, TypedF P n e zs) ∧ bulkL xss.flatten ≤ Rows.uptoBulkAll (ys.map (·.1))
  | 0, k, ys, hl, h2 => by
    refine ⟨[], ?_, rfl, by simp, by simp [bulkL]⟩
    rw [List.drop_of_length_le (by simp at hl; omega)]
    exact .nil
  | m + 1, k, [], _, h2 => by simp [List.range'_succ, all2] at h2
  | m + 1, k, y :: ys, hl, h2 => by
    rw [List.range'_succ] at h2
    obtain ⟨h0, h1⟩ := h2
    obtain ⟨xs, c1, c2, c3⟩ := ih _ _ _ he h0
    obtain ⟨xss, d1, d2, d3, d4⟩ := array_pieces n e he ih cs m (k + 1) ys (by rw [hl]; congr 1; omega) h1
    refine ⟨xs :: xss, ?_, by simp [d2], ?_, ?_⟩
    · have : cs.drop (k * P.cellsOf e) = (cs.drop (k * P.cellsOf e)).take (P.cellsOf e) ++ cs.drop ((k + 1) * P.cellsOf e) := by
        rw [Nat.add_mul, Nat.one_mul, ← List.drop_drop]; exact (List.take_append_drop _ _).symm
      rw [this]
      exact c1.append d1
    · intro zs hz
      rcases List.mem_cons.1 hz with rfl | hz
      · exact c2
      · exact d3 zs hz
    · simp only [List.flatten_cons, List.map_cons, Rows.uptoBulkAll, bulkL_append]
      omega

theorem cellsR_at {cs : List Value} {xs : List AV} (h : CellsR (memOf w) cs xs) {b : Nat} {off : Nat} (hm : ∀ j v, cs[j]? = some v → memOf w b (off + j) = some v) : CellsAt (memOf w) b off xs :=
  CellsAt.mk fun j x hx => by
    obtain ⟨v, h1, h2, h3⟩ := h.get hx
    exact ⟨v, hm j v h1, h2, h3⟩

theorem addr_at (a : Addr) (k j : Nat) (h : a.spot = none ∨ 0 < k) : (a.add k).add j = ⟨a.block, a.off + k + j, none⟩ := by
  obtain ⟨b, o, s⟩ := a
  by_cases hk : k = 0
  · subst hk
    simp at h; subst h
    by_cases hj : j = 0 <;> simp [Addr.add, hj]
  · by_cases hj : j = 0 <;> simp [Addr.add, hk, hj]

theorem slice_pieces (n : Nat) (e : TypeId) (he : e < P.types.size) (a : Addr)
    (ih : ∀ t cs x, t < P.types.size → DataW.trod enc P w base spare held n t cs = some x → ∃ xs, CellsR (memOf w) cs xs ∧ TypedF P n t xs ∧ bulkL xs ≤ Rows.uptoBulk x.1) (hs : 0 < P.cellsOf e) :
    ∀ (m k : Nat) (ys : List (DataW H × List MemPlace)),
      all2 (fun i y => ((w.cells? base (a.add (i * P.cellsOf e)) (P.cellsOf e)).bind (DataW.trod enc P w base spare held n e)) = some y) (List.range' k m) ys →
      ∃ rows : List (List AV), CellsAt (memOf w) a.block (a.off + k * P.cellsOf e) rows.flatten ∧ rows.length = m ∧ (∀ zs ∈ rows, TypedF P n e zs ∧ zs.length = P.cellsOf e) ∧ bulkRows rows ≤ Rows.uptoBulkAll (ys.map (·.1)) ∧ (k = 0 → 0 < m → a.spot = none)
  | 0, k, ys, h2 => ⟨[], .nil, rfl, by simp, by simp [bulkRows], by simp⟩
  | m + 1, k, [], h2 => by simp [List.range'_succ, all2] at h2
  | m + 1, k, y :: ys, h2 => by
    rw [List.range'_succ] at h2
    obtain ⟨h0, h1⟩ := h2
    obtain ⟨rows, d1, d2, d3, d4, d5⟩ := slice_pieces n e he a ih hs m (k + 1) ys h1
    cases hc : w.cells? base (a.add (k * P.cellsOf e)) (P.cellsOf e) with
    | none => simp [hc] at h0
    | some cs =>
      simp only [hc, Option.bind_some] at h0
      obtain ⟨xs, c1, c2, c3⟩ := ih _ _ _ he h0
      unfold World.cells? at hc
      split at hc
      · have hall := mapM_all2 hc
        have hlen : cs.length = P.cellsOf e := by have := all2_length hall; simpa using this.symm
        have hcell : ∀ j v, cs[j]? = some v → w.cell? ((a.add (k * P.cellsOf e)).add j) = some v := by
          intro j v hj
          obtain ⟨i, hi, hv⟩ := all2_get hall hj
          have hi' : i = j := by
            have := (List.getElem?_eq_some_iff.1 hi)
            obtain ⟨q1, q2⟩ := this
            simpa using q2.symm
          rw [← hi']; exact hv
        have hspot : a.spot = none ∨ 0 < k * P.cellsOf e := by
          by_cases hk : 0 < k * P.cellsOf e
          · exact .inr hk
          · have hk0 : k * P.cellsOf e = 0 := by omega
            have h00 := hcell 0 (cs[0]'(by omega)) (by simp)
            rw [hk0] at h00
            simp only [Addr.add, if_true] at h00
            unfold World.cell? at h00
            split at h00
            · split at h00
              · simp at h00
              · rename_i q; left; simpa using q
            · simp at h00
        refine ⟨xs :: rows, ?_, by simp [d2], ?_, ?_, ?_⟩
        · rw [List.flatten_cons]
          refine CellsAt.append ?_ ?_
          · refine cellsR_at c1 fun j v hj => ?_
            have h := hcell j v hj
            have ea : (a.add (k * P.cellsOf e)).add j = ⟨a.block, a.off + k * P.cellsOf e + j, none⟩ := addr_at a _ j hspot
            rw [ea] at h
            exact h
          · have : a.off + (k + 1) * P.cellsOf e = a.off + k * P.cellsOf e + xs.length := by
              rw [← c1.length, hlen, Nat.add_mul]; omega
            rw [← this]
            exact d1
        · intro zs hz
          rcases List.mem_cons.1 hz with rfl | hz
          · exact ⟨c2, by rw [← c1.length, hlen]⟩
          · exact d3 zs hz
        · simp only [bulkRows, List.map_cons, Rows.uptoBulkAll]
          omega
        · intro hk0 _
          rcases hspot with h | h
          · exact h
          · subst hk0; simp at h
      · simp at hc

theorem trod_typed (hP : ∀ t, t < P.types.size → tilesT P t = true) : ∀ (n : Nat) (t : TypeId) (cs : List Value) (x : DataW H × List MemPlace), t < P.types.size → DataW.trod enc P w base spare held n t cs = some x →
    ∃ xs, CellsR (memOf w) cs xs ∧ TypedF P n t xs ∧ bulkL xs ≤ Rows.uptoBulk x.1
  | 0, _, _, _, _, h => by simp [DataW.trod] at h
  | n + 1, t, cs, x, hlt, h => by
    have ih := trod_typed hP n
    have htile := hP t hlt
    unfold DataW.trod at h
    split at h
    · rename_i b hu
      simp at h; subst h
      exact ⟨[.bool b], .cons rfl (.bool b) .nil, by simp [TypedF, hu], by simp [bulkL, bulkV, Rows.uptoBulk]⟩
    · rename_i k k' i hu
      split at h
      · rename_i hc
        obtain ⟨rfl, hw⟩ := hc
        simp at h; subst h
        exact ⟨[.int k' i], .cons rfl (.int _ _) .nil, by simp [TypedF, hu, hw], by simp [bulkL, bulkV, Rows.uptoBulk]⟩
      · simp at h
    · rename_i k k' i hu
      split at h
      · simp at h; subst h
        exact ⟨[.undef], .cons rfl (.undef _) .nil, by simp [TypedF, hu], by simp [bulkL, bulkV, Rows.uptoBulk]⟩
      · simp at h
    · rename_i s hu
      split at h
      · rename_i hc
        simp at h; subst h
        exact ⟨[.str s], .cons rfl (.str _) .nil, by simp [TypedF, hu, hc], by simp [bulkL, bulkV, Rows.uptoBulk]⟩
      · simp at h
    · rename_i hu
      simp at h; subst h
      exact ⟨[.undef], .cons rfl (.undef _) .nil, by simp [TypedF, hu], by simp [bulkL, bulkV, Rows.uptoBulk]⟩
    · rename_i e a hu
      simp only [Option.map_eq_some_iff] at h
      obtain ⟨y, _, rfl⟩ := h
      exact ⟨[.undef], .cons rfl (.undef _) .nil, by simp [TypedF, hu], by simp [bulkL, bulkV, Rows.uptoBulk]⟩
    · rename_i e hu
      simp at h; subst h
      exact ⟨[.slice .sh []], .cons rfl (.sliceE (by simp)) .nil, by simp [TypedF, hu], by simp [bulkL, bulkV, bulkRows, Rows.uptoBulk]⟩
    · rename_i e a len cap hu
      simp only at h
      split at h
      · rename_i hc
        cases hr : (List.range len).mapM fun i => (w.cells? base (a.add (i * P.cellsOf e)) (P.cellsOf e)).bind (DataW.trod enc P w base spare held n e) with
        | none => simp [hr] at h
        | some ys =>
          simp only [hr, Option.bind_some, Option.map_eq_some_iff] at h
          obtain ⟨rest, _, rfl⟩ := h
          simp only [tilesT, hu, decide_eq_true_eq] at htile
          by_cases hs : 0 < P.cellsOf e
          · have h2 := mapM_all2 hr
            rw [List.range_eq_range'] at h2
            obtain ⟨rows, d1, d2, d3, d4, d5⟩ := slice_pieces n e htile a ih hs len 0 ys h2
            refine ⟨[.slice .sh rows], .cons rfl ?_ .nil, ?_, ?_⟩
            · cases rows with
              | nil =>
                simp at d2; subst d2
                exact .sliceE (by simp)
              | cons r rs =>
                have hsp := d5 rfl (by simp at d2; omega)
                obtain ⟨ab, ao, asp⟩ := a
                simp at hsp; subst hsp
                simp only [Nat.zero_mul, Nat.add_zero] at d1
                exact .slice (by simp) (fun z hz => by rw [(d3 z (by simp [hz])).2, (d3 r (by simp)).2]) (by simpa using d2.symm) hc.2.1 d1
            · simp only [TypedF, hu]
              exact .inl ⟨rows, rfl, fun r hr => (d3 r hr).1⟩
            · simp only [bulkL, bulkV, Rows.uptoBulk]; omega
          · exact ⟨[.undef], .cons rfl (.undef _) .nil, by simp only [TypedF, hu]; exact .inr ⟨trivial, by omega⟩, by simp [bulkL, bulkV, Rows.uptoBulk]⟩
      · simp at h
    · rename_i fs hu
      split at h
      · rename_i hl
        simp only [Option.map_eq_some_iff] at h
        obtain ⟨ys, hm, rfl⟩ := h
        simp only [tilesT, hu] at htile
        obtain ⟨xss, d1, d2, d3⟩ := struct_pieces n ih _ fs.toList 0 _ ys htile hl (mapM_all2 hm) (Nat.zero_le _)
        exact ⟨xss.flatten, by simpa using d1, by simp only [TypedF, hu]; exact ⟨xss, rfl, d2⟩, by simp only [Rows.uptoBulk]; omega⟩
      · simp at h
    · rename_i m e hu
      split at h
      · rename_i hl
        simp only [Option.map_eq_some_iff] at h
        obtain ⟨ys, hm, rfl⟩ := h
        simp only [tilesT, hu, beq_iff_eq, Bool.and_eq_true, decide_eq_true_eq] at htile
        have h2 := mapM_all2 hm
        rw [List.range_eq_range'] at h2
        obtain ⟨xss, d1, d2, d3, d4⟩ := array_pieces n e htile.2 ih _ m 0 ys (by rw [hl, htile.1]; simp) h2
        exact ⟨xss.flatten, by simpa using d1, by simp only [TypedF, hu]; exact ⟨xss, rfl, d2, d3⟩, by simp only [Rows.uptoBulk]; omega⟩
      · simp at h
    all_goals first
      | (rename_i hu; simp at h; subst h; exact ⟨[.undef], .cons rfl (.undef _) .nil, by simp [TypedF, hu], by simp [bulkL, bulkV, Rows.uptoBulk]⟩)
      | skip
    all_goals first
      | (cases h; done)
      | (rename_i hu; exact ⟨[.undef], .cons rfl (.undef _) .nil, by simp [TypedF, hu], by simpa [bulkL, bulkV] using one_le x.1⟩)

mutual
def okV : AV → Prop
  | .int k n => (Lit.int k n).wf = true
  | .str s => s.size ≤ maxLen
  | .slice _ rows => okRows rows
  | _ => True
def okRows : List (List AV) → Prop
  | [] => True
  | r :: rs => okL r ∧ okRows rs
def okL : List AV → Prop
  | [] => True
  | x :: xs => okV x ∧ okL xs
end
theorem okL_append {xs ys : List AV} (h : okL xs) (k : okL ys) : okL (xs ++ ys) := by
  induction xs with
  | nil => exact k
  | cons x xs ih => exact ⟨h.1, ih h.2⟩
theorem okRows_mk {rows : List (List AV)} (h : ∀ r ∈ rows, okL r) : okRows rows := by
  induction rows with
  | nil => trivial
  | cons r rs ih => exact ⟨h r (by simp), ih fun x hx => h x (by simp [hx])⟩
theorem okL_flatten {rows : List (List AV)} (h : ∀ r ∈ rows, okL r) : okL rows.flatten := by
  induction rows with
  | nil => trivial
  | cons r rs ih => exact okL_append (h r (by simp)) (ih fun x hx => h x (by simp [hx]))
theorem all2_mem {α β : Type} {R : α → β → Prop} {l : List α} {m : List β} (h : all2 R l m) {b : β} (hb : b ∈ m) : ∃ a, R a b := by
  obtain ⟨i, hi⟩ := List.mem_iff_getElem?.1 hb
  obtain ⟨a, _, ha⟩ := all2_get h hi
  exact ⟨a, ha⟩
theorem typed_ok : ∀ (n : Nat) (t : TypeId) (xs : List AV), TypedF P n t xs → okL xs
  | 0, _, _, h => h.elim
  | n + 1, t, xs, h => by
    have ih := typed_ok n
    unfold TypedF at h
    split at h
    · obtain ⟨b, rfl⟩ := h; exact ⟨trivial, trivial⟩
    · obtain ⟨b, rfl, hw⟩ := h; exact ⟨hw, trivial⟩
    · obtain ⟨b, rfl, hw⟩ := h; exact ⟨hw, trivial⟩
    · rcases h with ⟨rows, rfl, hr⟩ | ⟨rfl, _⟩
      · exact ⟨okRows_mk fun r h => ih _ _ (hr r h), trivial⟩
      · exact ⟨trivial, trivial⟩
    · obtain ⟨xss, rfl, h2⟩ := h
      exact okL_flatten fun r hr => by obtain ⟨f, hf⟩ := all2_mem h2 hr; exact ih _ _ hf
    · obtain ⟨xss, rfl, _, h2⟩ := h
      exact okL_flatten fun r hr => ih _ _ (h2 r hr)
    · subst h; exact ⟨trivial, trivial⟩

theorem rows_of {α : Type} {en : α → List AV} {rows : List (List AV)} (h : ∀ r ∈ rows, ∃ x, r = en x) : ∃ ys : List α, rows = ys.map en := by
  induction rows with
  | nil => exact ⟨[], rfl⟩
  | cons r rs ih =>
    obtain ⟨y, rfl⟩ := h r (by simp)
    obtain ⟨ys, rfl⟩ := ih fun x hx => h x (by simp [hx])
    exact ⟨y :: ys, rfl⟩

/-- An argument of struct type. -/
theorem arg_agg (hP : ∀ t, t < P.types.size → tilesT P t = true) {t : TypeId} (ht : t < P.types.size) {v : Value} {d : DataW H} {ps : List MemPlace} (h : DataW.Trod enc P w base spare held t v d ps) {cs : Array Value} (hv : v = .agg cs) :
    ∃ xs n, DR (memOf w) v (.agg xs) ∧ TypedF P n t xs ∧ bulkL xs ≤ Rows.uptoBulk d := by
  obtain ⟨n, hn⟩ := h
  obtain ⟨xs, h1, h2, h3⟩ := trod_typed hP n t _ _ ht hn
  subst hv
  exact ⟨xs, n, .agg h1, h2, h3⟩
/-- An argument of one cell. -/
theorem arg_one (hP : ∀ t, t < P.types.size → tilesT P t = true) {t : TypeId} (ht : t < P.types.size) {v : Value} {d : DataW H} {ps : List MemPlace} (h : DataW.Trod enc P w base spare held t v d ps) (hv : v.cells.toList = [v]) :
    ∃ x n, DR (memOf w) v x ∧ TypedF P n t [x] ∧ bulkL [x] ≤ Rows.uptoBulk d := by
  obtain ⟨n, hn⟩ := h
  obtain ⟨xs, h1, h2, h3⟩ := trod_typed hP n t _ _ ht hn
  rw [hv] at h1
  cases h1 with
  | cons _ hd ht =>
    cases ht
    exact ⟨_, n, hd, h2, h3⟩
end
end Go.Proofs.Ytalbakjfbgkjjaa
