/- A region that draws its order. -/
import Derived.Test.YtjeenahnkcgfcaaGreatDoorSim14
set_option linter.unusedVariables false
set_option linter.unusedSimpArgs false
namespace Go.Sim
open Go.RowKit

variable {E : Env} {g : Gh} {f : Hf} {w : World}

/-- Slots and heap. -/
structure DS where
  T : Tf
  F : Hf
/-- What a step writes. -/
structure Stp where
  dst : Option Nat
  v : SV
  D : Nat → Bool
  H : Hf
def DS.app (s : DS) (u : Stp) : DS := ⟨putT s.T u.dst u.v, mixF u.D u.H s.F⟩

def stP (us : Nat → Stp) (l : List Nat) (p : Nat → Bool) (s : DS) : DS := (l.filter p).foldl (fun s j => s.app (us j)) s

theorem stP_T (us : Nat → Stp) (t : Nat) (p q : Nat → Bool) : ∀ (l : List Nat) (s s2 : DS), s.T t = s2.T t → (∀ j ∈ l, (us j).dst = some t → p j = q j) → (stP us l p s).T t = (stP us l q s2).T t
  | [], s, s2, h, _ => h
  | j :: l, s, s2, h, hpq => by
    have hrest := fun s s2 hs => stP_T us t p q l s s2 hs (fun i hi => hpq i (List.mem_cons_of_mem _ hi))
    have happ : ∀ s : DS, (s.app (us j)).T t = if (us j).dst = some t then some (us j).v else s.T t := fun s => rfl
    unfold stP at hrest ⊢
    by_cases hl : (us j).dst = some t
    · have := hpq j (by simp) hl
      cases hp : p j
      · rw [hp] at this
        simp only [List.filter_cons, hp, ← this]
        exact hrest s s2 h
      · rw [hp] at this
        simp only [List.filter_cons, hp, ← this, if_true, List.foldl_cons]
        exact hrest _ _ (by rw [happ, happ, if_pos hl, if_pos hl])
    · have key : ∀ s : DS, (s.app (us j)).T t = s.T t := fun s => by rw [happ, if_neg hl]
      cases hp : p j <;> cases hq : q j <;> simp only [List.filter_cons, hp, hq, if_true, List.foldl_cons, Bool.false_eq_true, if_false]
      · exact hrest _ _ h
      · exact hrest _ _ (by rw [key]; exact h)
      · exact hrest _ _ (by rw [key]; exact h)
      · exact hrest _ _ (by rw [key, key]; exact h)

theorem stP_F (us : Nat → Stp) (x : Nat) (p q : Nat → Bool) : ∀ (l : List Nat) (s s2 : DS), s.F x = s2.F x → (∀ j ∈ l, (us j).D x = true → p j = q j) → (stP us l p s).F x = (stP us l q s2).F x
  | [], s, s2, h, _ => h
  | j :: l, s, s2, h, hpq => by
    have hrest := fun s s2 hs => stP_F us x p q l s s2 hs (fun i hi => hpq i (List.mem_cons_of_mem _ hi))
    have happ : ∀ s : DS, (s.app (us j)).F x = if (us j).D x = true then (us j).H x else s.F x := fun s => rfl
    unfold stP at hrest ⊢
    by_cases hl : (us j).D x = true
    · have := hpq j (by simp) hl
      cases hp : p j
      · rw [hp] at this
        simp only [List.filter_cons, hp, ← this]
        exact hrest s s2 h
      · rw [hp] at this
        simp only [List.filter_cons, hp, ← this, if_true, List.foldl_cons]
        exact hrest _ _ (by rw [happ, happ, if_pos hl, if_pos hl])
    · have key : ∀ s : DS, (s.app (us j)).F x = s.F x := fun s => by rw [happ, if_neg hl]
      cases hp : p j <;> cases hq : q j <;> simp only [List.filter_cons, hp, hq, if_true, List.foldl_cons, Bool.false_eq_true, if_false]
      · exact hrest _ _ h
      · exact hrest _ _ (by rw [key]; exact h)
      · exact hrest _ _ (by rw [key]; exact h)
      · exact hrest _ _ (by rw [key, key]; exact h)

theorem DS.ext' {s t : DS} (h1 : ∀ u, s.T u = t.T u) (h2 : ∀ k, s.F k = t.F k) : s = t := by
  cases s; cases t
  simp only [DS.mk.injEq]
  exact ⟨funext h1, funext h2⟩

theorem range_filter_lt (i n : Nat) (h : i ≤ n) : (List.range' 0 n).filter (fun j => decide (j < i)) = List.range' 0 i := by
  obtain ⟨m, rfl⟩ := Nat.exists_eq_add_of_le h
  rw [← List.range'_append_1, List.filter_append]
  have h1 : (List.range' 0 i).filter (fun j => decide (j < i)) = List.range' 0 i := List.filter_eq_self.2 fun x hx => by simp [List.mem_range'_1] at hx; simpa using hx
  have h2 : (List.range' (0 + i) m).filter (fun j => decide (j < i)) = [] := List.filter_eq_nil_iff.2 fun x hx => by simp [List.mem_range'_1] at hx; simp; omega
  rw [h1, h2]; simp

theorem stP_upto (us : Nat → Stp) (p : Nat → Bool) (i n : Nat) (h : i < n) (hp : p i = true) (s : DS) : stP us (List.range' 0 n) (fun j => p j && decide (j ≤ i)) s = (stP us (List.range' 0 i) p s).app (us i) := by
  obtain ⟨m, rfl⟩ := Nat.exists_eq_add_of_lt h
  have e : List.range' 0 (i + m + 1) = List.range' 0 i ++ (i :: List.range' (i + 1) m) := by
    rw [show i + m + 1 = i + (m + 1) from by omega, ← List.range'_append_1]
    simp [List.range'_succ]
  unfold stP
  rw [e, List.filter_append, List.filter_cons]
  have h1 : (List.range' 0 i).filter (fun j => p j && decide (j ≤ i)) = (List.range' 0 i).filter p := List.filter_congr fun x hx => by simp [List.mem_range'_1] at hx; simp; omega
  have h2 : (List.range' (i + 1) m).filter (fun j => p j && decide (j ≤ i)) = [] := List.filter_eq_nil_iff.2 fun x hx => by simp [List.mem_range'_1] at hx; simp; omega
  rw [h1, h2]
  simp [hp]

theorem getD_set (l : Array Bool) (i j : Nat) (h : i < l.size) (d : Bool) : (l.setIfInBounds i true).getD j d = if j = i then true else l.getD j d := by
  simp only [Array.getD_eq_getD_getElem?, Array.getElem?_setIfInBounds]
  by_cases hj : j = i
  · subst hj; simp [h]
  · simp [hj, Ne.symm hj]

/-- What an operation hangs on. -/
noncomputable def direct (ops : Array Oper) (j : Nat) : List Nat := ((ops[j]?).map dirO).getD []
noncomputable def anc (ops : Array Oper) : Nat → Nat → List Nat
  | 0, _ => []
  | n + 1, j => direct ops j ++ (direct ops j).flatMap (anc ops n)

theorem anc_closed {ops : Array Oper} {S : Nat → Prop} (hS : ∀ j, S j → ∀ i ∈ direct ops j, S i) : ∀ (n j : Nat), S j → ∀ i ∈ anc ops n j, S i
  | 0, _, _, i, hi => by simp [anc] at hi
  | n + 1, j, hj, i, hi => by
    simp only [anc, List.mem_append, List.mem_flatMap] at hi
    rcases hi with hi | ⟨k, hk, hi⟩
    · exact hS j hj i hi
    · exact anc_closed hS n k (hS j hj k hk) i hi
theorem anc_direct {ops : Array Oper} {S : Nat → Prop} (hS : ∀ j, S j → ∀ i ∈ direct ops j, S i) : ∀ (n j : Nat), (∀ i ∈ direct ops j, S i) → ∀ i ∈ anc ops n j, S i
  | 0, _, _, i, hi => by simp [anc] at hi
  | n + 1, j, hj, i, hi => by
    simp only [anc, List.mem_append, List.mem_flatMap] at hi
    rcases hi with hi | ⟨k, hk, hi⟩
    · exact hj i hi
    · exact anc_closed hS n k (hj k hk) i hi

theorem ready_spec {ops : Array Oper} {listed : Array Bool} {i : Nat} : i ∈ Region.ready .any ops listed ↔ i < ops.size ∧ listed.getD i true = false ∧ ∀ j ∈ direct ops i, listed.getD j false = true := by
  unfold Region.ready
  simp only [List.mem_filter, List.mem_range, Bool.and_eq_true, Bool.not_eq_true']
  constructor
  · rintro ⟨h1, h2, h3⟩
    refine ⟨h1, h2, fun j hj => ?_⟩
    unfold direct at hj
    rw [Array.getElem?_eq_getElem h1] at hj h3
    simp only [Option.map_some, Option.getD_some, dirO, List.mem_map, List.mem_filter] at hj h3
    obtain ⟨e, ⟨he1, he2⟩, rfl⟩ := hj
    rw [Array.all_eq_true'] at h3
    have := h3 e (by simpa using he1)
    simpa [he2] using this
  · rintro ⟨h1, h2, h3⟩
    refine ⟨h1, h2, ?_⟩
    rw [Array.getElem?_eq_getElem h1]
    simp only [Option.map_some, Option.getD_some]
    rw [Array.all_eq_true']
    intro e he
    by_cases hb : Region.binds .any e = true
    · have := h3 e.on (by
        unfold direct
        rw [Array.getElem?_eq_getElem h1]
        simp only [Option.map_some, Option.getD_some, dirO, List.mem_map, List.mem_filter]
        exact ⟨e, ⟨by simpa using he, hb⟩, rfl⟩)
      simp [this]
    · simp [hb]

theorem HR.heap_eq {w' : World} (h : HR g f w) (he : w'.heap = w.heap) : HR g f w' :=
  ⟨fun id o ho => by
    obtain ⟨b, c, q1, q2, q3⟩ := h.ob id o ho
    exact ⟨b, c, q1, by rw [he]; exact q2, q3.mono (.refl _) q1 (by rw [he])⟩, h.inj⟩
theorem Fr.heap_eq {w' : World} (he : w'.heap = w.heap) (h1 : w'.os = w.os) (h2 : w'.tape = w.tape) (h3 : w'.output = w.output) : Fr g f w g f w' :=
  ⟨h1, h2, h3, by rw [he]; exact Nat.le_refl _, .refl _, fun b _ _ => by rw [he], fun _ _ h => h⟩

/-- Two operations that may be taken in either order. -/
structure Ind (ops : Array Oper) (us : Nat → Stp) (need : Nat → Nat → Prop) (i j : Nat) : Prop where
  s1 : ∀ t, (us i).dst = some t → ∀ o, ops[j]? = some o → t ∉ o.looksAt ops
  s2 : ∀ t, (us j).dst = some t → ∀ o, ops[i]? = some o → t ∉ o.looksAt ops
  s3 : ∀ t, (us i).dst = some t → (us j).dst ≠ some t
  d : ∀ x, (us i).D x = true → (us j).D x = false
  n1 : ∀ x, need j x → (us i).D x = false
  n2 : ∀ x, need i x → (us j).D x = false

theorem draw_sound {S : Nat → Prop} {ro : Option Nat} {nt : Nat} {ops : Array Oper} {U : Nat → Stp} {need frp newp : Nat → Nat → Prop} {s0 : DS} (hmix : E.P.follows .mixedOrders = true)
    (hstep : ∀ i (hi : i < ops.size), ¬ S i → (U i).dst = ops[i].dst ∧ StepS E ro nt ops i ops[i] (stP U (List.range' 0 i) (fun _ => true) s0).T (need i) (stP U (List.range' 0 i) (fun _ => true) s0).F (frp i) (newp i) (U i).v (U i).D (U i).H)
    (hd : ∀ j, j < ops.size → (∀ i ∈ direct ops j, i < j) ∧ ∀ i, i < j → i ∈ anc ops ops.size j ∨ Ind ops U need i j)
    (hfp : ∀ i k, i < ops.size → k < ops.size → i ≠ k → ∀ x, frp i x → newp k x → i ∈ anc ops ops.size k)
    {a : Act} {id m : Nat} {Q : Exit → Act → World → Prop} (hE : EnvOK E g) (hfr : FR g nt s0.T a.tmps) (hr : HR g s0.F w) (hnew : ∀ i, i < ops.size → ∀ x, frp i x → g.ρ x = none)
    (hstop : ∀ i, i < ops.size → S i → i + 1 = ops.size ∧ (∀ j, j < i → j ∈ anc ops ops.size i) ∧ ∀ (g1 : Gh) (a1 : Act) (w1 : World) (K : Act → World → Prop), EnvOK E g1 → FR g1 nt (stP U (List.range' 0 i) (fun _ => true) s0).T a1.tmps → HR g1 (stP U (List.range' 0 i) (fun _ => true) s0).F w1 →
      Fr g s0.F w g1 (stP U (List.range' 0 i) (fun _ => true) s0).F w1 → a1.defers = a.defers → (∀ x, g1.ρ x ≠ g.ρ x → ∃ k, k < i ∧ newp k x) → wpOpIn (fro ro) m E.P ops Q i K a1 w1)
    (hq : (∀ i, i < ops.size → ¬ S i) → ∀ g' a' w', FR g' nt (stP U (List.range' 0 ops.size) (fun _ => true) s0).T a'.tmps → HR g' (stP U (List.range' 0 ops.size) (fun _ => true) s0).F w' → Fr g s0.F w g' (stP U (List.range' 0 ops.size) (fun _ => true) s0).F w' → a'.defers = a.defers →
      (∀ x, (∀ i, i < ops.size → ¬ newp i x) → g'.ρ x = g.ρ x) → Q .normal a' w') : (Code.region id ops true).wpIn (fro ro) m E.P Q a w := by
  let n := ops.size
  have key : ∀ (fuel : Nat) (listed : Array Bool) (a1 : Act) (w1 : World) (g1 : Gh), listed.size = n → (∀ j, listed.getD j false = true → ∀ i ∈ direct ops j, listed.getD i false = true) →
      ((List.range' 0 n).filter (fun j => !listed.getD j false)).length = fuel → EnvOK E g1 → FR g1 nt (stP U (List.range' 0 n) (fun j => listed.getD j false) s0).T a1.tmps → HR g1 (stP U (List.range' 0 n) (fun j => listed.getD j false) s0).F w1 →
      Fr g s0.F w g1 (stP U (List.range' 0 n) (fun j => listed.getD j false) s0).F w1 → a1.defers = a.defers → (∀ x, g1.ρ x ≠ g.ρ x → ∃ k, k < n ∧ listed.getD k false = true ∧ newp k x) → (∀ j, listed.getD j false = true → ¬ S j) → wpAnyIn (fro ro) m E.P .any ops Q fuel listed a1 w1 := by
    intro fuel
    induction fuel with
    | zero =>
      intro listed a1 w1 g1 hsz hcl hcnt hE1 hfr1 hr1 hf1 hdf hrho hns
      have hall : ∀ j, j < n → listed.getD j false = true := by
        intro j hj
        have := List.filter_eq_nil_iff.1 (List.eq_nil_of_length_eq_zero hcnt) j (by simp [List.mem_range'_1]; exact hj)
        simpa using this
      have hst : stP U (List.range' 0 n) (fun j => listed.getD j false) s0 = stP U (List.range' 0 n) (fun _ => true) s0 := by
        unfold stP
        congr 1
        exact List.filter_congr fun x hx => by simp [List.mem_range'_1] at hx; simpa using hall x hx
      rw [hst] at hfr1 hr1 hf1
      refine ⟨?_, hq (fun i hi => hns i (hall i hi)) g1 a1 w1 hfr1 hr1 hf1 hdf (fun x hx => ?_)⟩
      · rw [List.eq_nil_iff_forall_not_mem]
        intro i hi
        obtain ⟨h1, h2, _⟩ := ready_spec.1 hi
        have := hall i h1
        simp only [Array.getD_eq_getD_getElem?] at this h2
        rw [Array.getElem?_eq_getElem (by rw [hsz]; exact h1)] at this h2
        simp at this h2
        rw [this] at h2; simp at h2
      · by_cases he : g1.ρ x = g.ρ x
        · exact he
        · obtain ⟨k, k1, _, k3⟩ := hrho x he
          exact absurd k3 (hx k k1)
    | succ fuel ih =>
      intro listed a1 w1 g1 hsz hcl hcnt hE1 hfr1 hr1 hf1 hdf hrho hns
      have hun : ∀ j, j < n → listed.getD j true = listed.getD j false := by
        intro j hj
        simp only [Array.getD_eq_getD_getElem?]
        rw [Array.getElem?_eq_getElem (by rw [hsz]; exact hj)]; rfl
      refine ⟨fun hr => ?_, fun i hi => ?_⟩
      · exfalso
        have hne : (List.range' 0 n).filter (fun j => !listed.getD j false) ≠ [] := by intro he; rw [he] at hcnt; simp at hcnt
        obtain ⟨i0, hi0⟩ := List.exists_mem_of_ne_nil _ hne
        have hex : ∃ i, i < n ∧ listed.getD i false = false := ⟨i0, by simp [List.mem_range'_1] at hi0; exact hi0.1, by simp at hi0; simpa using hi0.2⟩
        have : ∀ m, (∃ i, i ≤ m ∧ i < n ∧ listed.getD i false = false) → ∃ i, i < n ∧ listed.getD i false = false ∧ ∀ j, j < i → listed.getD j false = true := by
          intro m
          induction m with
          | zero => rintro ⟨i, h1, h2, h3⟩; exact ⟨i, h2, h3, fun j hj => by omega⟩
          | succ m ihm =>
            rintro ⟨i, h1, h2, h3⟩
            by_cases hj : ∃ j, j < i ∧ listed.getD j false = false
            · obtain ⟨j, hj1, hj2⟩ := hj
              exact ihm ⟨j, by omega, by omega, hj2⟩
            · exact ⟨i, h2, h3, fun j hj' => by
                cases hq : listed.getD j false with
                | true => rfl
                | false => exact absurd ⟨j, hj', hq⟩ hj⟩
        obtain ⟨i, hi1, hi2⟩ := hex
        obtain ⟨k, k1, k2, k3⟩ := this i ⟨i, Nat.le_refl _, hi1, hi2⟩
        have : k ∈ Region.ready .any ops listed := ready_spec.2 ⟨k1, by rw [hun k k1]; exact k2, fun j hj => k3 j ((hd k k1).1 j hj)⟩
        rw [hr] at this
        simp at this
      · obtain ⟨hi1, hi2, hi3⟩ := ready_spec.1 hi
        rw [hun i hi1] at hi2
        by_cases hSi : S i
        · obtain ⟨hlast, hall, hgo⟩ := hstop i hi1 hSi
          have hli : ∀ j, j < i → listed.getD j false = true := fun j hj => anc_direct (S := fun j => listed.getD j false = true) hcl n i hi3 j (hall j hj)
          have hst : stP U (List.range' 0 n) (fun j => listed.getD j false) s0 = stP U (List.range' 0 i) (fun _ => true) s0 := by
            unfold stP
            have : (List.range' 0 n).filter (fun j => listed.getD j false) = (List.range' 0 i).filter (fun _ => true) := by
              rw [List.filter_eq_self.2 (fun _ _ => rfl), ← range_filter_lt i n (Nat.le_of_lt hi1)]
              refine List.filter_congr fun x hx => ?_
              have hxn : x < n := by simp [List.mem_range'_1] at hx; exact hx
              by_cases hxi : x < i
              · simp only [hli x hxi, hxi, decide_true]
              · have : x = i := by omega
                subst this
                simp only [hi2, Nat.lt_irrefl, decide_false]
            rw [this]
          rw [hst] at hfr1 hr1 hf1
          refine hgo g1 a1 w1 _ hE1 hfr1 hr1 hf1 hdf (fun x hx => ?_)
          obtain ⟨k, k1, k2, k3⟩ := hrho x hx
          refine ⟨k, ?_, k3⟩
          by_cases hk : k = i
          · subst hk; rw [hi2] at k2; simp at k2
          · omega
        obtain ⟨hdst, hs⟩ := hstep i hi1 hSi
        have hoi : ops[i]? = some ops[i] := Array.getElem?_eq_getElem hi1
        have hearly : ∀ j, j < i → listed.getD j false = false → Ind ops U need j i := by
          intro j hj hl
          rcases (hd i hi1).2 j hj with hc | hc
          · have := anc_direct (S := fun j => listed.getD j false = true) hcl n i hi3 j hc
            rw [hl] at this; simp at this
          · exact hc
        have hlate : ∀ j, i < j → j < n → listed.getD j false = true → Ind ops U need i j := by
          intro j hj hjn hl
          rcases (hd j hjn).2 i hj with hc | hc
          · have := anc_closed (S := fun j => listed.getD j false = true) hcl n j hl i hc
            rw [hi2] at this; simp at this
          · exact hc
        have hst0 : stP U (List.range' 0 i) (fun _ => true) s0 = stP U (List.range' 0 n) (fun j => decide (j < i)) s0 := by
          unfold stP
          rw [range_filter_lt i n (Nat.le_of_lt hi1)]
          congr 1
          exact List.filter_eq_self.2 (fun _ _ => rfl)
        have hT : ∀ t ∈ (ops[i]).looksAt ops, (stP U (List.range' 0 n) (fun j => listed.getD j false) s0).T t = (stP U (List.range' 0 i) (fun _ => true) s0).T t := by
          intro t htr
          rw [hst0]
          refine stP_T U t _ _ _ _ _ rfl (fun j hj htch => ?_)
          have hjn : j < n := by simp [List.mem_range'_1] at hj; exact hj
          rcases Nat.lt_trichotomy j i with hlt | heq | hgt
          · cases hl : listed.getD j false with
            | true => simp [hlt]
            | false => exact absurd htr ((hearly j hlt hl).s1 t htch _ hoi)
          · subst heq; simp [hi2]
          · cases hl : listed.getD j false with
            | false => simp; omega
            | true => exact absurd htr ((hlate j hgt hjn hl).s2 t htch _ hoi)
        have hB : ∀ x, need i x → (stP U (List.range' 0 n) (fun j => listed.getD j false) s0).F x = (stP U (List.range' 0 i) (fun _ => true) s0).F x := by
          intro x hx
          rw [hst0]
          refine stP_F U x _ _ _ _ _ rfl (fun j hj htch => ?_)
          have hjn : j < n := by simp [List.mem_range'_1] at hj; exact hj
          rcases Nat.lt_trichotomy j i with hlt | heq | hgt
          · cases hl : listed.getD j false with
            | true => simp [hlt]
            | false =>
              have := (hearly j hlt hl).n1 x hx
              rw [htch] at this; simp at this
          · subst heq; simp [hi2]
          · cases hl : listed.getD j false with
            | false => simp; omega
            | true =>
              have := (hlate j hgt hjn hl).n2 x hx
              rw [htch] at this; simp at this
        have hset : ∀ j, (listed.setIfInBounds i true).getD j false = if j = i then true else listed.getD j false := fun j => getD_set listed i j (by rw [hsz]; exact hi1) false
        have hpi : (listed.setIfInBounds i true).getD i false = true := by rw [hset]; simp
        have hnext : (stP U (List.range' 0 n) (fun j => listed.getD j false) s0).app (U i) = stP U (List.range' 0 n) (fun j => (listed.setIfInBounds i true).getD j false) s0 := by
          refine DS.ext' (fun t => ?_) (fun x => ?_)
          · show (if (U i).dst = some t then some (U i).v else _) = _
            by_cases hl : (U i).dst = some t
            · have e := stP_T U t (fun j => (listed.setIfInBounds i true).getD j false) (fun j => (listed.setIfInBounds i true).getD j false && decide (j ≤ i)) (List.range' 0 n) s0 s0 rfl (fun j hj htch => by
                have hjn : j < n := by simp [List.mem_range'_1] at hj; exact hj
                by_cases hle : j ≤ i
                · simp [hle]
                · cases hlj : (listed.setIfInBounds i true).getD j false with
                  | false => simp
                  | true =>
                    rw [hset, if_neg (by omega)] at hlj
                    exact absurd htch ((hlate j (by omega) hjn hlj).s3 t hl))
              rw [e, stP_upto U _ i n hi1 hpi, if_pos hl]
              show _ = if (U i).dst = some t then some (U i).v else _
              rw [if_pos hl]
            · rw [if_neg hl]
              refine stP_T U t _ _ _ _ _ rfl (fun j hj htch => ?_)
              rw [hset]
              split
              · rename_i he; subst he; exact absurd htch hl
              · rfl
          · show (if (U i).D x = true then (U i).H x else _) = _
            by_cases hl : (U i).D x = true
            · have e := stP_F U x (fun j => (listed.setIfInBounds i true).getD j false) (fun j => (listed.setIfInBounds i true).getD j false && decide (j ≤ i)) (List.range' 0 n) s0 s0 rfl (fun j hj htch => by
                have hjn : j < n := by simp [List.mem_range'_1] at hj; exact hj
                by_cases hle : j ≤ i
                · simp [hle]
                · cases hlj : (listed.setIfInBounds i true).getD j false with
                  | false => simp
                  | true =>
                    rw [hset, if_neg (by omega)] at hlj
                    have := (hlate j (by omega) hjn hlj).d x hl
                    rw [htch] at this; simp at this)
              rw [e, stP_upto U _ i n hi1 hpi, if_pos hl]
              show _ = if (U i).D x = true then (U i).H x else _
              rw [if_pos hl]
            · rw [if_neg hl]
              refine stP_F U x _ _ _ _ _ rfl (fun j hj htch => ?_)
              rw [hset]
              split
              · rename_i he; subst he; exact absurd htch hl
              · rfl
        have hcl' : ∀ j, (listed.setIfInBounds i true).getD j false = true → ∀ k ∈ direct ops j, (listed.setIfInBounds i true).getD k false = true := by
          intro j hj k hk
          rw [hset] at hj ⊢
          split
          · rfl
          · split at hj
            · rename_i he; subst he; exact hi3 k hk
            · exact hcl j hj k hk
        have hcnt' : ((List.range' 0 n).filter (fun j => !(listed.setIfInBounds i true).getD j false)).length = fuel := by
          have h1 : (List.range' 0 n).filter (fun j => !(listed.setIfInBounds i true).getD j false) = ((List.range' 0 n).filter (fun j => !listed.getD j false)).erase i := by
            have hnd : ((List.range' 0 n).filter (fun j => !listed.getD j false)).Nodup := List.Pairwise.filter _ List.nodup_range'
            rw [hnd.erase_eq_filter, List.filter_filter]
            refine List.filter_congr fun x hx => ?_
            rw [hset]
            by_cases hxi : x = i <;> simp [hxi]
          rw [h1, List.length_erase_of_mem (List.mem_filter.2 ⟨by simp [List.mem_range'_1]; exact hi1, by rw [hi2]; rfl⟩), hcnt]
          rfl
        have hfresh : ∀ x, frp i x → g1.ρ x = none := by
          intro x hx
          by_cases he : g1.ρ x = g.ρ x
          · rw [he]; exact hnew i hi1 x hx
          · obtain ⟨k, k1, k2, k3⟩ := hrho x he
            have hne : i ≠ k := fun e => by subst e; rw [hi2] at k2; simp at k2
            have := anc_closed (S := fun j => listed.getD j false = true) hcl n k k2 i (hfp i k hi1 k1 hne x hx k3)
            rw [hi2] at this; simp at this
        refine hs m g1 _ _ a1 w1 (wpAnyIn (fro ro) m E.P .any ops Q fuel (listed.setIfInBounds i true)) Q hE1 hfr1 hr1 hT hB hfresh (fun r w' g' q1 q2 q3 q4 => ?_)
        rw [← hdst] at q1 ⊢
        have e1 : putT (stP U (List.range' 0 n) (fun j => listed.getD j false) s0).T (U i).dst (U i).v = (stP U (List.range' 0 n) (fun j => (listed.setIfInBounds i true).getD j false) s0).T := by rw [← hnext]; rfl
        have e2 : mixF (U i).D (U i).H (stP U (List.range' 0 n) (fun j => listed.getD j false) s0).F = (stP U (List.range' 0 n) (fun j => (listed.setIfInBounds i true).getD j false) s0).F := by rw [← hnext]; rfl
        rw [e1] at q1
        rw [e2] at q2 q3
        refine ih (listed.setIfInBounds i true) _ w' g' (by simpa using hsz) hcl' hcnt' (hE1.mono q3.le) q1 q2 (hf1.trans q3) (by rw [put_defers]; exact hdf) (fun x hx => ?_) ?_
        · by_cases hn : newp i x
          · exact ⟨i, hi1, hpi, hn⟩
          rw [q4 x hn] at hx
          obtain ⟨k, k1, k2, k3⟩ := hrho x hx
          refine ⟨k, k1, ?_, k3⟩
          rw [hset]
          split
          · rfl
          · exact k2
        · intro j hj
          rw [hset] at hj
          split at hj
          · rename_i e; subst e; exact hSi
          · exact hns j hj
  refine wpIn_region_any (F := fro ro) hmix (key ops.size _ a _ g (by simp [n]) ?_ ?_ hE ?_ ?_ ?_ rfl (fun x hx => absurd rfl hx) ?_)
  · intro j hj
    simp [Array.getD_eq_getD_getElem?, Array.getElem?_replicate] at hj
    split at hj <;> simp at hj
  · have : (List.range' 0 n).filter (fun j => !(Array.replicate ops.size false).getD j false) = List.range' 0 n := List.filter_eq_self.2 fun x hx => by
      simp [Array.getD_eq_getD_getElem?, Array.getElem?_replicate]
      split <;> simp
    rw [this]; simp [n]
  rotate_left 3
  · intro j hj
    simp [Array.getD_eq_getD_getElem?, Array.getElem?_replicate] at hj
    split at hj <;> simp at hj
  all_goals
    have hs0 : stP U (List.range' 0 n) (fun j => (Array.replicate ops.size false).getD j false) s0 = s0 := by
      unfold stP
      have : (List.range' 0 n).filter (fun j => (Array.replicate ops.size false).getD j false) = [] := List.filter_eq_nil_iff.2 fun x hx => by
        simp [Array.getD_eq_getD_getElem?, Array.getElem?_replicate]
        split <;> simp
      rw [this]; rfl
    rw [hs0]
  · exact hfr
  · exact hr.heap_eq rfl
  · exact Fr.heap_eq rfl rfl rfl rfl

end Go.Sim
