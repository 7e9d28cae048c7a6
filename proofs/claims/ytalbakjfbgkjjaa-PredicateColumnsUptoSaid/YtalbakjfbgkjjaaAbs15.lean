import Derived.Test.YtalbakjfbgkjjaaAbs14
import Derived.LoopN
set_option linter.unusedSimpArgs false
namespace Go.Abs
open Go.RowKit

variable {P : Program} {ann : FuncId → Ann} {A : Ann} {g : Gh} {st : AS} {a : Act} {w : World}

def SemOp (P : Program) (A : Ann) (o : Oper) (T : Nat → AV) (B : Nat → Option (List AV)) (u : Ups) : Prop :=
  ∀ (g : Gh) (st : AS) (a : Act) (w : World) (K : Act → World → Prop) (Q : Exit → Act → World → Prop), Rel P A g st a w → Sees T B st → (∀ p ∈ u.ts, p.1 < A.n) →
    (∀ v w' g', Rel P A g' (st.apply u) (a.put o.dst v) w' → Fr w g w' g' → K (a.put o.dst v) w') → o.wp P a w K Q

def SemStep (P : Program) (A : Ann) (all : Array Oper) (o : Oper) (T : Nat → AV) (B : Nat → Option (List AV)) (u : Ups) : Prop :=
  ∀ (g : Gh) (st : AS) (a : Act) (w : World) (K : Act → World → Prop) (Q : Exit → Act → World → Prop), Rel P A g st a w → maskT (rtOf all o) st = T → maskB (rbOf A o) st = B →
    (∀ v w' g', Rel P A g' (st.apply u) (a.put o.dst v) w' → Fr w g w' g' → K (a.put o.dst v) w') → if Region.wanted o (yielded all a.tmps) then o.wp P a w K Q else K (a.put o.dst undef) w

def SemCode (P : Program) (A : Ann) (c : Code) (st : AS) (e : AExit) (st' : AS) : Prop :=
  ∀ (g : Gh) (a : Act) (w : World) (Q : Exit → Act → World → Prop), Rel P A g st a w → (∀ a' w' g', Rel P A g' st' a' w' → Fr w g w' g' → Q e.toExit a' w') → c.wp P Q a w

def SemLoop (P : Program) (A : Ann) (c : Code) (st : AS) (e : AExit) (st' : AS) : Prop :=
  ∃ n, ∀ (g : Gh) (a : Act) (w : World) (Q : Exit → Act → World → Prop), Rel P A g st a w → (∀ a' w' g', Rel P A g' st' a' w' → Fr w g w' g' → Q e.toExit a' w') → Code.rounds P c Q n a w

/-- A row of steps. -/
def Trace (P : Program) (ann : FuncId → Ann) (A : Ann) (all : Array Oper) : List Oper → List Ups → AS → AS → Prop
  | [], [], st, st' => st' = st
  | o :: l, u :: us, st, st' => SemStep P A all o (maskT (rtOf all o) st) (maskB (rbOf A o) st) u ∧ fitsB ann A o u = true ∧ Trace P ann A all l us (st.apply u) st'
  | _, _, _, _ => False

theorem fits_lt {o : Oper} {u : Ups} (h : fitsB ann A o u = true) : ∀ p ∈ u.ts, p.1 < A.n := by
  intro p hp
  simp only [fitsB, Bool.and_eq_true, List.all_eq_true] at h
  have := h.1 p hp
  simpa using this.2

theorem yielded_eq {all : Array Oper} {j : Nat} {t : Nat} (a : Act) (hj : (all[j]?).bind (·.dst) = some t) : yielded all a.tmps j = match a.tmps.getD t undef with | .bool b => some b | _ => none := by
  simp only [yielded, hj, Option.bind_some, Array.getD_eq_getD_getElem?]
  cases a.tmps[t]? with
  | none => rfl
  | some v => simp only [Option.getD_some]; cases v <;> rfl

theorem wanted_eq (h : Rel P A g st a w) {all : Array Oper} {o : Oper} {b : Bool} (hw : wantedA all o (maskT (rtOf all o) st) = some b) : Region.wanted o (yielded all a.tmps) = b := by
  unfold wantedA at hw
  unfold Region.wanted
  split at hw
  · rename_i hg; rw [hg]; simp at hw; simp [hw]
  · rename_i j want hg
    rw [hg]
    simp only
    split at hw
    · rename_i hj
      simp at hw
      subst hw
      simp [yielded, hj]
    · rename_i t hj
      have htr := (sees_mask (rtOf all o) (rbOf A o) st).tr h t
      rw [yielded_eq a hj]
      split at hw
      · rename_i c hc
        rw [hc] at htr
        simp at hw
        subst hw
        generalize a.tmps.getD t undef = v at htr
        cases htr.1
        simp
      · rename_i vs hc
        rw [hc] at htr
        simp at hw
        subst hw
        generalize a.tmps.getD t undef = v at htr
        cases htr.1
        simp
      · simp at hw

theorem skip_rel (h : Rel P A g st a w) {o : Oper} (hf : fitsB ann A o (skipUps o.dst) = true) : Rel P A g (st.apply (skipUps o.dst)) (a.put o.dst undef) w := by
  cases hd : o.dst with
  | none => simp only [skipUps, Option.map_none, Option.toList_none]; exact (apply_none st).symm ▸ h
  | some d =>
    rw [hd] at hf
    have hlt := fits_lt hf (d, .tuple []) (by simp [skipUps])
    simp only [skipUps, Option.map_some, Option.toList_some]
    rw [apply_one]
    exact h.putAny hlt ⟨.tuple .nil, OwnOK.triv P (by simp)⟩ (by simp)

theorem upon_of_runs {o : Oper} {v : Value} {w' : World} {K : Act → World → Prop} {Q : Exit → Act → World → Prop} (hr : OpRuns P o a w v w') (hk : K (a.put o.dst v) w') : o.wp P a w K Q := by
  unfold Oper.wp
  rcases hr with hr | ⟨hr, hv⟩
  · rw [hr]; exact hk
  · rw [hr]; subst hv; exact hk

/-- One order, the text's. -/
theorem trace_list {all : Array Oper} {Q : Exit → Act → World → Prop} : ∀ (l : List Oper) (us : List Ups) (st st' : AS), Trace P ann A all l us st st' → ∀ (g : Gh) (a : Act) (w : World), Rel P A g st a w →
    (∀ a' w' g', Rel P A g' st' a' w' → Fr w g w' g' → Q .normal a' w') → wpList P all Q l a w
  | [], [], st, st', ht, g, a, w, h, hq => by
    have : st' = st := ht
    subst this
    exact hq a w g h (Fr.refl _ _)
  | o :: l, u :: us, st, st', ht, g, a, w, h, hq => by
    obtain ⟨h1, h2, h3⟩ := ht
    have := h1 g st a w (wpList P all Q l) Q h rfl rfl (fun v w' g' hr hf => trace_list l us _ _ h3 g' _ w' hr (fun a'' w'' g'' hr' hf' => hq a'' w'' g'' hr' (hf.trans hf')))
    simp only [wpList]
    split
    · rename_i hw; rw [if_pos hw] at this; exact .inl this
    · rename_i hw; rw [if_neg hw] at this; exact this
  | [], _ :: _, _, _, ht, _, _, _, _, _ => by simp [Trace] at ht
  | _ :: _, [], _, _, ht, _, _, _, _, _ => by simp [Trace] at ht

/-! ### every order -/

/-- The state when the operations of a set have been carried out, taken in the text's order. -/
def stP (us : Nat → Ups) (l : List Nat) (p : Nat → Bool) (st : AS) : AS := (l.filter p).foldl (fun s j => s.apply (us j)) st

theorem stP_tmps (us : Nat → Ups) (t : Nat) (p q : Nat → Bool) : ∀ (l : List Nat) (st st2 : AS), st.tmps t = st2.tmps t → (∀ j ∈ l, ((us j).ts.lookup t).isSome = true → p j = q j) → (stP us l p st).tmps t = (stP us l q st2).tmps t
  | [], st, st2, h, _ => h
  | j :: l, st, st2, h, hpq => by
    have hrest := fun s s2 hs => stP_tmps us t p q l s s2 hs (fun i hi => hpq i (List.mem_cons_of_mem _ hi))
    have happ : ∀ s : AS, (s.apply (us j)).tmps t = ((us j).ts.lookup t).getD (s.tmps t) := fun s => rfl
    unfold stP at hrest ⊢
    cases hl : (us j).ts.lookup t with
    | some x =>
      have := hpq j (by simp) (by simp [hl])
      cases hp : p j
      · rw [hp] at this
        simp only [List.filter_cons, hp, ← this]
        exact hrest st st2 h
      · rw [hp] at this
        simp only [List.filter_cons, hp, ← this, if_true, List.foldl_cons]
        exact hrest _ _ (by rw [happ, happ, hl]; rfl)
    | none =>
      have key : ∀ s : AS, (s.apply (us j)).tmps t = s.tmps t := fun s => by rw [happ, hl]; rfl
      cases hp : p j <;> cases hq : q j <;> simp only [List.filter_cons, hp, hq, if_true, List.foldl_cons, Bool.false_eq_true, if_false]
      · exact hrest _ _ h
      · exact hrest _ _ (by rw [key]; exact h)
      · exact hrest _ _ (by rw [key]; exact h)
      · exact hrest _ _ (by rw [key, key]; exact h)

theorem stP_box (us : Nat → Ups) (t : Nat) (p q : Nat → Bool) : ∀ (l : List Nat) (st st2 : AS), st.box t = st2.box t → (∀ j ∈ l, ((us j).bs.lookup t).isSome = true → p j = q j) → (stP us l p st).box t = (stP us l q st2).box t
  | [], st, st2, h, _ => h
  | j :: l, st, st2, h, hpq => by
    have hrest := fun s s2 hs => stP_box us t p q l s s2 hs (fun i hi => hpq i (List.mem_cons_of_mem _ hi))
    have happ : ∀ s : AS, (s.apply (us j)).box t = ((us j).bs.lookup t).or (s.box t) := fun s => rfl
    unfold stP at hrest ⊢
    cases hl : (us j).bs.lookup t with
    | some x =>
      have := hpq j (by simp) (by simp [hl])
      cases hp : p j
      · rw [hp] at this
        simp only [List.filter_cons, hp, ← this]
        exact hrest st st2 h
      · rw [hp] at this
        simp only [List.filter_cons, hp, ← this, if_true, List.foldl_cons]
        exact hrest _ _ (by rw [happ, happ, hl]; rfl)
    | none =>
      have key : ∀ s : AS, (s.apply (us j)).box t = s.box t := fun s => by rw [happ, hl]; simp
      cases hp : p j <;> cases hq : q j <;> simp only [List.filter_cons, hp, hq, if_true, List.foldl_cons, Bool.false_eq_true, if_false]
      · exact hrest _ _ h
      · exact hrest _ _ (by rw [key]; exact h)
      · exact hrest _ _ (by rw [key]; exact h)
      · exact hrest _ _ (by rw [key, key]; exact h)

theorem AS.ext' {s t : AS} (h1 : ∀ u, s.tmps u = t.tmps u) (h2 : ∀ k, s.box k = t.box k) : s = t := by
  cases s; cases t
  simp only [AS.mk.injEq]
  exact ⟨funext h1, funext h2⟩

/-- The steps of a trace, by their numbers. -/
theorem trace_steps {all : Array Oper} : ∀ (l : List Oper) (us : List Ups) (k : Nat) (st st' : AS), Trace P ann A all l us st st' → l.length = us.length ∧
    (∀ (j : Nat) (o : Oper), l[j]? = some o → SemStep P A all o (maskT (rtOf all o) (stP (fun i => us.getD (i - k) {}) (List.range' k j) (fun _ => true) st)) (maskB (rbOf A o) (stP (fun i => us.getD (i - k) {}) (List.range' k j) (fun _ => true) st)) (us.getD j {}) ∧ fitsB ann A o (us.getD j {}) = true) ∧
    st' = stP (fun i => us.getD (i - k) {}) (List.range' k l.length) (fun _ => true) st
  | [], [], k, st, st', ht => by
    have : st' = st := ht
    subst this
    exact ⟨rfl, by simp, by simp [stP]⟩
  | o :: l, u :: us, k, st, st', ht => by
    obtain ⟨h1, h2, h3⟩ := ht
    obtain ⟨i1, i2, i3⟩ := trace_steps l us (k + 1) _ _ h3
    have hst : ∀ j, stP (fun i => (u :: us).getD (i - k) {}) (List.range' k (j + 1)) (fun _ => true) st = stP (fun i => us.getD (i - (k + 1)) {}) (List.range' (k + 1) j) (fun _ => true) (st.apply u) := by
      intro j
      simp only [stP, List.range'_succ, List.filter_cons, if_true, List.foldl_cons, Nat.sub_self, List.getD_cons_zero]
      have : ∀ (m : List Nat), (∀ i ∈ m, k + 1 ≤ i) → ∀ s : AS, (m.filter (fun _ => true)).foldl (fun s i => s.apply ((u :: us).getD (i - k) {})) s = (m.filter (fun _ => true)).foldl (fun s i => s.apply (us.getD (i - (k + 1)) {})) s := by
        intro m
        induction m with
        | nil => intro _ s; rfl
        | cons i m ih =>
          intro hm s
          simp only [List.filter_cons, if_true, List.foldl_cons]
          have hi := hm i (by simp)
          have e : (u :: us).getD (i - k) {} = us.getD (i - (k + 1)) {} := by
            have : i - k = (i - (k + 1)) + 1 := by omega
            rw [this, List.getD_cons_succ]
          rw [e]
          exact ih (fun x hx => hm x (by simp [hx])) _
      exact this _ (fun i hi => by simp [List.mem_range'_1] at hi; omega) _
    refine ⟨by simp [i1], fun j o' ho => ?_, ?_⟩
    · cases j with
      | zero =>
        simp at ho; subst ho
        simp only [List.range'_zero, stP, List.filter_nil, List.foldl_nil, List.getD_cons_zero]
        exact ⟨h1, h2⟩
      | succ j =>
        simp at ho
        have := i2 j o' ho
        rw [hst, List.getD_cons_succ]
        exact this
    · rw [List.length_cons, hst]; exact i3
  | [], _ :: _, _, _, _, ht => by simp [Trace] at ht
  | _ :: _, [], _, _, _, ht => by simp [Trace] at ht

theorem disj_spec {l m : List Nat} (h : disj l m = true) {x : Nat} (hx : x ∈ l) : x ∉ m := by
  simp only [disj, List.all_eq_true] at h
  have := h x hx
  simpa using this

/-- What a set that is closed under the edges holds: with each operation all that it hangs on. -/
theorem anc_closed {ops : Array Oper} {S : Nat → Prop} (hS : ∀ j, S j → ∀ i ∈ direct ops j, S i) : ∀ (n j : Nat), S j → ∀ i ∈ anc ops n j, S i
  | 0, _, _, i, hi => by simp [anc] at hi
  | n + 1, j, hj, i, hi => by
    simp only [anc, List.mem_append, List.mem_flatMap] at hi
    rcases hi with hi | ⟨k, hk, hi⟩
    · exact hS j hj i hi
    · exact anc_closed hS n k (hS j hj k hk) i hi
theorem anc_direct {ops : Array Oper} {S : Nat → Prop} (hS : ∀ j, S j → ∀ i ∈ direct ops j, S i) : ∀ (n j : Nat), (∀ i ∈ direct ops j, S i) → ∀ i ∈ anc ops n j, S i
  | 0, _, _, i, hi => by simp [anc] at hi
  | n + 1, j, hj, i, hi => by
    simp only [anc, List.mem_append, List.mem_flatMap] at hi
    rcases hi with hi | ⟨k, hk, hi⟩
    · exact hj i hi
    · exact anc_closed hS n k (hj k hk) i hi

theorem keys_ts {o : Oper} {u : Ups} (h : fitsB ann A o u = true) {t : Nat} (ht : (u.ts.lookup t).isSome = true) : t ∈ wtOf ann A o := by
  obtain ⟨x, hx⟩ := Option.isSome_iff_exists.1 ht
  simp only [fitsB, Bool.and_eq_true, List.all_eq_true] at h
  have := h.1 _ (lookup_some_mem hx)
  simpa using this.1
theorem keys_bs {o : Oper} {u : Ups} (h : fitsB ann A o u = true) {t : Nat} (ht : (u.bs.lookup t).isSome = true) : t ∈ wbOf A o := by
  obtain ⟨x, hx⟩ := Option.isSome_iff_exists.1 ht
  simp only [fitsB, Bool.and_eq_true, List.all_eq_true] at h
  have := h.2 _ (lookup_some_mem hx)
  simpa using this

theorem ready_spec {ops : Array Oper} {listed : Array Bool} {i : Nat} : i ∈ Region.ready .any ops listed ↔ i < ops.size ∧ listed.getD i true = false ∧ ∀ j ∈ direct ops i, listed.getD j false = true := by
  unfold Region.ready
  simp only [List.mem_filter, List.mem_range, Bool.and_eq_true, Bool.not_eq_true']
  constructor
  · rintro ⟨h1, h2, h3⟩
    refine ⟨h1, h2, fun j hj => ?_⟩
    unfold direct at hj
    rw [Array.getElem?_eq_getElem h1] at hj h3
    simp only [Option.map_some, Option.getD_some, List.mem_map, List.mem_filter] at hj h3
    obtain ⟨e, ⟨he1, he2⟩, rfl⟩ := hj
    rw [Array.all_eq_true'] at h3
    have := h3 e (by simpa using he1)
    simpa [he2] using this
  · rintro ⟨h1, h2, h3⟩
    refine ⟨h1, h2, ?_⟩
    rw [Array.getElem?_eq_getElem h1]
    simp only [Option.map_some, Option.getD_some]
    rw [Array.all_eq_true']
    intro e he
    by_cases hb : Region.binds .any e = true
    · have := h3 e.on (by
        unfold direct
        rw [Array.getElem?_eq_getElem h1]
        simp only [Option.map_some, Option.getD_some, List.mem_map, List.mem_filter]
        exact ⟨e, ⟨by simpa using he, hb⟩, rfl⟩)
      simp [this]
    · simp [hb]

end Go.Abs
