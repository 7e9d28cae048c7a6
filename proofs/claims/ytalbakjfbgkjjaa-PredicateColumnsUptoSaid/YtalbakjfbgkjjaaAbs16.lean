import Derived.Test.YtalbakjfbgkjjaaAbs15
set_option linter.unusedSimpArgs false
namespace Go.Abs
open Go.RowKit

variable {P : Program} {ann : FuncId → Ann} {A : Ann} {g : Gh} {st : AS} {a : Act} {w : World}

theorem range_filter_lt (i n : Nat) (h : i ≤ n) : (List.range' 0 n).filter (fun j => decide (j < i)) = List.range' 0 i := by
  obtain ⟨m, rfl⟩ := Nat.exists_eq_add_of_le h
  rw [← List.range'_append_1, List.filter_append]
  have h1 : (List.range' 0 i).filter (fun j => decide (j < i)) = List.range' 0 i := List.filter_eq_self.2 fun x hx => by simp [List.mem_range'_1] at hx; simpa using hx
  have h2 : (List.range' (0 + i) m).filter (fun j => decide (j < i)) = [] := List.filter_eq_nil_iff.2 fun x hx => by simp [List.mem_range'_1] at hx; simp; omega
  rw [h1, h2]; simp

theorem stP_upto (us : Nat → Ups) (p : Nat → Bool) (i n : Nat) (h : i < n) (hp : p i = true) (st : AS) : stP us (List.range' 0 n) (fun j => p j && decide (j ≤ i)) st = (stP us (List.range' 0 i) p st).apply (us i) := by
  obtain ⟨m, rfl⟩ := Nat.exists_eq_add_of_lt h
  have e : List.range' 0 (i + m + 1) = List.range' 0 i ++ (i :: List.range' (i + 1) m) := by
    rw [show i + m + 1 = i + (m + 1) from by omega, ← List.range'_append_1]
    simp [List.range'_succ]
  unfold stP
  rw [e, List.filter_append, List.filter_cons]
  have h1 : (List.range' 0 i).filter (fun j => p j && decide (j ≤ i)) = (List.range' 0 i).filter p := List.filter_congr fun x hx => by simp [List.mem_range'_1] at hx; simp; omega
  have h2 : (List.range' (i + 1) m).filter (fun j => p j && decide (j ≤ i)) = [] := List.filter_eq_nil_iff.2 fun x hx => by simp [List.mem_range'_1] at hx; simp; omega
  rw [h1, h2]
  simp [hp]

theorem getD_set (l : Array Bool) (i j : Nat) (h : i < l.size) (d : Bool) : (l.setIfInBounds i true).getD j d = if j = i then true else l.getD j d := by
  simp only [Array.getD_eq_getD_getElem?, Array.getElem?_setIfInBounds]
  by_cases hj : j = i
  · subst hj; simp [h]
  · simp [hj, Ne.symm hj]

theorem draw_sound {ops : Array Oper} {us : List Ups} {st' : AS} (ht : Trace P ann A ops ops.toList us st st') (hok : okDraw ann A ops = true) (hmix : P.follows .mixedOrders = true) {id : Nat} {Q : Exit → Act → World → Prop}
    (h : Rel P A g st a w) (hq : ∀ a' w' g', Rel P A g' st' a' w' → Fr w g w' g' → Q .normal a' w') : (Code.region id ops true).wp P Q a w := by
  obtain ⟨t1, t2, t3⟩ := trace_steps ops.toList us 0 st st' ht
  simp only [Nat.sub_zero, Array.length_toList] at t2 t3
  let U : Nat → Ups := fun i => us.getD i {}
  let n := ops.size
  have hstep : ∀ i (hi : i < n), SemStep P A ops ops[i] (maskT (rtOf ops ops[i]) (stP U (List.range' 0 i) (fun _ => true) st)) (maskB (rbOf A ops[i]) (stP U (List.range' 0 i) (fun _ => true) st)) (U i) ∧ fitsB ann A ops[i] (U i) = true := by
    intro i hi
    exact t2 i ops[i] (by simp [hi])
  have hd : ∀ j, j < n → (∀ i ∈ direct ops j, i < j) ∧ ∀ i, i < j → i ∈ anc ops n j ∨ indep ann A ops (ops.getD i default) (ops.getD j default) = true := by
    intro j hj
    simp only [okDraw, List.all_eq_true, List.mem_range, Bool.and_eq_true, Bool.or_eq_true] at hok
    obtain ⟨h1, h2⟩ := hok j hj
    exact ⟨fun i hi => by simpa using h1 i hi, fun i hi => by have := h2 i hi; simpa using this⟩
  have hget : ∀ j (hj : j < n), ops.getD j default = ops[j] := fun j hj => by rw [Array.getD_eq_getD_getElem?, Array.getElem?_eq_getElem hj]; rfl
  have key : ∀ (fuel : Nat) (listed : Array Bool) (a1 : Act) (w1 : World) (g1 : Gh), listed.size = n → (∀ j, listed.getD j false = true → ∀ i ∈ direct ops j, listed.getD i false = true) →
      ((List.range' 0 n).filter (fun j => !listed.getD j false)).length = fuel → Rel P A g1 (stP U (List.range' 0 n) (fun j => listed.getD j false) st) a1 w1 → Fr w g w1 g1 → wpAny P .any ops Q fuel listed a1 w1 := by
    intro fuel
    induction fuel with
    | zero =>
      intro listed a1 w1 g1 hsz hcl hcnt hrel hfr
      have hall : ∀ j, j < n → listed.getD j false = true := by
        intro j hj
        have := List.filter_eq_nil_iff.1 (List.eq_nil_of_length_eq_zero hcnt) j (by simp [List.mem_range'_1]; exact hj)
        simpa using this
      refine ⟨?_, ?_⟩
      · rw [List.eq_nil_iff_forall_not_mem]
        intro i hi
        obtain ⟨h1, h2, _⟩ := ready_spec.1 hi
        have := hall i h1
        simp only [Array.getD_eq_getD_getElem?] at this h2
        rw [Array.getElem?_eq_getElem (by rw [hsz]; exact h1)] at this h2
        simp at this h2
        rw [this] at h2; simp at h2
      · refine hq a1 w1 g1 ?_ hfr
        rw [t3]
        have : stP (fun i => us.getD i {}) (List.range' 0 n) (fun _ => true) st = stP U (List.range' 0 n) (fun j => listed.getD j false) st := by
          unfold stP
          congr 1
          exact List.filter_congr fun x hx => by simp [List.mem_range'_1] at hx; simpa using (hall x hx).symm
        show Rel P A g1 (stP (fun i => us.getD i {}) (List.range' 0 n) (fun _ => true) st) a1 w1
        rw [this]; exact hrel
    | succ fuel ih =>
      intro listed a1 w1 g1 hsz hcl hcnt hrel hfr
      have hun : ∀ j, j < n → listed.getD j true = listed.getD j false := by
        intro j hj
        simp only [Array.getD_eq_getD_getElem?]
        rw [Array.getElem?_eq_getElem (by rw [hsz]; exact hj)]; rfl
      refine ⟨fun hr => ?_, fun i hi => ?_⟩
      · exfalso
        -- the least that is not listed is ready
        have hne : (List.range' 0 n).filter (fun j => !listed.getD j false) ≠ [] := by intro he; rw [he] at hcnt; simp at hcnt
        obtain ⟨i0, hi0⟩ := List.exists_mem_of_ne_nil _ hne
        have hex : ∃ i, i < n ∧ listed.getD i false = false := ⟨i0, by simp [List.mem_range'_1] at hi0; exact hi0.1, by simp at hi0; simpa using hi0.2⟩
        have : ∀ m, (∃ i, i ≤ m ∧ i < n ∧ listed.getD i false = false) → ∃ i, i < n ∧ listed.getD i false = false ∧ ∀ j, j < i → listed.getD j false = true := by
          intro m
          induction m with
          | zero => rintro ⟨i, h1, h2, h3⟩; exact ⟨i, h2, h3, fun j hj => by omega⟩
          | succ m ihm =>
            rintro ⟨i, h1, h2, h3⟩
            by_cases hj : ∃ j, j < i ∧ listed.getD j false = false
            · obtain ⟨j, hj1, hj2⟩ := hj
              exact ihm ⟨j, by omega, by omega, hj2⟩
            · exact ⟨i, h2, h3, fun j hj' => by
                cases hq : listed.getD j false with
                | true => rfl
                | false => exact absurd ⟨j, hj', hq⟩ hj⟩
        obtain ⟨i, hi1, hi2⟩ := hex
        obtain ⟨k, k1, k2, k3⟩ := this i ⟨i, Nat.le_refl _, hi1, hi2⟩
        have : k ∈ Region.ready .any ops listed := ready_spec.2 ⟨k1, by rw [hun k k1]; exact k2, fun j hj => k3 j ((hd k k1).1 j hj)⟩
        rw [hr] at this
        simp at this
      · obtain ⟨hi1, hi2, hi3⟩ := ready_spec.1 hi
        rw [hun i hi1] at hi2
        obtain ⟨hs, hf⟩ := hstep i hi1
        -- who may touch what operation i looks at
        have hearly : ∀ j, j < i → listed.getD j false = false → indep ann A ops ops[j]! ops[i]! = true := by
          intro j hj hl
          have hjn : j < n := by omega
          rcases (hd i hi1).2 j hj with hc | hc
          · have := anc_direct (S := fun j => listed.getD j false = true) hcl n i hi3 j hc
            rw [hl] at this; simp at this
          · rw [hget j hjn, hget i hi1] at hc
            rw [getElem!_pos ops j hjn, getElem!_pos ops i hi1]; exact hc
        have hlate : ∀ j, i < j → j < n → listed.getD j false = true → indep ann A ops ops[i]! ops[j]! = true := by
          intro j hj hjn hl
          rcases (hd j hjn).2 i hj with hc | hc
          · have := anc_closed (S := fun j => listed.getD j false = true) hcl n j hl i hc
            rw [hi2] at this; simp at this
          · rw [hget j hjn, hget i hi1] at hc
            rw [getElem!_pos ops j hjn, getElem!_pos ops i hi1]; exact hc
        have hoi : ops[i]! = ops[i] := getElem!_pos ops i hi1
        have hst0 : stP U (List.range' 0 i) (fun _ => true) st = stP U (List.range' 0 n) (fun j => decide (j < i)) st := by
          unfold stP
          rw [range_filter_lt i n (Nat.le_of_lt hi1)]
          congr 1
          exact List.filter_eq_self.2 (fun _ _ => rfl)
        have hT : maskT (rtOf ops ops[i]) (stP U (List.range' 0 n) (fun j => listed.getD j false) st) = maskT (rtOf ops ops[i]) (stP U (List.range' 0 i) (fun _ => true) st) := by
          rw [hst0]
          funext t
          unfold maskT
          split
          · rename_i htr
            refine stP_tmps U t _ _ _ _ _ rfl (fun j hj htch => ?_)
            have hjn : j < n := by simp [List.mem_range'_1] at hj; exact hj
            have hjw := keys_ts (hstep j hjn).2 htch
            have hoj : ops[j]! = ops[j] := getElem!_pos ops j hjn
            rcases Nat.lt_trichotomy j i with hlt | heq | hgt
            · cases hl : listed.getD j false with
              | true => simp [hlt]
              | false =>
                have hin := hearly j hlt hl
                simp only [indep, Bool.and_eq_true] at hin
                rw [hoj, hoi] at hin
                exact absurd htr (disj_spec hin.1.1.1.1.1 hjw)
            · subst heq; simp [hi2]
            · cases hl : listed.getD j false with
              | false => simp; omega
              | true =>
                have hin := hlate j hgt hjn hl
                simp only [indep, Bool.and_eq_true] at hin
                rw [hoj, hoi] at hin
                exact absurd htr (disj_spec hin.1.1.1.2 hjw)
          · rfl
        have hB : maskB (rbOf A ops[i]) (stP U (List.range' 0 n) (fun j => listed.getD j false) st) = maskB (rbOf A ops[i]) (stP U (List.range' 0 i) (fun _ => true) st) := by
          rw [hst0]
          funext t
          unfold maskB
          split
          · rename_i htr
            refine stP_box U t _ _ _ _ _ rfl (fun j hj htch => ?_)
            have hjn : j < n := by simp [List.mem_range'_1] at hj; exact hj
            have hjw := keys_bs (hstep j hjn).2 htch
            have hoj : ops[j]! = ops[j] := getElem!_pos ops j hjn
            rcases Nat.lt_trichotomy j i with hlt | heq | hgt
            · cases hl : listed.getD j false with
              | true => simp [hlt]
              | false =>
                have hin := hearly j hlt hl
                simp only [indep, Bool.and_eq_true] at hin
                rw [hoj, hoi] at hin
                exact absurd htr (disj_spec hin.1.1.2 hjw)
            · subst heq; simp [hi2]
            · cases hl : listed.getD j false with
              | false => simp; omega
              | true =>
                have hin := hlate j hgt hjn hl
                simp only [indep, Bool.and_eq_true] at hin
                rw [hoj, hoi] at hin
                exact absurd htr (disj_spec hin.2 hjw)
          · rfl
        have hset : ∀ j, (listed.setIfInBounds i true).getD j false = if j = i then true else listed.getD j false := fun j => getD_set listed i j (by rw [hsz]; exact hi1) false
        have hpi : (listed.setIfInBounds i true).getD i false = true := by rw [hset]; simp
        have hnext : (stP U (List.range' 0 n) (fun j => listed.getD j false) st).apply (U i) = stP U (List.range' 0 n) (fun j => (listed.setIfInBounds i true).getD j false) st := by
          refine AS.ext' (fun t => ?_) (fun t => ?_)
          · show ((U i).ts.lookup t).getD _ = _
            cases hl : (U i).ts.lookup t with
            | none =>
              refine stP_tmps U t _ _ _ _ _ rfl (fun j hj htch => ?_)
              rw [hset]
              split
              · rename_i he; subst he; rw [hl] at htch; simp at htch
              · rfl
            | some x =>
              have hiw := keys_ts hf (t := t) (by simp [hl])
              have e := stP_tmps U t (fun j => (listed.setIfInBounds i true).getD j false) (fun j => (listed.setIfInBounds i true).getD j false && decide (j ≤ i)) (List.range' 0 n) st st rfl (fun j hj htch => by
                have hjn : j < n := by simp [List.mem_range'_1] at hj; exact hj
                have hjw := keys_ts (hstep j hjn).2 htch
                have hoj : ops[j]! = ops[j] := getElem!_pos ops j hjn
                by_cases hle : j ≤ i
                · simp [hle]
                · cases hlj : (listed.setIfInBounds i true).getD j false with
                  | false => simp
                  | true =>
                    rw [hset, if_neg (by omega)] at hlj
                    have hin := hlate j (by omega) hjn hlj
                    simp only [indep, Bool.and_eq_true] at hin
                    rw [hoj, hoi] at hin
                    exact absurd hjw (disj_spec hin.1.1.1.1.2 hiw))
              rw [e, stP_upto U _ i n hi1 hpi]
              show _ = ((U i).ts.lookup t).getD _
              rw [hl]; rfl
          · show ((U i).bs.lookup t).or _ = _
            cases hl : (U i).bs.lookup t with
            | none =>
              simp only [Option.none_or]
              refine stP_box U t _ _ _ _ _ rfl (fun j hj htch => ?_)
              rw [hset]
              split
              · rename_i he; subst he; rw [hl] at htch; simp at htch
              · rfl
            | some x =>
              have hiw := keys_bs hf (t := t) (by simp [hl])
              have e := stP_box U t (fun j => (listed.setIfInBounds i true).getD j false) (fun j => (listed.setIfInBounds i true).getD j false && decide (j ≤ i)) (List.range' 0 n) st st rfl (fun j hj htch => by
                have hjn : j < n := by simp [List.mem_range'_1] at hj; exact hj
                have hjw := keys_bs (hstep j hjn).2 htch
                have hoj : ops[j]! = ops[j] := getElem!_pos ops j hjn
                by_cases hle : j ≤ i
                · simp [hle]
                · cases hlj : (listed.setIfInBounds i true).getD j false with
                  | false => simp
                  | true =>
                    rw [hset, if_neg (by omega)] at hlj
                    have hin := hlate j (by omega) hjn hlj
                    simp only [indep, Bool.and_eq_true] at hin
                    rw [hoj, hoi] at hin
                    exact absurd hjw (disj_spec hin.1.2 hiw))
              rw [e, stP_upto U _ i n hi1 hpi]
              show _ = ((U i).bs.lookup t).or _
              rw [hl]; rfl
        have hcl' : ∀ j, (listed.setIfInBounds i true).getD j false = true → ∀ k ∈ direct ops j, (listed.setIfInBounds i true).getD k false = true := by
          intro j hj k hk
          rw [hset] at hj ⊢
          split
          · rfl
          · split at hj
            · rename_i he; subst he; exact hi3 k hk
            · exact hcl j hj k hk
        have hcnt' : ((List.range' 0 n).filter (fun j => !(listed.setIfInBounds i true).getD j false)).length = fuel := by
          have h1 : (List.range' 0 n).filter (fun j => !(listed.setIfInBounds i true).getD j false) = ((List.range' 0 n).filter (fun j => !listed.getD j false)).erase i := by
            have hnd : ((List.range' 0 n).filter (fun j => !listed.getD j false)).Nodup := List.Pairwise.filter _ List.nodup_range'
            rw [hnd.erase_eq_filter, List.filter_filter]
            refine List.filter_congr fun x hx => ?_
            rw [hset]
            by_cases hxi : x = i <;> simp [hxi]
          rw [h1, List.length_erase_of_mem (List.mem_filter.2 ⟨by simp [List.mem_range'_1]; exact hi1, by rw [hi2]; rfl⟩), hcnt]
          rfl
        have hsem := hs g1 _ a1 w1 (wpAny P .any ops Q fuel (listed.setIfInBounds i true)) Q hrel hT hB (fun v w' g' hr hf' => ih (listed.setIfInBounds i true) _ w' g' (by simpa using hsz) hcl' hcnt' (by rw [← hnext]; exact hr) (hfr.trans hf'))
        unfold wpOp
        rw [Array.getElem?_eq_getElem hi1]
        simp only
        split
        · rename_i hw; rw [if_pos hw] at hsem; exact .inl hsem
        · rename_i hw; rw [if_neg hw] at hsem; exact hsem
  refine wp_region_any hmix (key ops.size _ a _ g (by simp [n]) ?_ ?_ ?_ (Fr.drew w g))
  · intro j hj
    simp [Array.getD_eq_getD_getElem?, Array.getElem?_replicate] at hj
    split at hj <;> simp at hj
  · have : (List.range' 0 n).filter (fun j => !(Array.replicate ops.size false).getD j false) = List.range' 0 n := List.filter_eq_self.2 fun x hx => by
      simp [Array.getD_eq_getD_getElem?, Array.getElem?_replicate]
      split <;> simp
    rw [this]; simp [n]
  · have : stP U (List.range' 0 n) (fun j => (Array.replicate ops.size false).getD j false) st = st := by
      unfold stP
      have : (List.range' 0 n).filter (fun j => (Array.replicate ops.size false).getD j false) = [] := List.filter_eq_nil_iff.2 fun x hx => by
        simp [Array.getD_eq_getD_getElem?, Array.getElem?_replicate]
        split <;> simp
      rw [this]; rfl
    rw [this]
    exact h.drew

end Go.Abs
