import Derived.Test.YtalbakjfbgkjjaaAbs11
set_option linter.unusedSimpArgs false
namespace Go.Abs
open Go.RowKit

variable {P : Program} {A F : Ann} {g : Gh} {st : AS} {a : Act} {w : World} {T : Nat → AV} {B : Nat → Option (List AV)}

theorem filterMap_inj {α β : Type} (f : α → Option β) : ∀ (l : List α), (l.filterMap f).Nodup → ∀ (i j : Nat) (p q : α) (k : β), l[i]? = some p → l[j]? = some q → f p = some k → f q = some k → i = j
  | [], _, i, j, p, q, k, hp, _, _, _ => by simp at hp
  | x :: l, hn, i, j, p, q, k, hp, hq, hfp, hfq => by
    have mem : ∀ (m : Nat) (y : α), l[m]? = some y → f y = some k → k ∈ l.filterMap f := fun m y hy hf => List.mem_filterMap.2 ⟨y, List.mem_of_getElem? hy, hf⟩
    cases i with
    | zero =>
      simp at hp; subst hp
      cases j with
      | zero => rfl
      | succ j =>
        simp at hq
        rw [List.filterMap_cons, hfp] at hn
        exact absurd (mem j q hq hfq) (List.nodup_cons.1 hn).1
    | succ i =>
      simp at hp
      cases j with
      | zero =>
        simp at hq; subst hq
        rw [List.filterMap_cons, hfq] at hn
        exact absurd (mem i p hp hfp) (List.nodup_cons.1 hn).1
      | succ j =>
        simp at hq
        have hn' : (l.filterMap f).Nodup := by
          rw [List.filterMap_cons] at hn
          split at hn
          · exact hn
          · exact (List.nodup_cons.1 hn).2
        rw [filterMap_inj f l hn' i j p q k hp hq hfp hfq]

theorem kcal_some : ∀ (ps : List Pass) (vs : List Value) (i b : Nat) (y : Ent), kcal g i ps vs b = some y → ∃ (j : Nat) (p : Pass) (v : Value), ps[j]? = some p ∧ vs[j]? = some v ∧ p.block g v = some b ∧ p.entIn (i + j) = some y
  | [], vs, i, b, y, h => by simp [kcal] at h
  | p :: ps, [], i, b, y, h => by simp [kcal] at h
  | p :: ps, v :: vs, i, b, y, h => by
    simp only [kcal] at h
    split at h
    · rename_i hb; exact ⟨0, p, v, rfl, rfl, hb, by simpa using h⟩
    · obtain ⟨j, q, u, h1, h2, h3, h4⟩ := kcal_some ps vs (i + 1) b y h
      exact ⟨j + 1, q, u, by simpa using h1, by simpa using h2, h3, by rwa [show i + (j + 1) = i + 1 + j from by omega]⟩

theorem kcal_of : ∀ (ps : List Pass) (vs : List Value) (i b j : Nat) (p : Pass) (v : Value), ps[j]? = some p → vs[j]? = some v → p.block g v = some b →
    (∀ (j' : Nat) (p' : Pass) (v' : Value), ps[j']? = some p' → vs[j']? = some v' → p'.block g v' = some b → j' = j) → kcal g i ps vs b = p.entIn (i + j)
  | [], _, _, _, _, _, _, h, _, _, _ => by simp at h
  | _ :: _, [], _, _, _, _, _, _, h, _, _ => by simp at h
  | q :: ps, u :: vs, i, b, j, p, v, hp, hv, hb, hu => by
    simp only [kcal]
    split
    · rename_i hq
      have := hu 0 q u rfl rfl hq
      subst this
      simp at hp
      subst hp
      rfl
    · rename_i hq
      cases j with
      | zero => simp at hp hv; subst hp; subst hv; exact absurd hb hq
      | succ j =>
        simp at hp hv
        rw [kcal_of ps vs (i + 1) b j p v hp hv hb (fun j' p' v' h1 h2 h3 => by have := hu (j' + 1) p' v' (by simpa using h1) (by simpa using h2) h3; omega)]
        congr 1; omega

/-- What is passed belongs to its holder. -/
theorem PassR.owner (h : Rel P A g st a w) {i : Nat} {v : Value} {p : Pass} (hp : PassR P F g st a w i v p) {b : Nat} (hb : p.block g v = some b) : g.κ b = p.ent := by
  unfold Pass.block at hb
  unfold Pass.ent
  split at hb
  · rename_i k hs
    obtain ⟨cs, h1, h2, _⟩ := hp.box k hs
    rw [h2] at hb
    have hne : cs ≠ [] := fun e => by subst e; simp at hb
    have hb : g.ρ k = b := by
      cases cs with
      | nil => exact absurd rfl hne
      | cons c cs => simpa using hb
    subst hb
    exact (h.bx k cs h1).own hne
  · rename_i t hs
    obtain ⟨h3, e, rows, ⟨h1, h2⟩ | ⟨h1, h2⟩⟩ := hp.own t hs
    · have htr := h.tm t
      rw [h1] at htr
      rcases htr.2 e rows rfl with ⟨hv, _⟩ | ⟨b', cap, cur, hv, hk, _⟩
      · rw [h3, hv] at hb; simp [Value.ownBlock] at hb
      · rw [h3, hv] at hb; simp [Value.ownBlock] at hb; subst hb; exact hk
    · have htr := h.tm t
      rw [h1] at htr
      rcases (htr : ExOK P g w (.tmp t) (a.tmps.getD t undef) e rows) with ⟨hv, _⟩ | ⟨b', cap, cur, hv, hk, _⟩
      · rw [h3, hv] at hb; simp [Value.ownBlock] at hb
      · rw [h3, hv] at hb; simp [Value.ownBlock] at hb; subst hb; exact hk
  · simp at hb

/-- The slots and boxes that a call takes part of. -/
structure CallArgs (P : Program) (A F : Ann) (g : Gh) (st : AS) (a : Act) (w : World) (xs : List Operand) (ps : List Pass) : Prop where
  len : xs.length = ps.length
  each : ∀ (j : Nat) (x : Operand) (p : Pass), xs[j]? = some x → ps[j]? = some p → PassR P F g st a w j (a.eval x) p
  keys : (ps.filterMap Pass.key).Nodup
  tmps : (ps.filterMap Pass.tmp).Nodup

noncomputable def gcal (g : Gh) (a : Act) (xs : List Operand) (ps : List Pass) : Gh :=
  ⟨fun i => match ps[i]? with | some ⟨_, .box k⟩ => g.ρ k | _ => 0, kcal g 0 ps (xs.map a.eval), g.μ, ps.length⟩

variable {xs : List Operand} {ps : List Pass}

theorem CallArgs.uniq (h : Rel P A g st a w) (c : CallArgs P A F g st a w xs ps) {b j j' : Nat} {p p' : Pass} {v v' : Value} (h1 : ps[j]? = some p) (h2 : (xs.map a.eval)[j]? = some v) (h3 : p.block g v = some b)
    (h1' : ps[j']? = some p') (h2' : (xs.map a.eval)[j']? = some v') (h3' : p'.block g v' = some b) : j' = j := by
  have get : ∀ (j : Nat) (p : Pass) (v : Value), ps[j]? = some p → (xs.map a.eval)[j]? = some v → PassR P F g st a w j v p := by
    intro j p v hp hv
    rw [List.getElem?_map] at hv
    cases hx : xs[j]? with
    | none => simp [hx] at hv
    | some x => simp [hx] at hv; subst hv; exact c.each j x p hx hp
  have e1 := (get j p v h1 h2).owner h h3
  have e2 := (get j' p' v' h1' h2').owner h h3'
  rw [e1] at e2
  cases hs : p.src with
  | val => simp [Pass.block, hs] at h3
  | box k =>
    have : p'.src = .box k := by
      cases hs' : p'.src <;> simp [Pass.ent, hs, hs'] at e2
      · rw [e2]
    exact filterMap_inj Pass.key ps c.keys j' j p' p k h1' h1 (by simp [Pass.key, this]) (by simp [Pass.key, hs])
  | own t =>
    have : p'.src = .own t := by
      cases hs' : p'.src <;> simp [Pass.ent, hs, hs'] at e2
      · rw [e2]
    exact filterMap_inj Pass.tmp ps c.tmps j' j p' p t h1' h1 (by simp [Pass.tmp, this]) (by simp [Pass.tmp, hs])

theorem CallArgs.get (c : CallArgs P A F g st a w xs ps) {j : Nat} {p : Pass} (hp : ps[j]? = some p) : ∃ x, xs[j]? = some x ∧ (xs.map a.eval)[j]? = some (a.eval x) ∧ PassR P F g st a w j (a.eval x) p := by
  have hj : j < xs.length := by rw [c.len]; exact (List.getElem?_eq_some_iff.1 hp).1
  refine ⟨xs[j], by simp, by simp [hj], c.each j _ p (by simp) hp⟩

theorem CallArgs.kappa (h : Rel P A g st a w) (c : CallArgs P A F g st a w xs ps) {j : Nat} {p : Pass} (hp : ps[j]? = some p) {v : Value} (hv : (xs.map a.eval)[j]? = some v) {b : Nat} (hb : p.block g v = some b) : (gcal g a xs ps).κ b = p.entIn j := by
  have := kcal_of (g := g) ps (xs.map a.eval) 0 b j p v hp hv hb (fun j' p' v' h1 h2 h3 => c.uniq h hp hv hb h1 h2 h3)
  simpa [gcal] using this

/-- The callee begins in a state that fits. -/
theorem CallArgs.init (h : Rel P A g st a w) (c : CallArgs P A F g st a w xs ps) (hnp : F.np = ps.length) (hn : ps.length ≤ F.n) (hroot : ∀ (i : Nat) (cs : List AV), ((ps.map Pass.arg)[i]?).bind AV.pbox = some cs → F.root i = i) :
    Rel P F (gcal g a xs ps) (initAS (ps.map Pass.arg)) ⟨(xs.map a.eval).toArray ++ Array.replicate (F.n - (xs.map a.eval).toArray.size) undef, []⟩ w := by
  have hlen : (xs.map a.eval).length = ps.length := by simp [c.len]
  have hgρ : ∀ (k k' : Nat) (p : Pass), ps[k]? = some p → p.src = .box k' → (gcal g a xs ps).ρ k = g.ρ k' := by
    intro k k' p hq hs
    simp only [gcal]
    have : ps[k]? = some ⟨p.arg, .box k'⟩ := by rw [hq]; cases p; simp at hs; simp [hs]
    rw [this]
  refine ⟨by simp [c.len]; omega, rfl, fun t => ?_, fun t k he => ?_, fun k cs hk => ?_, h.mu, fun b y hy => ?_, hnp.symm, fun k cs j x k' hk hx hkey => ?_⟩
  · by_cases ht : t < ps.length
    · obtain ⟨x, hx, hv, hpr⟩ := c.get (j := t) (p := ps[t]) (by simp)
      have hreal : ((xs.map a.eval).toArray ++ Array.replicate (F.n - (xs.map a.eval).toArray.size) undef).getD t undef = a.eval x := by
        rw [Array.getD_eq_getD_getElem?, Array.getElem?_append_left (by simp [c.len]; exact ht)]
        rw [List.getElem?_toArray, hv]; rfl
      rw [hreal]
      have harg : (ps.map Pass.arg)[t]? = some (ps[t]).arg := by simp [ht]
      simp only [initAS, harg]
      cases hs : (ps[t]).src with
      | val =>
        rcases hpr.val hs with ⟨h1, h2, h3, h4⟩ | ⟨e, h1, h2⟩
        · have hsl : (ps[t]).arg.pslot t = (ps[t]).arg := by
            cases hq : (ps[t]).arg <;> first | rfl | (rw [hq] at h2; simp [AV.pbox] at h2)
          rw [hsl]
          refine TR.of P h3 h1 (fun e rows he' => .inl ?_)
          exact h4 e rows he'
        · rw [h1, h2]
          exact .inl ⟨rfl, rfl⟩
      | box k =>
        obtain ⟨cs, h1, h2, _, h3⟩ := hpr.box k hs
        have hρ := hgρ t k (ps[t]) (by simp) hs
        rcases h3 with ⟨e1, e2⟩ | ⟨e, lo, n, e1, e2⟩
        · rw [e1, e2]
          simp only [AV.pslot, TR]
          rw [hρ]
        · rw [e1]
          simp only [AV.pslot, TR]
          rcases e2 with q | ⟨cap, q1, q2⟩
          · exact .inl q
          · exact .inr ⟨cap, q1, by rw [hρ]; exact q2⟩
      | own t' =>
        obtain ⟨h3, e, rows, ⟨h1, h2⟩ | ⟨h1, h2⟩⟩ := hpr.own t' hs
        · rw [h2, h3]
          have htr := h.tm t'
          rw [h1] at htr
          refine ⟨htr.1, fun e' rows' he => ?_⟩
          have he : AV.slice (.own e) rows = .slice (.own e') rows' := he
          simp at he
          obtain ⟨rfl, rfl⟩ := he
          rcases htr.2 e rows rfl with hn | ⟨b, cap, cur, q1, q2, q3, q4, q5, q6, q7, q8⟩
          · exact .inl hn
          · refine .inr ⟨b, cap, cur, q1, ?_, q3, q4, q5, q6, q7, q8⟩
            have := c.kappa h (j := t) (p := ps[t]) (by simp) hv (b := b) (by simp only [Pass.block, hs]; rw [h3, q1]; rfl)
            rw [this]
            simp [Pass.entIn, hs]
        · rw [h2, h3]
          have htr := h.tm t'
          rw [h1] at htr
          rcases (htr : ExOK P g w (.tmp t') (a.tmps.getD t' undef) e rows) with hn | ⟨b, cap, cur, q1, q2, q3, q4, q5, q6, q7, q8, q9⟩
          · exact .inl hn
          · refine .inr ⟨b, cap, cur, q1, ?_, q3, q4, q5, q6, q7, q8, q9⟩
            have := c.kappa h (j := t) (p := ps[t]) (by simp) hv (b := b) (by simp only [Pass.block, hs]; rw [h3, q1]; rfl)
            rw [this]
            simp [Pass.entIn, hs]
    · have harg : (ps.map Pass.arg)[t]? = none := by simp; omega
      simp only [initAS, harg]
      have hreal : ((xs.map a.eval).toArray ++ Array.replicate (F.n - (xs.map a.eval).toArray.size) undef).getD t undef = undef := by
        rw [Array.getD_eq_getD_getElem?, Array.getElem?_append_right (by simp [c.len]; omega), Array.getElem?_replicate]
        split <;> rfl
      rw [hreal]
      exact ⟨.tuple .nil, OwnOK.triv P (by simp)⟩
  · simp only [initAS] at he
    split at he
    · rename_i y hc
      have hc' := hc
      rw [List.getElem?_map] at hc
      cases hq : ps[t]? with
      | none => simp [hq] at hc
      | some p =>
        simp [hq] at hc
        obtain ⟨x, hx, hv, hpr⟩ := c.get hq
        cases hs : p.src with
        | val =>
          rcases hpr.val hs with ⟨_, h2, h3, _⟩ | ⟨e, h1, _⟩
          · rw [hc] at h2 h3
            have hsl : y.pslot t = y := by cases y <;> first | rfl | simp [AV.pbox] at h2
            rw [hsl, key_none h3] at he
            simp at he
          · rw [← hc, h1] at he; simp [AV.pslot] at he
        | box k' =>
          obtain ⟨cs, _, h2, _, h3⟩ := hpr.box k' hs
          have hr := hroot t (cs.map AV.norm1) (by rw [hc']; simpa [← hc] using h2)
          rcases h3 with ⟨e1, _⟩ | ⟨e, lo, n, e1, _⟩
          · rw [← hc, e1] at he; simp [AV.pslot] at he; rw [hr]; exact he
          · rw [← hc, e1] at he; simp [AV.pslot] at he; rw [hr]; exact he
        | own t' => obtain ⟨_, e, rows, ⟨_, h2⟩ | ⟨_, h2⟩⟩ := hpr.own t' hs <;> (rw [← hc, h2] at he; simp [AV.pslot] at he)
    · simp at he
  · simp only [initAS] at hk
    rw [List.getElem?_map] at hk
    cases hq : ps[k]? with
    | none => simp [hq] at hk
    | some p =>
      simp [hq] at hk
      obtain ⟨x, hx, hv, hpr⟩ := c.get hq
      cases hs : p.src with
      | val =>
        rcases hpr.val hs with ⟨_, h2, _⟩ | ⟨e, h2, _⟩
        · rw [h2] at hk; simp at hk
        · rw [h2] at hk; simp [AV.pbox] at hk
      | own t' => obtain ⟨_, e, rows, ⟨_, h2⟩ | ⟨_, h2⟩⟩ := hpr.own t' hs <;> (rw [h2] at hk; simp [AV.pbox] at hk)
      | box k' =>
        obtain ⟨cs0, h1, h2, hkey, h3⟩ := hpr.box k' hs
        rw [h2] at hk
        simp at hk
        subst hk
        have hρ := hgρ k k' p hq hs
        refine ⟨fun hne => ?_, fun hne => ?_, fun hne o => ?_⟩
        · have hne0 : cs0 ≠ [] := fun e => by subst e; simp at hne
          rw [hρ, c.kappa h hq hv (b := g.ρ k') (by
            simp only [Pass.block, hs, h2]
            cases cs0 with
            | nil => exact absurd rfl hne0
            | cons c0 cs1 => rfl)]
          simp [Pass.entIn, hs]
        · have hne0 : cs0 ≠ [] := fun e => by subst e; simp at hne
          obtain ⟨cur, e, m1, m2, m3⟩ := (h.bx k' cs0 h1).mem hne0
          refine ⟨cur, e, by rw [hρ]; exact m1, by simpa using m2, fun j v y hv' hy => ?_⟩
          rw [List.getElem?_map] at hy
          cases hz : cs0[j]? with
          | none => simp [hz] at hy
          | some z =>
            simp [hz] at hy
            subst hy
            obtain ⟨r1, r2⟩ := m3 j v z hv' hz
            exact ⟨r1, CV.of P (r2.dr P (hkey j z hz)).1.norm1 (OwnOK.triv P (norm1_own z))⟩
        · have hne0 : cs0 ≠ [] := fun e => by subst e; simp at hne
          rw [hρ]; exact (h.bx k' cs0 h1).free hne0 o
  · obtain ⟨j, p, v, h1, h2, h3, h4⟩ := kcal_some ps (xs.map a.eval) 0 b y hy
    obtain ⟨x, hx, hv, hpr⟩ := c.get h1
    rw [h2] at hv
    obtain rfl : v = a.eval x := by simpa using hv
    have := hpr.owner h h3
    cases hent : p.ent with
    | none => cases hs : p.src <;> simp [Pass.ent, hs] at hent; simp [Pass.block, hs] at h3
    | some y' => rw [hent] at this; exact h.kl b y' this
  · exfalso
    simp only [initAS] at hk
    rw [List.getElem?_map] at hk
    cases hq : ps[k]? with
    | none => simp [hq] at hk
    | some p =>
      simp [hq] at hk
      obtain ⟨x0, hx0, hv, hpr⟩ := c.get hq
      cases hs : p.src with
      | val =>
        rcases hpr.val hs with ⟨_, h2, _⟩ | ⟨e, h2, _⟩
        · rw [h2] at hk; simp at hk
        · rw [h2] at hk; simp [AV.pbox] at hk
      | own t' => obtain ⟨_, e, rows, ⟨_, h2⟩ | ⟨_, h2⟩⟩ := hpr.own t' hs <;> (rw [h2] at hk; simp [AV.pbox] at hk)
      | box k0 =>
        obtain ⟨cs0, h1, h2, hkey0, h3⟩ := hpr.box k0 hs
        rw [h2] at hk
        simp at hk
        subst hk
        rw [List.getElem?_map] at hx
        cases hz : cs0[j]? with
        | none => simp [hz] at hx
        | some z =>
          simp [hz] at hx
          subst hx
          have hzk := hkey0 j z hz
          have : z.norm1.key = none := by cases z <;> first | rfl | simp at hzk
          rw [this] at hkey
          simp at hkey

theorem backs_lookup (outs : List (Nat × List AV)) : ∀ (ps : List Pass) (i : Nat) (l : List (Nat × List AV)), backs outs i ps = some l → ∀ k,
    (∀ cs, l.lookup k = some cs → ∃ j p, ps[j]? = some p ∧ p.src = .box k ∧ outs.lookup (i + j) = some cs) ∧ (l.lookup k = none → ∀ p ∈ ps, p.src ≠ .box k)
  | [], _, l, h, k => by simp [backs] at h; subst h; simp
  | p :: ps, i, l, h, k => by
    unfold backs at h
    split at h
    · simp at h
    · rename_i l' hl
      obtain ⟨ih1, ih2⟩ := backs_lookup outs ps (i + 1) l' hl k
      have shift : ∀ cs, l'.lookup k = some cs → ∃ (j : Nat) (q : Pass), (p :: ps)[j]? = some q ∧ q.src = .box k ∧ outs.lookup (i + j) = some cs := by
        intro cs hc
        obtain ⟨j, q, h1, h2, h3⟩ := ih1 cs hc
        exact ⟨j + 1, q, by simpa using h1, h2, by rwa [show i + (j + 1) = i + 1 + j from by omega]⟩
      split at h
      · rename_i k' hs
        split at h
        · rename_i cs' ho
          simp at h; subst h
          refine ⟨fun cs hc => ?_, fun hn q hq => ?_⟩
          · rw [lookup_cons_nat] at hc
            split at hc
            · rename_i he; subst he; simp at hc; subst hc; exact ⟨0, p, rfl, hs, by simpa using ho⟩
            · exact shift cs hc
          · rw [lookup_cons_nat] at hn
            split at hn
            · simp at hn
            · rename_i he
              rcases List.mem_cons.1 hq with rfl | hq
              · rw [hs]; simp; exact fun e => he e.symm
              · exact ih2 hn q hq
        · simp at h
      · rename_i hs
        simp at h; subst h
        refine ⟨shift, fun hn q hq => ?_⟩
        rcases List.mem_cons.1 hq with rfl | hq
        · exact fun he => hs k he
        · exact ih2 hn q hq

theorem lookup_some_mem {β : Type} {t : Nat} {x : β} : ∀ {l : List (Nat × β)}, l.lookup t = some x → (t, x) ∈ l
  | [], h => by simp at h
  | (u, y) :: l, h => by
    rw [lookup_cons_nat] at h
    split at h
    · rename_i e; subst e; simp at h; subst h; simp
    · exact List.mem_cons_of_mem _ (lookup_some_mem h)
theorem lookup_none_mem {β : Type} {t : Nat} : ∀ {l : List (Nat × β)}, l.lookup t = none → ∀ x, (t, x) ∉ l
  | [], _, x => by simp
  | (u, y) :: l, h, x => by
    rw [lookup_cons_nat] at h
    split at h
    · simp at h
    · rename_i e
      intro hm
      rcases List.mem_cons.1 hm with hm | hm
      · simp at hm; exact e hm.1
      · exact lookup_none_mem h x hm

def notTmp : Option Ent → Bool
  | some (.tmp _) => false
  | _ => true

/-- The caller's ghosts behind the call, the result aside. -/
def gback (g : Gh) (w : World) (gc g' : Gh) : Gh := ⟨g.ρ, fun b => if b < w.heap.size ∧ notTmp (gc.κ b) = true then g.κ b else none, g'.μ, g.np⟩

theorem CallArgs.back (h : Rel P A g st a w) (c : CallArgs P A F g st a w xs ps) {w' : World} {g' : Gh} {outs : List (Nat × List AV)} {l : List (Nat × List AV)} (hl : backs outs 0 ps = some l)
    (hfr : Fr w (gcal g a xs ps) w' g') (hmu : ∀ b o u, g'.μ b o = some u → w'.cell? ⟨b, o, none⟩ = some u) (houts : ∀ i cs, outs.lookup i = some cs → i < ps.length → BoxR P g' w' i cs ∧ noOwn cs ∧ noKeys cs) (hemp : EmptyOK (ps.map Pass.arg) outs) :
    Rel P A (gback g w (gcal g a xs ps) g') (st.apply ⟨ps.filterMap Pass.gives, l⟩) a w' ∧ Fr w g w' (gback g w (gcal g a xs ps) g') := by
  have hpassed : ∀ b y, (gcal g a xs ps).κ b = some y → ∃ (j : Nat) (p : Pass), ps[j]? = some p ∧ g.κ b = p.ent ∧ p.entIn j = some y := by
    intro b y hy
    obtain ⟨j, p, v, h1, h2, h3, h4⟩ := kcal_some ps (xs.map a.eval) 0 b y hy
    obtain ⟨x, hx, hv, hpr⟩ := c.get h1
    rw [h2] at hv
    obtain rfl : v = a.eval x := by simpa using hv
    exact ⟨j, p, h1, hpr.owner h h3, by simpa using h4⟩
  have hkeep : ∀ x, (∀ p ∈ ps, p.ent ≠ some x) → Keeps g w (gback g w (gcal g a xs ps) g') w' x := by
    intro x hx b hb
    have hlt := h.kl b x hb
    have hn : (gcal g a xs ps).κ b = none := by
      cases hy : (gcal g a xs ps).κ b with
      | none => rfl
      | some y =>
        obtain ⟨j, p, h1, h2, _⟩ := hpassed b y hy
        rw [hb] at h2
        exact absurd h2.symm (hx p (List.mem_of_getElem? h1))
    obtain ⟨q1, q2, q3⟩ := hfr.old b hlt hn
    refine ⟨?_, q1, fun o => q2 o⟩
    show (if _ then _ else _) = _
    rw [if_pos ⟨hlt, by rw [hn]; rfl⟩]
    exact hb
  have hgives : ∀ t, (ps.filterMap Pass.gives).lookup t = none → ∀ p ∈ ps, p.ent ≠ some (.tmp t) := by
    intro t hn p hp he
    obtain ⟨j, hj⟩ := List.mem_iff_getElem?.1 hp
    obtain ⟨x, hx, hv, hpr⟩ := c.get hj
    cases hs : p.src with
    | val => simp [Pass.ent, hs] at he
    | box k => simp [Pass.ent, hs] at he
    | own t' =>
      simp [Pass.ent, hs] at he
      subst he
      obtain ⟨h3, e, rows, ⟨h1, h2⟩ | ⟨h1, h2⟩⟩ := hpr.own t' hs
      · exact lookup_none_mem hn (.slice .sh rows) (List.mem_filterMap.2 ⟨p, hp, by simp [Pass.gives, hs, h2]⟩)
      · exact lookup_none_mem hn .undef (List.mem_filterMap.2 ⟨p, hp, by simp [Pass.gives, hs, h2]⟩)
  refine ⟨⟨h.sz, h.df, fun t => ?_, fun t k he => ?_, fun k cs hk => ?_, hmu, fun b x hx => ?_, h.np, fun k cs j x k' hk hx hkey => ?_⟩, ⟨hfr.os, hfr.tape, hfr.output, hfr.size, hfr.mu, fun b hb hn => ?_, rfl, fun _ _ => rfl⟩⟩
  · show TR P _ w' t _ (((ps.filterMap Pass.gives).lookup t).getD (st.tmps t))
    cases hlk : (ps.filterMap Pass.gives).lookup t with
    | none =>
      simp only [Option.getD_none]
      exact (h.tm t).keep P hfr.mu (fun _ _ => rfl) (hkeep _ (hgives t hlk))
    | some y =>
      simp only [Option.getD_some]
      obtain ⟨p, hp, hgv⟩ := List.mem_filterMap.1 (lookup_some_mem hlk)
      obtain ⟨j, hj⟩ := List.mem_iff_getElem?.1 hp
      obtain ⟨x, hx, hv, hpr⟩ := c.get hj
      cases hs : p.src with
      | val => simp [Pass.gives, hs] at hgv
      | box k => simp [Pass.gives, hs] at hgv
      | own t' =>
        obtain ⟨h3, e, rows, ⟨h1, h2⟩ | ⟨h1, h2⟩⟩ := hpr.own t' hs
        · simp [Pass.gives, hs, h2] at hgv
          obtain ⟨rfl, rfl⟩ := hgv
          have htr := h.tm t'
          rw [h1] at htr
          exact ⟨(htr.1.share).mono hfr.mu, OwnOK.triv P (by simp)⟩
        · simp [Pass.gives, hs, h2] at hgv
          obtain ⟨rfl, rfl⟩ := hgv
          exact TR.undef
  · change (((ps.filterMap Pass.gives).lookup t).getD (st.tmps t)).key = some k at he
    cases hlk : (ps.filterMap Pass.gives).lookup t with
    | none => rw [hlk] at he; exact h.rt t k he
    | some y =>
      rw [hlk] at he
      obtain ⟨p, hp, hgv⟩ := List.mem_filterMap.1 (lookup_some_mem hlk)
      simp at he
      unfold Pass.gives at hgv
      split at hgv
      · simp at hgv; rw [← hgv.2] at he; simp at he
      · simp at hgv; rw [← hgv.2] at he; simp at he
      · simp at hgv
  · change ((l.lookup k).or (st.box k)) = some cs at hk
    obtain ⟨b1, b2⟩ := backs_lookup outs ps 0 l hl k
    cases hlk : l.lookup k with
    | none =>
      rw [hlk] at hk
      simp at hk
      have hnot : ∀ p ∈ ps, p.ent ≠ some (.box k) := by
        intro p hp he
        cases hs : p.src with
        | val => simp [Pass.ent, hs] at he
        | own t => simp [Pass.ent, hs] at he
        | box k' => simp [Pass.ent, hs] at he; subst he; exact b2 hlk p hp hs
      refine (h.bx k cs hk).keep P hfr.mu rfl (fun _ _ _ _ _ => rfl) (hkeep _ hnot) (fun j => hkeep _ (fun p hp he => ?_))
      cases hs : p.src <;> simp [Pass.ent, hs] at he
    | some cs' =>
      rw [hlk] at hk
      simp at hk
      subst hk
      obtain ⟨j, p, h1, h2, h3⟩ := b1 cs' hlk
      simp only [Nat.zero_add] at h3
      have hj : j < ps.length := (List.getElem?_eq_some_iff.1 h1).1
      obtain ⟨q1, q2, q2k⟩ := houts j cs' h3 hj
      have hρc : (gcal g a xs ps).ρ j = g.ρ k := by
        simp only [gcal]
        have : ps[j]? = some ⟨p.arg, .box k⟩ := by rw [h1]; cases p; simp at h2; simp [h2]
        rw [this]
      have hρ : g'.ρ j = g.ρ k := (hfr.rho j (by simpa [gcal] using hj)).trans hρc
      obtain ⟨x, hx, hv, hpr⟩ := c.get h1
      obtain ⟨cs0, hb0, hpb, _, _⟩ := hpr.box k h2
      have hbox := h.bx k cs0 hb0
      have hemp' := hemp j (cs0.map AV.norm1) cs' (by rw [List.getElem?_map, h1]; simpa using hpb) h3
      refine ⟨fun hne => ?_, fun hne => ?_, fun hne o => by have := q1.free hne o; rw [hρ] at this; exact this⟩
      · have hne0 : cs0 ≠ [] := fun e => hne (hemp'.1 (by rw [e]; rfl))
        have hlt := h.kl _ _ (hbox.own hne0)
        have hkap : (gcal g a xs ps).κ (g.ρ k) = some (.box j) := by
          rw [c.kappa h h1 hv (b := g.ρ k) (by
            simp only [Pass.block, h2, hpb]
            cases cs0 with
            | nil => exact absurd rfl hne0
            | cons c0 cs1 => rfl)]
          simp [Pass.entIn, h2]
        show (if g.ρ k < w.heap.size ∧ notTmp ((gcal g a xs ps).κ (g.ρ k)) = true then g.κ (g.ρ k) else none) = _
        rw [if_pos ⟨hlt, by rw [hkap]; rfl⟩]
        exact hbox.own hne0
      · obtain ⟨cur, e, m1, m2, m3⟩ := q1.mem hne
        refine ⟨cur, e, by rw [hρ] at m1; exact m1, m2, fun i v y hv' hy => ?_⟩
        obtain ⟨r1, r2⟩ := m3 i v y hv' hy
        exact ⟨r1, CV.of P (r2.dr P (q2k y (List.mem_of_getElem? hy))).1 (OwnOK.triv P (q2 y (List.mem_of_getElem? hy)))⟩
  · change (if _ then _ else _) = _ at hx
    split at hx
    · exact Nat.lt_of_lt_of_le (h.kl b x hx) hfr.size
    · simp at hx
  · change ((l.lookup k).or (st.box k)) = some cs at hk
    cases hlk : l.lookup k with
    | none =>
      rw [hlk] at hk
      simp at hk
      exact h.ct k cs j x k' hk hx hkey
    | some cs' =>
      rw [hlk] at hk
      simp at hk
      subst hk
      obtain ⟨j', p, h1, h2, h3⟩ := (backs_lookup outs ps 0 l hl k).1 cs' hlk
      simp only [Nat.zero_add] at h3
      have := (houts j' cs' h3 (List.getElem?_eq_some_iff.1 h1).1).2.2 x (List.mem_of_getElem? hx)
      rw [this] at hkey
      simp at hkey
  · have hcn : (gcal g a xs ps).κ b = none := by
      cases hy : (gcal g a xs ps).κ b with
      | none => rfl
      | some y =>
        obtain ⟨j, p, h1, h2, h3⟩ := hpassed b y hy
        rw [hn] at h2
        cases hs : p.src <;> simp [Pass.ent, Pass.entIn, hs] at h2 h3
    obtain ⟨q1, q2, q3⟩ := hfr.old b hb hcn
    refine ⟨q1, q2, ?_⟩
    show (if _ then _ else _) = _
    rw [if_pos ⟨hb, by rw [hcn]; rfl⟩]
    exact hn

end Go.Abs
