import Derived.Test.YtalbakjfbgkjjaaAbs12
set_option linter.unusedSimpArgs false
namespace Go.Abs
open Go.RowKit

variable {P : Program} {A F : Ann} {g : Gh} {st : AS} {a : Act} {w : World} {T : Nat → AV} {B : Nat → Option (List AV)} {xs : List Operand} {ps : List Pass}

/-- A block that nobody in the frame owns becomes a box of it. -/
theorem Rel.adoptBox (h : Rel P A g st a w) {d Bk : Nat} (hd : d < A.n) (hnp : A.np ≤ d) (hr : A.root d = d) (hh : ∀ k, (k, d) ∉ A.held) (hB : g.κ Bk = none) {cs : List AV} {cur : Array Value} {e : TypeId} (hheap : w.heap[Bk]? = some (.cells cur e (0, 0)))
    (hcl : cs.length ≤ cur.size) (hcc : ∀ (j : Nat) (v : Value) (x : AV), cur[j]? = some v → cs[j]? = some x → v.oneCell' = true ∧ DR g.μ v x) (hno : noOwn cs) (hfree : ∀ o, g.μ Bk o = none) :
    Rel P A (g.withBox d Bk) (AS.newBox A st d cs) (a.put (some d) (.pointer (some ⟨Bk, 0, none⟩))) w := by
  have hkeep : ∀ x, Keeps g w (g.withBox d Bk) w x := by
    intro x b hb
    have : b ≠ Bk := fun he => by subst he; rw [hB] at hb; simp at hb
    exact ⟨by simp [Gh.withBox, this, hb], rfl, fun _ => rfl⟩
  have h1 : Rel P A g (((st.forgets (A.derived d)).put d .undef).dropBox d) a w := ((h.forgets _).forget d).dropBox d
  have hnoloc : ∀ t k, ((((st.forgets (A.derived d)).put d .undef).dropBox d).tmps t).key = some k → k ≠ d := by
    intro t k he hk
    subst hk
    have hrt : A.root t = k := h1.rt t k he
    simp only [AS.dropBox, AS.tmps_put, AS.forgets_tmps] at he
    rcases A.root_cases t with hr' | hr'
    · rw [hrt] at hr'; subst hr'; simp at he
    · rw [hrt] at hr'
      split at he
      · simp at he
      · simp [hr'] at he
  have hbx : ∀ k, ((((st.forgets (A.derived d)).put d .undef).dropBox d).box k).isSome = true → k ≠ d := by
    intro k hk he
    subst he
    simp [AS.dropBox] at hk
  have hBlt : Bk < w.heap.size := (Array.getElem?_eq_some_iff.1 hheap).1
  have h2 : Rel P A (g.withBox d Bk) (((st.forgets (A.derived d)).put d .undef).dropBox d) a w := by
    refine h1.turn (Mem.le.refl _) (fun k hk => by simp [Gh.withBox, hbx k hk]) (fun t k he => by simp [Gh.withBox, hnoloc t k he])
      (fun k cs j x k' hc hx hk => by
        have := h1.ct k cs j x k' hc hx hk
        have hne : k' ≠ d := fun e => hh k (by rw [← e]; exact this)
        simp [Gh.withBox, hne])
      (fun t _ => hkeep _) (fun k _ => hkeep _) (fun k j _ => hkeep _) h.mu (fun b x hx => ?_) rfl
    simp only [Gh.withBox] at hx
    split at hx
    · rename_i e; subst e; exact hBlt
    · exact h.kl b x hx
  have hkey : ∀ (j : Nat) (x : AV), cs[j]? = some x → x.key = none := by
    intro j x hx
    have hj : j < cs.length := (List.getElem?_eq_some_iff.1 hx).1
    exact (hcc j (cur[j]'(by omega)) x (by simp) hx).2.keyless
  have hb : BoxR P (g.withBox d Bk) w d cs := by
    refine ⟨fun _ => by simp [Gh.withBox], fun _ => ⟨cur, e, by show w.heap[if d = d then Bk else g.ρ d]? = _; rw [if_pos rfl]; exact hheap, hcl, ?_⟩, fun _ o => by simpa [Gh.withBox] using hfree o⟩
    intro j v x hv hx
    obtain ⟨q1, q2⟩ := hcc j v x hv hx
    exact ⟨q1, CV.of P q2 (OwnOK.triv P (hno x (List.mem_of_getElem? hx)))⟩
  have h3 := (h2.addBox hb (fun j x k' hx hk => by rw [hkey j x hx] at hk; simp at hk)).putAny (t := d) (v := .pointer (some ⟨Bk, 0, none⟩)) (x := .loc d 0) hd (by simp [TR, Gh.withBox]) (fun k he => by simp at he; rw [hr]; exact he)
  have he : AS.newBox A st d cs = ((((st.forgets (A.derived d)).put d .undef).dropBox d).setBox d cs).put d (.loc d 0) := by
    unfold AS.newBox
    simp only [AS.put, AS.setBox, AS.dropBox, AS.mk.injEq]
    refine ⟨?_, ?_⟩
    · funext u; split <;> simp_all
    · funext u; simp only [AS.forgets_box]; split <;> simp_all
  rw [he]
  exact h3

theorem apply_apply (st : AS) (u : Ups) (ts : List (Nat × AV)) (l : List (Nat × List AV)) : (st.apply ⟨ts, l⟩).apply u = st.apply ⟨u.ts ++ ts, u.bs ++ l⟩ := by
  simp only [AS.apply, AS.mk.injEq]
  refine ⟨?_, ?_⟩
  · funext t
    have : (u.ts ++ ts).lookup t = (u.ts.lookup t).or (ts.lookup t) := by
      generalize u.ts = l1
      induction l1 with
      | nil => simp
      | cons p l1 ih =>
        obtain ⟨k, x⟩ := p
        rw [List.cons_append, lookup_cons_nat, lookup_cons_nat, ih]
        split <;> simp
    rw [this]
    cases u.ts.lookup t <;> simp
  · funext k
    have : (u.bs ++ l).lookup k = (u.bs.lookup k).or (l.lookup k) := by
      generalize u.bs = l1
      induction l1 with
      | nil => simp
      | cons p l1 ih =>
        obtain ⟨k, x⟩ := p
        rw [List.cons_append, lookup_cons_nat, lookup_cons_nat, ih]
        split <;> simp
    rw [this, Option.or_assoc]

theorem apply_app (st : AS) (d : Nat) (r : AV) (ts : List (Nat × AV)) (l : List (Nat × List AV)) : st.apply ⟨[(d, r)] ++ ts, [] ++ l⟩ = (st.apply ⟨ts, l⟩).put d r := by
  simp only [AS.apply, AS.put, List.nil_append, AS.mk.injEq, and_true, List.singleton_append, lookup_cons_nat]
  funext t
  by_cases h : t = d <;> simp [h]

theorem lookup_append {β : Type} (l m : List (Nat × β)) (t : Nat) : (l ++ m).lookup t = (l.lookup t).or (m.lookup t) := by
  induction l with
  | nil => simp
  | cons p l ih =>
    obtain ⟨u, x⟩ := p
    rw [List.cons_append, lookup_cons_nat, lookup_cons_nat, ih]
    split <;> simp

theorem apply_app_new (A : Ann) (st : AS) (d : Nat) (cs : List AV) (ts : List (Nat × AV)) (l : List (Nat × List AV)) :
    st.apply ⟨((d, .loc d 0) :: (A.derived d).map (fun u => (u, .undef))) ++ ts, [(d, cs)] ++ l⟩ = AS.newBox A (st.apply ⟨ts, l⟩) d cs := by
  rw [← apply_new]
  simp only [AS.apply, lookup_append, AS.mk.injEq]
  refine ⟨?_, ?_⟩
  · funext t
    cases ((d, AV.loc d 0) :: (A.derived d).map (fun u => (u, .undef))).lookup t <;> simp
  · funext k
    rw [Option.or_assoc]

theorem call_sound {ann : FuncId → Ann} (h : Rel P A g st a w) (hs : Sees T B st) {f : FuncId} (hpass : passAll A (ann f) T B 0 xs = some ps) {r : AV} {outs : List (Nat × List AV)} {d : Option Nat} {u : Ups}
    (hu : callUps A d ps r outs = some u) (hlt : ∀ p ∈ u.ts, p.1 < A.n) (hc : SoundCall P ann f (ps.map Pass.arg) r outs) :
    Calls P f (xs.map a.eval).toArray w fun e w' => ∃ v g', e = .returned v ∧ Rel P A g' (st.apply u) (a.put d v) w' ∧ Fr w g w' g' := by
  unfold callUps at hu
  split at hu
  · rename_i u0 l hres hl
    split at hu
    · rename_i hcond
      obtain ⟨n1, n2, n3, n4⟩ := hcond
      simp at hu
      obtain ⟨hlen, heach⟩ := passAll_spec h hs xs 0 ps hpass
      have c : CallArgs P A (ann f) g st a w xs ps := ⟨hlen, fun j x p hx hp => by have := heach j x p hx hp; simpa using this, n1, n2⟩
      obtain ⟨c1, c2, c3, c5, c4⟩ := hc
      have hinit := c.init h (by simpa using c1) (by simpa using c2) (fun i cs hi => (c3 i cs hi).1)
      refine (c4 (gcal g a xs ps) w (xs.map a.eval).toArray (by simp [hlen]) hinit).mono ?_
      rintro e w' ⟨v, g', he, hfr, hmu, hkl, hret, houts⟩
      have houts' : ∀ i cs, outs.lookup i = some cs → i < ps.length → BoxR P g' w' i cs ∧ noOwn cs ∧ noKeys cs := fun i cs h1 h2 => houts i cs h1 (by simpa using h2)
      obtain ⟨hb, hfb⟩ := c.back h hl hfr hmu houts' c5
      have hpassed : ∀ b y, (gcal g a xs ps).κ b = some y → ∃ (j : Nat) (p : Pass), ps[j]? = some p ∧ g.κ b = p.ent ∧ p.entIn j = some y ∧ (∀ k, p.src = .box k → b = g.ρ k ∧ p.arg.pbox ≠ some []) := by
        intro b y hy
        obtain ⟨j, p, v, h1, h2, h3, h4⟩ := kcal_some ps (xs.map a.eval) 0 b y hy
        obtain ⟨x, hx, hv, hpr⟩ := c.get h1
        rw [h2] at hv
        obtain rfl : v = a.eval x := by simpa using hv
        exact ⟨j, p, h1, hpr.owner h h3, by simpa using h4, fun k hk => by
          simp only [Pass.block, hk] at h3
          split at h3
          · simp at h3
          · rename_i hnn; simp at h3; exact ⟨h3.symm, fun e => hnn e⟩⟩
      -- a block that the callee hands out is nobody's in the caller
      have hnew : ∀ b x, g'.κ b = some x → (∀ i, i < ps.length → x ≠ .box i) → (gback g w (gcal g a xs ps) g').κ b = none ∧ (b < w.heap.size → g.κ b ≠ none) := by
        intro b x hx hxb
        have hin : b < w.heap.size → ∃ i, (gcal g a xs ps).κ b = some (.tmp i) := by
          intro hlt'
          cases hy : (gcal g a xs ps).κ b with
          | none => have := (hfr.old b hlt' hy).2.2; rw [hx] at this; simp at this
          | some y =>
            obtain ⟨j, p, h1, h2, h3, h4⟩ := hpassed b y hy
            cases hsrc : p.src with
            | val => simp [Pass.entIn, hsrc] at h3
            | own t => simp [Pass.entIn, hsrc] at h3; subst h3; exact ⟨j, rfl⟩
            | box k =>
              exfalso
              have hj : j < ps.length := (List.getElem?_eq_some_iff.1 h1).1
              obtain ⟨x', hx', hv', hpr⟩ := c.get h1
              obtain ⟨cs, _, harg, _⟩ := hpr.box k hsrc
              have hpb : ((ps.map Pass.arg)[j]?).bind AV.pbox = some (cs.map AV.norm1) := by rw [List.getElem?_map, h1]; simpa using harg
              obtain ⟨cs', hcs'⟩ := Option.isSome_iff_exists.1 (c3 j _ hpb).2
              have hbx := (houts' j cs' hcs' hj).1
              have hne' : cs' ≠ [] := fun e => (h4 k hsrc).2 (by rw [harg, (c5 j _ cs' hpb hcs').2 e])
              have hρ : g'.ρ j = b := by
                rw [hfr.rho j (by simpa [gcal] using hj), (h4 k hsrc).1]
                simp only [gcal]
                have : ps[j]? = some ⟨p.arg, .box k⟩ := by rw [h1]; cases p; simp at hsrc; simp [hsrc]
                rw [this]
              have := hbx.own hne'
              rw [hρ, hx] at this
              exact hxb j hj (by simpa using this)
        refine ⟨?_, fun hlt' hn => ?_⟩
        · show (if b < w.heap.size ∧ notTmp ((gcal g a xs ps).κ b) = true then g.κ b else none) = none
          split
          · rename_i hq
            obtain ⟨i, hi⟩ := hin hq.1
            rw [hi] at hq
            simp [notTmp] at hq
          · rfl
        · obtain ⟨i, hi⟩ := hin hlt'
          obtain ⟨j, p, h1, h2, h3, _⟩ := hpassed b _ hi
          rw [hn] at h2
          cases hsrc : p.src <;> simp [Pass.ent, Pass.entIn, hsrc] at h2 h3
      -- the frame, with one block more
      have hfr2 : ∀ (g2 : Gh) (Bk : Nat) (y : Ent) (ρ' : Nat → Nat), g2 = ⟨ρ', fun b => if b = Bk then some y else (gback g w (gcal g a xs ps) g').κ b, g'.μ, g.np⟩ → (∀ k, k < g.np → ρ' k = g.ρ k) → (Bk < w.heap.size → g.κ Bk ≠ none) → Fr w g w' g2 := by
        intro g2 Bk y ρ' hg2 hρ hBk
        subst hg2
        refine ⟨hfb.os, hfb.tape, hfb.output, hfb.size, hfb.mu, fun b hb' hn => ?_, rfl, hρ⟩
        obtain ⟨q1, q2, q3⟩ := hfb.old b hb' hn
        have : b ≠ Bk := fun he => by subst he; exact hBk hb' hn
        exact ⟨q1, q2, by simp [this, q3]⟩
      refine ⟨v, ?_⟩
      cases d with
      | none =>
        simp [resA] at hres
        subst hres
        simp at hu
        subst hu
        exact ⟨_, he, hb, hfb⟩
      | some d =>
        by_cases hptr : ∃ cs, r = .ptr cs
        · obtain ⟨cs, hr⟩ := hptr
          subst hr
          simp only [resA] at hres
          split at hres
          · simp at hres
          rename_i hcne
          have hcne : cs ≠ [] := by simpa using hcne
          unfold newA at hres
          split at hres
          · rename_i hroot
            simp at hres
            subst hres
            subst hu
            obtain ⟨k, hk1, hk2, hk3, hk4, hk5⟩ := hret
            have hnpk : ps.length ≤ k := by have := hfr.np; simp [gcal] at this; omega
            obtain ⟨hn1, hn2⟩ := hnew (g'.ρ k) (.box k) (hk3.own hcne) (fun i hi => by simp; omega)
            obtain ⟨cur, el, m1, m2, m3⟩ := hk3.mem hcne
            have hcc : ∀ (j : Nat) (v' : Value) (x : AV), cur[j]? = some v' → cs[j]? = some x → v'.oneCell' = true ∧ DR g'.μ v' x := fun j v' x hv' hx => by
              obtain ⟨q1, q2⟩ := m3 j v' x hv' hx
              exact ⟨q1, (q2.dr P (hk5 x (List.mem_of_getElem? hx))).1⟩
            have hq := hb.adoptBox (d := d) (Bk := g'.ρ k) (hlt (d, .loc d 0) (by simp)) hroot.2.1 hroot.1 (fun k hk => by have := List.all_eq_true.1 hroot.2.2 _ hk; simp at this) hn1 m1 m2 hcc hk4 (hk3.free hcne)
            refine ⟨_, he, ?_, hfr2 _ (g'.ρ k) (.box d) (fun j => if j = d then g'.ρ k else g.ρ j) rfl (fun j hj => if_neg (by have := h.np; omega)) hn2⟩
            have : (⟨[(d, AV.loc d 0)] ++ ((A.derived d).map (fun u => (u, AV.undef)) ++ ps.filterMap Pass.gives), [(d, cs)] ++ l⟩ : Ups) = ⟨((d, .loc d 0) :: (A.derived d).map (fun u => (u, .undef))) ++ ps.filterMap Pass.gives, [(d, cs)] ++ l⟩ := by simp
            have e2 := apply_app_new A st d cs (ps.filterMap Pass.gives) l
            simp only [List.cons_append, List.singleton_append, List.nil_append] at e2 ⊢
            rw [e2, hk2]
            exact hq
          · simp at hres
        by_cases hms : ∃ i e lo n, r = .ms i e lo n
        · obtain ⟨i, el, lo, n, hr⟩ := hms
          subst hr
          simp only [resA] at hres
          split at hres
          · rename_i k hkey
            split at hres
            · rename_i hroot
              simp at hres
              subst hres
              subst hu
              obtain ⟨hi1, hi2⟩ := hret
              have hst : st.apply ⟨[(d, AV.ms k el lo n)] ++ ps.filterMap Pass.gives, [] ++ l⟩ = (st.apply ⟨ps.filterMap Pass.gives, l⟩).put d (.ms k el lo n) := apply_app st d _ _ l
              refine ⟨_, he, ?_, hfb⟩
              rw [hst]
              have hρ : g'.ρ i = g.ρ k := by
                cases hp : ps[i]? with
                | none => simp [hp] at hkey
                | some p =>
                  simp [hp] at hkey
                  unfold Pass.key at hkey
                  split at hkey
                  · rename_i k' hsrc
                    simp at hkey; subst hkey
                    rw [hfr.rho i (by have := (List.getElem?_eq_some_iff.1 hp).1; simpa [gcal] using this)]
                    simp only [gcal]
                    have : ps[i]? = some ⟨p.arg, .box k'⟩ := by rw [hp]; cases p; simp at hsrc; simp [hsrc]
                    rw [this]
                  · simp at hkey
              refine hb.putAny (hlt (d, .ms k el lo n) (by simp)) ?_ (fun k' hk' => by simp at hk'; rw [hroot]; exact hk')
              rcases hi2 with q | ⟨cap, q1, q2⟩
              · exact .inl q
              · exact .inr ⟨cap, q1, by rw [q2, hρ]; rfl⟩
            · simp at hres
          · simp at hres
        by_cases hex : ∃ e rows, r = .ex e rows
        · obtain ⟨el, rows, hr⟩ := hex
          subst hr
          obtain ⟨x, hxb, hown⟩ := hret
          have hput : d < A.n → ∃ g2, Rel P A g2 ((st.apply ⟨ps.filterMap Pass.gives, l⟩).put d (.ex el rows)) (a.put (some d) v) w' ∧ Fr w g w' g2 := by
            intro hd
            rcases hown with ⟨hv, hr0⟩ | ⟨b, cap, cur, hv, hk, hheap, q1, q2, q3, q4, q5, q6⟩
            · exact ⟨_, hb.putAny hd (show ExOK P _ w' (.tmp d) v el rows from .inl ⟨hv, hr0⟩) (by simp), hfb⟩
            · obtain ⟨hn1, hn2⟩ := hnew b x hk (fun i _ => hxb i)
              let g2 : Gh := ⟨g.ρ, fun c => if c = b then some (.tmp d) else (gback g w (gcal g a xs ps) g').κ c, g'.μ, g.np⟩
              refine ⟨g2, ?_, hfr2 g2 b (.tmp d) g.ρ rfl (fun _ _ => rfl) hn2⟩
              have hkeep : ∀ y, Keeps (gback g w (gcal g a xs ps) g') w' g2 w' y := by
                intro y c' hc'
                have : c' ≠ b := fun he => by subst he; rw [hn1] at hc'; simp at hc'
                exact ⟨by simp [g2, this, hc'], rfl, fun _ => rfl⟩
              have h2 : Rel P A g2 ((st.apply ⟨ps.filterMap Pass.gives, l⟩).put d .undef) a w' := by
                refine (hb.forget d).turn (Mem.le.refl _) (fun _ _ => rfl) (fun _ _ _ => rfl) (fun _ _ _ _ _ _ _ _ => rfl) (fun t _ => hkeep _) (fun k _ => hkeep _) (fun k j _ => hkeep _) hmu (fun c' y hy => ?_) rfl
                simp only [g2] at hy
                split at hy
                · rename_i hcb; subst hcb; exact (Array.getElem?_eq_some_iff.1 hheap).1
                · exact hb.kl c' y hy
              have h3 := h2.putAny (t := d) (v := v) (x := .ex el rows) hd (show ExOK P g2 w' (.tmp d) v el rows from .inr ⟨b, cap, cur, hv, by simp [g2], hheap, q1, q2, q3, q4, q5, q6⟩) (by simp)
              have : ((st.apply ⟨ps.filterMap Pass.gives, l⟩).put d .undef).put d (.ex el rows) = (st.apply ⟨ps.filterMap Pass.gives, l⟩).put d (.ex el rows) := by
                simp only [AS.put, AS.mk.injEq, and_true]
                funext j; split <;> simp_all
              rw [this] at h3
              exact h3
          simp only [resA] at hres
          split at hres
          · have hd : d < A.n := by
              have hres' := hres
              unfold unpackU at hres'
              split at hres'
              · split at hres'
                · simp at hres'; subst hres'; subst hu; exact hlt (d, .ms (A.root d) el 0 rows.length) (by simp)
                · simp at hres'
                · simp at hres'
              · simp at hres'
            obtain ⟨g2, h2, f2⟩ := hput hd
            obtain ⟨g3, h3, f3⟩ := unpackU_sound (T := fun _ => .undef) h2 ⟨fun _ => .inr rfl, fun _ => .inr rfl⟩ hres
            rw [apply_apply, hu] at h3
            exact ⟨g3, he, h3, f2.trans f3⟩
          · split at hres
            · simp at hres; subst hres; subst hu
              obtain ⟨g2, h2, f2⟩ := hput (hlt (d, .ex el rows) (by simp))
              exact ⟨g2, he, by rw [apply_app]; exact h2, f2⟩
            · simp at hres; subst hres; subst hu
              obtain ⟨g2, h2, f2⟩ := hput (hlt (d, .slice (.own el) rows) (by simp))
              obtain ⟨g3, h3, f3⟩ := h2.freezeEx (d := d) (e := el) (rows := rows) (by simp [AS.tmps_put])
              have : ((st.apply ⟨ps.filterMap Pass.gives, l⟩).put d (.ex el rows)).put d (.slice (.own el) rows) = (st.apply ⟨ps.filterMap Pass.gives, l⟩).put d (.slice (.own el) rows) := by
                simp only [AS.put, AS.mk.injEq, and_true]
                funext j; split <;> simp_all
              rw [this] at h3
              exact ⟨g3, he, by rw [apply_app]; exact h3, f2.trans f3⟩
        · have hres' : r.clean = true ∧ u0 = ⟨[(d, r)], []⟩ := by
            unfold resA at hres
            simp only at hres
            split at hres
            · rename_i cs; exact absurd ⟨cs, rfl⟩ hptr
            · exact absurd ⟨_, _, _, _, rfl⟩ hms
            · exact absurd ⟨_, _, rfl⟩ hex
            · split at hres
              · rename_i hcl; simp at hres; exact ⟨hcl, hres.symm⟩
              · simp at hres
          obtain ⟨hcl, rfl⟩ := hres'
          have hret' : DR g'.μ v r ∧ ∃ x, (∀ k, x ≠ .box k) ∧ OwnOK P g' w' x v r := by
            unfold RetR at hret
            split at hret
            · rename_i cs; exact absurd ⟨cs, rfl⟩ hptr
            · exact absurd ⟨_, _, _, _, rfl⟩ hms
            · exact absurd ⟨_, _, rfl⟩ hex
            · exact hret
          subst hu
          have hst : st.apply ⟨[(d, r)] ++ ps.filterMap Pass.gives, [] ++ l⟩ = (st.apply ⟨ps.filterMap Pass.gives, l⟩).put d r := apply_app st d r _ l
          have hd : d < A.n := hlt (d, r) (by simp)
          obtain ⟨hdr, x, hxb, hown⟩ := hret'
          have hl' : r.isLoc = false := by cases hq : r <;> first | rfl | (rw [hq] at hcl; simp [AV.clean] at hcl)
          have plain : (∀ e rows, r ≠ .slice (.own e) rows) ∨ v = .slice none 0 0 → ∃ g2, e = .returned v ∧ Rel P A g2 (st.apply ⟨[(d, r)] ++ ps.filterMap Pass.gives, [] ++ l⟩) (a.put (some d) v) w' ∧ Fr w g w' g2 := by
            intro hcase
            refine ⟨_, he, ?_, hfb⟩
            rw [hst]
            refine hb.putAny hd (TR.of P hl' hdr (fun e' rows' he' => ?_)) (fun k hk => by rw [key_none hl'] at hk; simp at hk)
            rcases hcase with hcase | hcase
            · exact absurd he' (hcase e' rows')
            · refine .inl ⟨hcase, ?_⟩
              rw [he', hcase] at hdr
              generalize hv0 : Value.slice none 0 0 = v0 at hdr
              cases hdr with
              | sliceE _ => rfl
              | slice _ _ _ _ _ => simp at hv0
          by_cases hcase : ∃ e rows, r = .slice (.own e) rows
          · obtain ⟨e', rows', hr'⟩ := hcase
            rcases hown e' rows' hr' with ⟨hv, _⟩ | ⟨b, cap, cur, hv, hk, hheap, q1, q2, q3, q4, q5⟩
            · exact plain (.inr hv)
            · obtain ⟨hn1, hn2⟩ := hnew b x hk (fun i _ => hxb i)
              let g2 : Gh := ⟨g.ρ, fun c => if c = b then some (.tmp d) else (gback g w (gcal g a xs ps) g').κ c, g'.μ, g.np⟩
              refine ⟨g2, he, ?_, hfr2 g2 b (.tmp d) g.ρ rfl (fun _ _ => rfl) hn2⟩
              have hkeep : ∀ y, Keeps (gback g w (gcal g a xs ps) g') w' g2 w' y := by
                intro y c' hc'
                have : c' ≠ b := fun he => by subst he; rw [hn1] at hc'; simp at hc'
                exact ⟨by simp [g2, this, hc'], rfl, fun _ => rfl⟩
              have h2 : Rel P A g2 ((st.apply ⟨ps.filterMap Pass.gives, l⟩).put d .undef) a w' := by
                refine (hb.forget d).turn (Mem.le.refl _) (fun _ _ => rfl) (fun _ _ _ => rfl) (fun _ _ _ _ _ _ _ _ => rfl) (fun t _ => hkeep _) (fun k _ => hkeep _) (fun k j _ => hkeep _) hmu (fun c' y hy => ?_) rfl
                simp only [g2] at hy
                split at hy
                · rename_i hcb; subst hcb; exact (Array.getElem?_eq_some_iff.1 hheap).1
                · exact hb.kl c' y hy
              have h3 := h2.putAny (t := d) (v := v) (x := r) hd (TR.of P hl' hdr (fun e'' rows'' he' => by
                rw [hr'] at he'
                simp at he'
                obtain ⟨rfl, rfl⟩ := he'
                exact .inr ⟨b, cap, cur, hv, by simp [g2], hheap, q1, q2, q3, q4, q5⟩)) (fun k hk => by rw [key_none hl'] at hk; simp at hk)
              rw [hst]
              have : ((st.apply ⟨ps.filterMap Pass.gives, l⟩).put d .undef).put d r = (st.apply ⟨ps.filterMap Pass.gives, l⟩).put d r := by
                simp only [AS.put, AS.mk.injEq, and_true]
                funext j; split <;> simp_all
              rw [this] at h3
              exact h3
          · exact plain (.inl fun e' rows' he' => hcase ⟨e', rows', he'⟩)
    · simp at hu
  · simp at hu

end Go.Abs
