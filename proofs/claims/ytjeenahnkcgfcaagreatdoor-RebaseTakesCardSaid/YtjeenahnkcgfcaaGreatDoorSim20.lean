/- Soundness: a region that draws its order. -/
import Derived.Test.YtjeenahnkcgfcaaGreatDoorSimO
set_option linter.unusedVariables false
set_option linter.unusedSimpArgs false
namespace Go.Sim
open Go.RowKit

variable {E : Env} {g : Gh} {f : Hf} {w : World}

theorem StepS.congrH {ro : Option Nat} {nt : Nat} {all : Array Oper} {i : Nat} {o : Oper} {T : Tf} {need frp newp : Nat → Prop} {H H2 H' : Hf} {v : SV} {D : Nat → Bool} (h : StepS E ro nt all i o T need H frp newp v D H') (he : ∀ x, need x → H x = H2 x) :
    StepS E ro nt all i o T need H2 frp newp v D H' :=
  fun m g f T1 a w K Q hE hfr hr hT hn hf hk => h m g f T1 a w K Q hE hfr hr hT (fun x hx => (hn x hx).trans (he x hx).symm) hf hk

theorem drop_cons {ops : Array Oper} {i : Nat} {o : Oper} {l : List Oper} (h : ops.toList.drop i = o :: l) : ops[i]? = some o ∧ ops.toList.drop (i + 1) = l ∧ i < ops.size := by
  have hi : i < ops.toList.length := by
    by_cases hl : i < ops.toList.length
    · exact hl
    · rw [List.drop_of_length_le (by omega)] at h; simp at h
  rw [List.drop_eq_getElem_cons hi] at h
  obtain ⟨h1, h2⟩ := List.cons.inj h
  have : ops.toList[i]? = some o := by rw [List.getElem?_eq_getElem hi, h1]
  exact ⟨by simpa using this, h2, by simpa using hi⟩

theorem mem_wrOf {new x : Nat} : ∀ {us : List Up}, x ∈ wrOf new us ↔ (x ∈ us.map (·.1) ∧ x ≠ new)
  | [] => by simp [wrOf]
  | u :: us => by
    unfold wrOf
    rw [sel_if, beq_eq]
    by_cases h : u.1 = new
    · simp only [h, decide_true, if_true, List.map_cons, List.mem_cons]
      rw [mem_wrOf (us := us)]
      constructor
      · rintro ⟨h1, h2⟩; exact ⟨.inr h1, h2⟩
      · rintro ⟨h1 | h1, h2⟩
        · exact absurd h1 h2
        · exact ⟨h1, h2⟩
    · simp only [h, decide_false, Bool.false_eq_true, if_false, List.map_cons, List.mem_cons]
      rw [mem_wrOf (us := us)]
      constructor
      · rintro (h1 | ⟨h1, h2⟩)
        · subst h1; exact ⟨.inl rfl, h⟩
        · exact ⟨.inr h1, h2⟩
      · rintro ⟨h1 | h1, h2⟩
        · exact .inl h1
        · exact .inr ⟨h1, h2⟩

theorem mem_below {n x : Nat} : ∀ {l acc : List Nat}, x ∈ below n l acc ↔ (x ∈ l ∧ x < n) ∨ x ∈ acc
  | [], acc => by simp [below]
  | y :: l, acc => by
    unfold below
    rw [sel_if, ble_eq]
    by_cases h : y + 1 ≤ n
    · simp only [h, decide_true, if_true]
      rw [mem_below (l := l)]
      simp only [List.mem_cons]
      constructor
      · rintro (⟨h1, h2⟩ | h1 | h1)
        · exact .inl ⟨.inr h1, h2⟩
        · subst h1; exact .inl ⟨.inl rfl, h⟩
        · exact .inr h1
      · rintro (⟨h1 | h1, h2⟩ | h1)
        · exact .inr (.inl h1)
        · exact .inl ⟨h1, h2⟩
        · exact .inr (.inr h1)
    · simp only [show Nat.succ y ≤ n ↔ y + 1 ≤ n from Iff.rfl, h, decide_false, Bool.false_eq_true, if_false]
      rw [mem_below (l := l)]
      simp only [List.mem_cons]
      constructor
      · rintro (⟨h1, h2⟩ | h1)
        · exact .inl ⟨.inr h1, h2⟩
        · exact .inr h1
      · rintro (⟨h1 | h1, h2⟩ | h1)
        · subst h1; omega
        · exact .inl ⟨h1, h2⟩
        · exact .inr h1

/-- A number that is put away. -/
def Hid (m : Nat) (prev : List Rc) (x : Nat) : Prop := ∃ p ∈ prev, bitB m p.i = false ∧ p.lo = x
theorem hide_get {m : Nat} : ∀ (prev : List Rc) (hp : Hp) (x : Nat), (Hid m prev x → (hide m prev hp).get x = none) ∧ (¬ Hid m prev x → (hide m prev hp).get x = hp.get x)
  | [], hp, x => ⟨fun ⟨p, hp, _⟩ => by simp at hp, fun _ => rfl⟩
  | q :: ps, hp, x => by
    unfold hide
    rw [sel_if]
    cases hb : bitB m q.i with
    | true =>
      rw [if_pos rfl]
      obtain ⟨h1, h2⟩ := hide_get ps hp x
      have : Hid m (q :: ps) x ↔ Hid m ps x := by
        constructor
        · rintro ⟨p, h, h3, h4⟩
          rcases List.mem_cons.1 h with rfl | h
          · rw [hb] at h3; simp at h3
          · exact ⟨p, h, h3, h4⟩
        · rintro ⟨p, h, h3, h4⟩; exact ⟨p, by simp [h], h3, h4⟩
      exact ⟨fun h => h1 (this.1 h), fun h => h2 (fun h' => h (this.2 h'))⟩
    | false =>
      rw [if_neg (by simp)]
      obtain ⟨h1, h2⟩ := hide_get ps (hp.set q.lo none) x
      refine ⟨fun ⟨p, h, h3, h4⟩ => ?_, fun h => ?_⟩
      · by_cases hh : Hid m ps x
        · exact h1 hh
        · rw [h2 hh, Tr.get_set]
          rcases List.mem_cons.1 h with rfl | h
          · rw [if_pos h4.symm]
          · exact absurd ⟨p, h, h3, h4⟩ hh
      · rw [h2 (fun ⟨p, h', h3, h4⟩ => h ⟨p, by simp [h'], h3, h4⟩), Tr.get_set, if_neg (fun e => h ⟨q, by simp, hb, e.symm⟩)]
theorem unhide_get {m : Nat} {old : Hp} : ∀ (prev : List Rc) (hp : Hp) (x : Nat), (Hid m prev x → (unhide m old prev hp).get x = old.get x) ∧ (¬ Hid m prev x → (unhide m old prev hp).get x = hp.get x)
  | [], hp, x => ⟨fun ⟨p, hp, _⟩ => by simp at hp, fun _ => rfl⟩
  | q :: ps, hp, x => by
    unfold unhide
    rw [sel_if]
    cases hb : bitB m q.i with
    | true =>
      rw [if_pos rfl]
      obtain ⟨h1, h2⟩ := unhide_get (old := old) ps hp x
      have : Hid m (q :: ps) x ↔ Hid m ps x := by
        constructor
        · rintro ⟨p, h, h3, h4⟩
          rcases List.mem_cons.1 h with rfl | h
          · rw [hb] at h3; simp at h3
          · exact ⟨p, h, h3, h4⟩
        · rintro ⟨p, h, h3, h4⟩; exact ⟨p, by simp [h], h3, h4⟩
      exact ⟨fun h => h1 (this.1 h), fun h => h2 (fun h' => h (this.2 h'))⟩
    | false =>
      rw [if_neg (by simp)]
      obtain ⟨h1, h2⟩ := unhide_get (old := old) ps (hp.set q.lo (old.get q.lo)) x
      refine ⟨fun ⟨p, h, h3, h4⟩ => ?_, fun h => ?_⟩
      · by_cases hh : Hid m ps x
        · exact h1 hh
        · rw [h2 hh, Tr.get_set]
          rcases List.mem_cons.1 h with rfl | h
          · rw [if_pos h4.symm, h4]
          · exact absurd ⟨p, h, h3, h4⟩ hh
      · rw [h2 (fun ⟨p, h', h3, h4⟩ => h ⟨p, by simp [h'], h3, h4⟩), Tr.get_set, if_neg (fun e => h ⟨q, by simp, hb, e.symm⟩)]

/-- One step onto the rest. -/
theorem draw_cons {nt W : Nat} {all : List Oper} {base i M : Nat} {prev : List Rc} {o : Oper} {l : List Oper} {tm tm1 : Tr SV} {h h1 : Hs} {r : Rc} {out : Out} (m : Nat)
    (hc : ∀ (ops : Array Oper), ops.toList = all → W = ops.size → ops[i]? = some o → i < W → base + W ≤ h.nx → Bd h → (∀ x, h.hp.get x ≠ none → ¬ (base + i ≤ x ∧ x < base + W)) → (∀ x, bitB m x = true → x ∈ anc ops (i + 1) i) → (∀ p ∈ prev, p.call = false → p.hi = p.lo + 1 ∧ p.lo < base + W) →
      ∀ ps : List St, ps.map (·.rc) = prev → ∃ s : St, s.rc = r ∧ Cnd E nt W ops base i ps o tm.get h.hp.get h.nx s h1.nx ∧ tm1.get = putT tm.get s.u.dst s.u.v ∧ h1.hp.get = mixF s.u.D s.u.H h.hp.get ∧
        (∀ x ∈ h.lg, x ∈ h1.lg) ∧ (∀ x, x < h.nx → ¬ (base + i ≤ x ∧ x < base + W) → x ∉ h1.lg → h1.hp.get x = h.hp.get x) ∧ (∀ x, x < h.nx → ¬ (base + i ≤ x ∧ x < base + W) → h.hp.get x = none → h1.hp.get x = none) ∧ Bd h1 ∧
        (∀ x, h1.hp.get x ≠ none → ¬ (base + (i + 1) ≤ x ∧ x < base + W)) ∧ (r.call = false → r.hi = r.lo + 1 ∧ r.lo < base + W))
    (hm : m = Nat.mod (unionM W M (dirO o)) (Nat.pow 2 W))
    (ih : Sound E (.draw nt W all base (i + 1) (Nat.lor M (Nat.shiftLeft m (Nat.mul i W))) (r :: prev) l tm1 h1) out) : Sound E (.draw nt W all base i M prev (o :: l) tm h) out := by
  cases out with
  | st tm' h' =>
    intro ops he hW hd hb hbd hres hinv hpr ps hps
    obtain ⟨hi, hd', hlt⟩ := drop_cons hd
    obtain ⟨m1, m2⟩ := mask_spec hi hinv
    obtain ⟨s, hr, hcnd, htm, hh, f1, f2, f3, f4, f5, f6⟩ := hc ops he hW hi (by omega) hb hbd hres (fun x hx => (m1 x (by rw [← hm]; exact (bitB_iff _ _).1 hx)).2) hpr ps hps
    obtain ⟨k1, out, k2⟩ := ih ops he hW hd' (Nat.le_trans hb hcnd.nxle) f4 f5 (by rw [hm]; exact m2) (fun p hp => by
      rcases List.mem_cons.1 hp with rfl | hp
      · exact f6
      · exact hpr p hp) (s :: ps) (by simp [hr, hps])
    refine ⟨⟨Nat.le_trans hcnd.nxle k1.nx, k1.bd, fun x hx hn hl => ?_, fun x hx => k1.sub x (f1 x hx), fun x hx hn hl => ?_⟩, out, ?_⟩
    · have hx1 : x < h1.nx := Nat.lt_of_lt_of_le hx hcnd.nxle
      rw [k1.lg x hx1 (fun hc => hn ⟨by omega, hc.2⟩) hl]
      exact f2 x hx hn (fun hc => hl (k1.sub x hc))
    · have hx1 : x < h1.nx := Nat.lt_of_lt_of_le hx hcnd.nxle
      exact k1.dead x hx1 (fun hc => hn ⟨by omega, hc.2⟩) (f3 x hx hn hl)
    · rw [htm, hh] at k2
      exact .cons hcnd k2
  | codes r =>
    intro ops he hW hd hb hbd hres hinv hpr ps hps
    obtain ⟨hi, hd', hlt⟩ := drop_cons hd
    obtain ⟨m1, m2⟩ := mask_spec hi hinv
    obtain ⟨s, hr, hcnd, htm, hh, f1, f2, f3, f4, f5, f6⟩ := hc ops he hW hi (by omega) hb hbd hres (fun x hx => (m1 x (by rw [← hm]; exact (bitB_iff _ _).1 hx)).2) hpr ps hps
    obtain ⟨v, tm', dm, h', hr', k1, l0, o', out, F1, nx1, e1, k2, k3⟩ := ih ops he hW hd' (Nat.le_trans hb hcnd.nxle) f4 f5 (by rw [hm]; exact m2) (fun p hp => by
      rcases List.mem_cons.1 hp with rfl | hp
      · exact f6
      · exact hpr p hp) (s :: ps) (by simp [hr, hps])
    refine ⟨v, tm', dm, h', hr', ⟨Nat.le_trans hcnd.nxle k1.nx, k1.bd, fun x hx hn hl => ?_, fun x hx => k1.sub x (f1 x hx), fun x hx hn hl => ?_⟩, o :: l0, o', out, F1, nx1, by rw [e1]; rfl, ?_, ?_⟩
    · have hx1 : x < h1.nx := Nat.lt_of_lt_of_le hx hcnd.nxle
      rw [k1.lg x hx1 (fun hc => hn ⟨by omega, hc.2⟩) hl]
      exact f2 x hx hn (fun hc => hl (k1.sub x hc))
    · have hx1 : x < h1.nx := Nat.lt_of_lt_of_le hx hcnd.nxle
      exact k1.dead x hx1 (fun hc => hn ⟨by omega, hc.2⟩) (f3 x hx hn hl)
    · rw [htm, hh] at k2
      exact .cons hcnd k2
    · have e : i + (o :: l0).length = i + 1 + l0.length := by simp; omega
      rw [e]; exact k3
  | _ => trivial

theorem ind_of {m : Nat} {r : Rc} {prev : List Rc} (h : indepAll m r prev = true) {ps : List St} (hps : ps.map (·.rc) = prev) : ∀ p ∈ ps, bitB m p.rc.i = true ∨ IndepR p.rc r := by
  intro p hp
  have hmem : p.rc ∈ prev := by rw [← hps]; exact List.mem_map.2 ⟨p, hp, rfl⟩
  rcases indepAll_spec h p.rc hmem with h1 | h1
  · exact .inl h1
  · exact .inr (indepR_spec h1)

theorem draw_val {nt W : Nat} {all : List Oper} {base i M : Nat} {prev : List Rc} {o : Oper} {l : List Oper} {tm : Tr SV} {h : Hs} {out : Out} {v : SV} {us : List Up} (m : Nat) (hm : m = Nat.mod (unionM W M (dirO o)) (Nat.pow 2 W)) (hlt : allLt i (dirO o) = true)
    (hw : wantedA all o tm.get = some true) (hd : dstOk nt o.dst = true) (ho : opA E o.op tm.get h.hp.get (base + i) = some (v, us)) (hnd : ∀ c, o.op ≠ .defer c) (hind : indepAll m ⟨i, false, readsOf o.op tm.get, wrOf (base + i) us, base + i, base + i + 1⟩ prev = true)
    (ih : Sound E (.draw nt W all base (i + 1) (Nat.lor M (Nat.shiftLeft m (Nat.mul i W))) (⟨i, false, readsOf o.op tm.get, wrOf (base + i) us, base + i, base + i + 1⟩ :: prev) l (putD tm o.dst v) (h.ups us)) out) :
    Sound E (.draw nt W all base i M prev (o :: l) tm h) out := by
  refine draw_cons m (fun ops he hW hi hiW hb hbd hres hanc hpr ps hps => ?_) hm ih
  have hnx : (h.ups us).nx = h.nx := ups_nx _ _
  have hg : (h.ups us).hp.get = upsF h.hp.get us := ups_get _ _
  obtain ⟨l1, l2⟩ := ups_lg us h
  have hk := opA_keys ho
  have hnone : h.hp.get (base + i) = none := by
    cases hx : h.hp.get (base + i) with
    | none => rfl
    | some o' => exact absurd ⟨Nat.le_refl _, by omega⟩ (hres (base + i) (by rw [hx]; simp))
  have key_cases : ∀ x, x ∈ us.map (·.1) → x = base + i ∨ (h.hp.get x ≠ none ∧ x < h.nx) := by
    intro x hx
    obtain ⟨u, hu, rfl⟩ := List.mem_map.1 hx
    rcases hk u hu with h1 | h1
    · exact .inl h1
    · refine .inr ⟨h1, ?_⟩
      by_cases hl : h.nx ≤ u.1
      · exact absurd (hbd _ hl) h1
      · omega
  have hlow : base + i < h.nx := by omega
  refine ⟨⟨⟨o.dst, v, keysD us (base + i), upsF h.hp.get us⟩, ⟨i, false, readsOf o.op tm.get, wrOf (base + i) us, base + i, base + i + 1⟩, m, fun x => x ∈ readsOf o.op tm.get, fun x => x = base + i, fun x => x = base + i ∧ us ≠ []⟩, rfl, ?_, putD_get _ _ _, ?_, l1, fun x hx hn hl => ?_, fun x hx hn hl => ?_, fun x hx => ?_, fun x hx => ?_, fun _ => ⟨rfl, by show base + i < base + W; omega⟩⟩
  · refine ⟨rfl, fun ro => ?_, allLt_iff hlt, hanc, rfl, ind_of hind hps, fun x => ?_, fun _ => ⟨rfl, rfl, by rw [hnx], fun x hx => hx, fun x hx => hx, fun x hx => hx.1⟩, (fun hc => by cases hc), by rw [hnx]; exact Nat.le_refl _, hres, hb⟩
    · subst he
      exact step_simple hi hw hd ho hnone (fun x => by simp [keysD]) hnd
    · show keysD us (base + i) x = true ↔ (x ∈ wrOf (base + i) us ∨ (base + i ≤ x ∧ x < base + i + 1))
      rw [mem_wrOf]
      simp only [keysD, decide_eq_true_eq]
      constructor
      · rintro (h1 | h1)
        · by_cases e : x = base + i
          · exact .inr ⟨by omega, by omega⟩
          · exact .inl ⟨h1, e⟩
        · exact .inr ⟨by omega, by omega⟩
      · rintro (⟨h1, _⟩ | ⟨h1, h2⟩)
        · exact .inl h1
        · exact .inr (by omega)
  · rw [hg]
    funext x
    show upsF h.hp.get us x = mixF (keysD us (base + i)) (upsF h.hp.get us) h.hp.get x
    unfold mixF keysD
    by_cases h1 : x ∈ us.map (·.1)
    · rw [if_pos (by simp only [decide_eq_true_eq]; exact .inl h1)]
    · rw [upsF_keys h1]
      split <;> rfl
  · rw [hg, upsF_keys (fun hc => by obtain ⟨u, hu, rfl⟩ := List.mem_map.1 hc; exact hl (l2 u hu))]
  · rw [hg, upsF_keys (fun hc => by
      rcases key_cases x hc with h1 | h1
      · exact hn ⟨by omega, by omega⟩
      · exact h1.1 hl)]
    exact hl
  · rw [hnx] at hx
    rw [hg, upsF_keys (fun hc => by rcases key_cases x hc with h1 | h1 <;> omega)]
    exact hbd x hx
  · intro hcc
    by_cases hc : x ∈ us.map (·.1)
    · rcases key_cases x hc with h1 | h1
      · omega
      · exact hres x h1.1 ⟨by omega, hcc.2⟩
    · rw [hg, upsF_keys hc] at hx
      exact hres x hx ⟨by omega, hcc.2⟩

theorem draw_skip {nt W : Nat} {all : List Oper} {base i M : Nat} {prev : List Rc} {o : Oper} {l : List Oper} {tm : Tr SV} {h : Hs} {out : Out} (m : Nat) (hm : m = Nat.mod (unionM W M (dirO o)) (Nat.pow 2 W)) (hlt : allLt i (dirO o) = true)
    (hw : wantedA all o tm.get = some false) (hd : dstOk nt o.dst = true) (hind : indepAll m ⟨i, false, [], [], base + i, base + i + 1⟩ prev = true)
    (ih : Sound E (.draw nt W all base (i + 1) (Nat.lor M (Nat.shiftLeft m (Nat.mul i W))) (⟨i, false, [], [], base + i, base + i + 1⟩ :: prev) l (putD tm o.dst (.tup [])) h) out) :
    Sound E (.draw nt W all base i M prev (o :: l) tm h) out := by
  refine draw_cons m (fun ops he hW hi hiW hb hbd hres hanc hpr ps hps => ?_) hm ih
  have hnone : h.hp.get (base + i) = none := by
    cases hx : h.hp.get (base + i) with
    | none => rfl
    | some o' => exact absurd ⟨Nat.le_refl _, by omega⟩ (hres (base + i) (by rw [hx]; simp))
  refine ⟨⟨⟨o.dst, .tup [], fun x => decide (x = base + i), h.hp.get⟩, ⟨i, false, [], [], base + i, base + i + 1⟩, m, fun _ => False, fun x => x = base + i, fun _ => False⟩, rfl, ?_, putD_get _ _ _, ?_, fun x hx => hx, fun x _ _ _ => rfl, fun x _ _ hl => hl, hbd, fun x hx hcc => hres x hx ⟨by omega, hcc.2⟩, fun _ => ⟨rfl, by show base + i < base + W; omega⟩⟩
  · refine ⟨rfl, fun ro => ?_, allLt_iff hlt, hanc, rfl, ind_of hind hps, fun x => ?_, fun _ => ⟨rfl, rfl, rfl, fun x hx => hx.elim, fun x hx => hx, fun x hx => hx.elim⟩, (fun hc => by cases hc), Nat.le_refl _, hres, hb⟩
    · subst he
      exact step_skip hi hw hd hnone (fun x => by simp)
    · show decide (x = base + i) = true ↔ (x ∈ ([] : List Nat) ∨ (base + i ≤ x ∧ x < base + i + 1))
      simp; omega
  · funext x
    unfold mixF
    split <;> rfl

theorem draw_call {nt W : Nat} {all : List Oper} {base i M : Nat} {prev : List Rc} {o : Oper} {c : Call} {l : List Oper} {tm : Tr SV} {h h2 : Hs} {out : Out} {fv v : SV} {as : List SV} (m : Nat) (hm : m = Nat.mod (unionM W M (dirO o)) (Nat.pow 2 W)) (hlt : allLt i (dirO o) = true)
    (hw : wantedA all o tm.get = some true) (hd : dstOk nt o.dst = true) (hop : o.op = .call c) (hc : calleeV tm.get c.callee = some fv) (has : vals tm.get c.args.toList = some as) (hs : Sound E (.call fv as ⟨hide m prev h.hp, h.nx, []⟩) (.res v h2))
    (hind : indepAll m ⟨i, true, [], below h.nx h2.lg [], h.nx, h2.nx⟩ prev = true)
    (ih : Sound E (.draw nt W all base (i + 1) (Nat.lor M (Nat.shiftLeft m (Nat.mul i W))) (⟨i, true, [], below h.nx h2.lg [], h.nx, h2.nx⟩ :: prev) l (putD tm o.dst v) ⟨unhide m h.hp prev h2.hp, h2.nx, below h.nx h2.lg h.lg⟩) out) :
    Sound E (.draw nt W all base i M prev (o :: l) tm h) out := by
  refine draw_cons m (fun ops he hW hi hiW hb hbd hres hanc hpr ps hps => ?_) hm ih
  have hbm : Bd ⟨hide m prev h.hp, h.nx, []⟩ := by
    intro x hx
    show (hide m prev h.hp).get x = none
    by_cases hh : Hid m prev x
    · exact (hide_get prev h.hp x).1 hh
    · rw [(hide_get prev h.hp x).2 hh]; exact hbd x hx
  obtain ⟨_, fac, sem⟩ := (show Bd ⟨hide m prev h.hp, h.nx, []⟩ → _ from hs) hbm
  have fac : Fac ⟨hide m prev h.hp, h.nx, []⟩ h2 := fac ⟨false, v, h2⟩ (by simp)
  have sem := SemCalls.one sem
  have fnx : h.nx ≤ h2.nx := fac.nx
  have hHid : ∀ x, Hid m prev x → x < base + W ∧ x ∉ h2.lg := by
    rintro x ⟨p, hp, hb1, rfl⟩
    rcases indepAll_spec hind p hp with h1 | h1
    · rw [hb1] at h1; simp at h1
    · have hI := indepR_spec h1
      obtain ⟨c1, c2⟩ := hI.c2 rfl
      obtain ⟨e1, e2⟩ := hpr p hp c1
      refine ⟨e2, fun hl => ?_⟩
      have := hI.a2 p.lo (mem_below.2 (.inl ⟨hl, by omega⟩))
      omega
  have hget1 : ∀ x, (unhide m h.hp prev h2.hp).get x = if x ∈ h2.lg ∧ x < h.nx ∨ h.nx ≤ x ∧ x < h2.nx then h2.hp.get x else h.hp.get x := by
    intro x
    by_cases hh : Hid m prev x
    · obtain ⟨q1, q2⟩ := hHid x hh
      rw [(unhide_get prev h2.hp x).1 hh, if_neg (by rintro (⟨h1, _⟩ | ⟨h1, _⟩); exact q2 h1; omega)]
    · rw [(unhide_get prev h2.hp x).2 hh]
      split
      · rfl
      · rename_i hn
        by_cases hx : x < h.nx
        · have := fac.lg x hx (fun hl => hn (.inl ⟨hl, hx⟩))
          rw [this]
          exact (hide_get prev h.hp x).2 hh
        · rw [fac.bd x (by
            by_cases hx2 : x < h2.nx
            · exact absurd (.inr ⟨by omega, hx2⟩) hn
            · show h2.nx ≤ x; omega), hbd x (by omega)]
  have hdead : ∀ x, x < h.nx → h.hp.get x = none → h2.hp.get x = none := by
    intro x hx hn
    refine fac.dead x hx ?_
    show (hide m prev h.hp).get x = none
    by_cases hh : Hid m prev x
    · exact (hide_get prev h.hp x).1 hh
    · rw [(hide_get prev h.hp x).2 hh]; exact hn
  refine ⟨⟨⟨o.dst, v, fun x => decide (x ∈ h2.lg ∧ x < h.nx ∨ h.nx ≤ x ∧ x < h2.nx), h2.hp.get⟩, ⟨i, true, [], below h.nx h2.lg [], h.nx, h2.nx⟩, m, fun x => (hide m prev h.hp).get x ≠ none, fun x => h.nx ≤ x, fun x => h.nx ≤ x ∧ x < h2.nx⟩, rfl, ?_, putD_get _ _ _, ?_, fun x hx => mem_below.2 (.inr hx), fun x hx hn hl => ?_, fun x hx hn hl => ?_, fun x hx => ?_, fun x hx => ?_, fun hc => by cases hc⟩
  · refine ⟨rfl, fun ro => ?_, allLt_iff hlt, hanc, rfl, ind_of hind hps, fun x => ?_, (fun hc => by cases hc), fun _ => ⟨rfl, rfl, fun x hx => ⟨?_, fun p hp hbp hxe => ?_⟩, fun x hx => hx, fun x hx => hx⟩, fnx, hres, hb⟩
    · subst he
      refine StepS.congrH (step_call (D := fun x => decide (x ∈ h2.lg ∧ x < h.nx ∨ h.nx ≤ x ∧ x < h2.nx)) hi hw hd hop hc has sem (fun x hx hl => ?_) (fun x hx hl => ?_)) (fun x hx => ?_)
      · have hn : ¬ (x ∈ h2.lg ∧ x < h.nx ∨ h.nx ≤ x ∧ x < h2.nx) := by simpa using hx
        exact fac.lg x hl (fun hc => hn (.inl ⟨hc, hl⟩))
      · have hn : ¬ (x ∈ h2.lg ∧ x < h.nx ∨ h.nx ≤ x ∧ x < h2.nx) := by simpa using hx
        refine fac.bd x ?_
        by_cases hx2 : x < h2.nx
        · exact absurd (.inr ⟨hl, hx2⟩) hn
        · omega
      · by_cases hh : Hid m prev x
        · exact absurd ((hide_get prev h.hp x).1 hh) hx
        · exact (hide_get prev h.hp x).2 hh
    · show decide (x ∈ h2.lg ∧ x < h.nx ∨ h.nx ≤ x ∧ x < h2.nx) = true ↔ (x ∈ below h.nx h2.lg [] ∨ (h.nx ≤ x ∧ x < h2.nx))
      rw [mem_below]
      simp
    · by_cases hh : Hid m prev x
      · exact absurd ((hide_get prev h.hp x).1 hh) hx
      · rw [← (hide_get prev h.hp x).2 hh]; exact hx
    · have hh : Hid m prev x := ⟨p.rc, by rw [← hps]; exact List.mem_map.2 ⟨p, hp, rfl⟩, hbp, hxe.symm⟩
      exact hx ((hide_get prev h.hp x).1 hh)
  · funext x
    show (unhide m h.hp prev h2.hp).get x = mixF _ h2.hp.get h.hp.get x
    rw [hget1]
    unfold mixF
    simp only [decide_eq_true_eq]
  · show (unhide m h.hp prev h2.hp).get x = _
    rw [hget1, if_neg (by
      rintro (⟨h1, h3⟩ | ⟨h1, _⟩)
      · exact hl (mem_below.2 (.inl ⟨h1, h3⟩))
      · omega)]
  · show (unhide m h.hp prev h2.hp).get x = _
    rw [hget1]
    split
    · exact hdead x hx hl
    · exact hl
  · have hx : h2.nx ≤ x := hx
    show (unhide m h.hp prev h2.hp).get x = _
    rw [hget1, if_neg (by omega)]
    exact hbd x (by omega)
  · intro hcc
    have hx : (unhide m h.hp prev h2.hp).get x ≠ none := hx
    rw [hget1] at hx
    have hlt' : x < h.nx := by omega
    have hn0 : h.hp.get x = none := by
      cases hq : h.hp.get x with
      | none => rfl
      | some o' => exact absurd ⟨by omega, hcc.2⟩ (hres x (by rw [hq]; simp))
    split at hx
    · exact hx (hdead x hlt' hn0)
    · exact hx hn0

theorem maskAll_spec {m : Nat} : ∀ {i : Nat}, maskAll m i = true → ∀ j, j < i → bitB m j = true
  | 0, _, j, hj => by omega
  | i + 1, h, j, hj => by
    have h : (bitB m i && maskAll m i) = true := h
    rw [Bool.and_eq_true] at h
    by_cases e : j = i
    · rw [e]; exact h.1
    · exact maskAll_spec h.2 j (by omega)

/-- The last operation panics. -/
theorem draw_pan {nt W : Nat} {all : List Oper} {base i M : Nat} {prev : List Rc} {o : Oper} {c : Call} {l : List Oper} {tm : Tr SV} {h h2 : Hs} {fv v : SV} {as : List SV} (m : Nat) (hm : m = Nat.mod (unionM W M (dirO o)) (Nat.pow 2 W)) (hlt : allLt i (dirO o) = true)
    (hw : wantedA all o tm.get = some true) (hop : o.op = .call c) (hc : calleeV tm.get c.callee = some fv) (has : vals tm.get c.args.toList = some as) (hs : Sound E (.call fv as ⟨hide m prev h.hp, h.nx, []⟩) (.pan v h2)) (hl : nilB' l = true) (hma : maskAll m i = true) (hab : allBits m prev = true) :
    Sound E (.draw nt W all base i M prev (o :: l) tm h) (.codes [⟨.pan v, tm, [], ⟨h2.hp, h2.nx, below h.nx h2.lg h.lg⟩⟩]) := by
  intro ops he hW hd hb hbd hres hinv hpr ps hps
  obtain ⟨hi, hd', hlt'⟩ := drop_cons hd
  obtain ⟨m1, m2⟩ := mask_spec hi hinv
  have hnil : l = [] := by cases l with
    | nil => rfl
    | cons _ _ => cases hl
  subst hnil
  have hlast : i + 1 = ops.size := by
    have := congrArg List.length hd
    simp at this; omega
  have hH : (hide m prev h.hp).get = h.hp.get := by
    funext x
    refine (hide_get prev h.hp x).2 (fun ⟨p, hp, hp2, _⟩ => ?_)
    have : ∀ (l : List Rc), allBits m l = true → ∀ p ∈ l, bitB m p.i = true := by
      intro l
      induction l with
      | nil => intro _ p hp; simp at hp
      | cons q l ih =>
        intro hq p hp
        have hq : (bitB m q.i && allBits m l) = true := hq
        rw [Bool.and_eq_true] at hq
        rcases List.mem_cons.1 hp with rfl | hp
        · exact hq.1
        · exact ih hq.2 p hp
    rw [this prev hab p hp] at hp2
    cases hp2
  have hbm : Bd ⟨hide m prev h.hp, h.nx, []⟩ := fun x hx => by
    show (hide m prev h.hp).get x = none
    rw [hH]; exact hbd x hx
  obtain ⟨_, fac, sem⟩ := (show Bd ⟨hide m prev h.hp, h.nx, []⟩ → _ from hs) hbm
  have fac : Fac ⟨hide m prev h.hp, h.nx, []⟩ h2 := fac ⟨true, v, h2⟩ (by simp)
  have sem := SemCalls.one sem
  have sem : SemCall E true fv as (hide m prev h.hp).get h.nx v h2.hp.get h2.nx := sem
  rw [hH] at sem
  have glg : ∀ x, x < h.nx → x ∉ h2.lg → h2.hp.get x = h.hp.get x := fun x hx hn => by rw [← hH]; exact fac.lg x hx hn
  have gdead : ∀ x, x < h.nx → h.hp.get x = none → h2.hp.get x = none := fun x hx hn => fac.dead x hx (by show (hide m prev h.hp).get x = none; rw [hH]; exact hn)
  refine ⟨v, tm, [], ⟨h2.hp, h2.nx, below h.nx h2.lg h.lg⟩, rfl, ⟨fac.nx, fac.bd, fun x hx hn hl => glg x hx (fun hc => hl (mem_below.2 (.inl ⟨hc, hx⟩))), fun x hx => mem_below.2 (.inr hx), fun x hx _ hn => gdead x hx hn⟩, [], o, ps, h.hp.get, h.nx, rfl, .nil, ?_⟩
  refine ⟨hlast, hi, allLt_iff hlt, fun j hj => anc_mono _ _ _ (by omega) j (m1 j (by rw [← hm]; exact (bitB_iff _ _).1 (maskAll_spec hma j hj))).2, fac.nx, fun ro mm g a w Q K hE hfr hr hnx hk => ?_⟩
  subst he
  refine op_call (g := g) (H := h.hp.get) (nx := h.nx) hi hw hop hc has hfr (fun _ _ => rfl) (fun u us hu hus => sem (mm - 1) g w u us hE hr hnx hu hus) ?_
  rintro e w' ⟨r, rfl, g', h1, h3, h4, h5, h6⟩
  exact ⟨true, r, rfl, (fun hc => by cases hc), fun _ => hk r w' g' h1 h3 h4 h5 h6⟩

theorem goK1_inv {rec : Job → Out} {h : Hs} {fo : Option SV} {ao : Option (List SV)} {k kp : SV → Hs → Out} {Q : Out → Prop} (hf : ∀ s, Q (.fail s)) (ht : ∀ a b c, Q (.trap a b c))
    (hr : ∀ fv as v h2, fo = some fv → ao = some as → rec (.call fv as h) = .res v h2 → Q (k v h2)) (hp : ∀ fv as v h2, fo = some fv → ao = some as → rec (.call fv as h) = .pan v h2 → Q (kp v h2)) : Q (goK1 rec h fo ao k kp) := by
  unfold goK1
  cases fo with
  | none => exact hf _
  | some fv =>
    cases ao with
    | none => exact hf _
    | some as =>
      show Q (oneK (rec (.call fv as h)) k kp)
      cases hrc : rec (.call fv as h) with
      | ress l =>
        cases l with
        | nil => exact hf _
        | cons r l =>
          cases l with
          | nil =>
            obtain ⟨pan, v, h2⟩ := r
            cases pan with
            | false => exact hr fv as v h2 rfl rfl hrc
            | true => exact hp fv as v h2 rfl rfl hrc
          | cons _ _ => exact hf _
      | fail s => exact hf _
      | trap a b c => exact ht _ _ _
      | _ => exact hf _

theorem step_draw_sound {rec : Job → Out} (hrec : ∀ j, Sound E j (rec j)) (nt W : Nat) (all : List Oper) (base i M : Nat) (prev : List Rc) (l : List Oper) (tm : Tr SV) (h : Hs) :
    Sound E (.draw nt W all base i M prev l tm h) (stepDraw E rec nt W all base i M prev l tm h) := by
  cases l with
  | nil =>
    intro ops he hW hd hb hbd hres hinv hpr ps hps
    exact ⟨⟨Nat.le_refl _, hbd, fun _ _ _ _ => rfl, fun _ h => h, fun _ _ _ h => h⟩, ps, .nil⟩
  | cons o l =>
    show Sound E _ (sel (dstOk nt o.dst && allLt i (dirO o)) (force (Nat.mod (unionM W M (dirO o)) (Nat.pow 2 W)) fun m => wantD E rec nt W all base i M m prev l tm h o (wantedA all o tm.get)) (.fail "slot"))
    rw [sel_if]
    split
    rotate_left
    · trivial
    rename_i hd
    rw [Bool.and_eq_true] at hd
    obtain ⟨hd, hlt⟩ := hd
    rw [force_eq]
    generalize hm : Nat.mod (unionM W M (dirO o)) (Nat.pow 2 W) = m
    unfold wantD
    have next : ∀ (r : Rc) (v : SV) (h1 : Hs) (out : Out), nextD rec nt W all base i M m prev l tm o.dst r v h1 = out → (∃ s, out = .fail s) ∨ (indepAll m r prev = true ∧ out = rec (.draw nt W all base (i + 1) (Nat.lor M (Nat.shiftLeft m (Nat.mul i W))) (r :: prev) l (putD tm o.dst v) h1)) := by
      intro r v h1 out ho
      unfold nextD at ho
      rw [sel_if, force_eq] at ho
      split at ho
      · rename_i hi; exact .inr ⟨hi, ho.symm⟩
      · exact .inl ⟨_, ho.symm⟩
    cases hw : wantedA all o tm.get with
    | none => trivial
    | some wb =>
      show Sound E _ (sel wb (doD E rec nt W all base i M m prev l tm h o (callOf o.op)) (nextD rec nt W all base i M m prev l tm o.dst ⟨i, false, [], [], Nat.add base i, Nat.add (Nat.add base i) 1⟩ (.tup []) h))
      cases wb with
      | false =>
        show Sound E _ (nextD rec nt W all base i M m prev l tm o.dst ⟨i, false, [], [], Nat.add base i, Nat.add (Nat.add base i) 1⟩ (.tup []) h)
        rcases next ⟨i, false, [], [], Nat.add base i, Nat.add (Nat.add base i) 1⟩ (.tup []) h _ rfl with ⟨s, hs⟩ | ⟨hi, hs⟩
        · rw [hs]; trivial
        · rw [hs]; exact draw_skip m hm.symm hlt hw hd hi (hrec _)
      | true =>
        show Sound E _ (doD E rec nt W all base i M m prev l tm h o (callOf o.op))
        unfold doD
        cases hc : callOf o.op with
        | none =>
          show Sound E _ (valD rec nt W all base i M m prev l tm h o (opA E o.op tm.get h.hp.get (Nat.add base i)))
          unfold valD
          cases ho : opA E o.op tm.get h.hp.get (Nat.add base i) with
          | none => trivial
          | some r =>
            show Sound E _ (nextD rec nt W all base i M m prev l tm o.dst ⟨i, false, readsOf o.op tm.get, wrOf (Nat.add base i) r.2, Nat.add base i, Nat.add (Nat.add base i) 1⟩ r.1 (h.ups r.2))
            rcases next ⟨i, false, readsOf o.op tm.get, wrOf (Nat.add base i) r.2, Nat.add base i, Nat.add (Nat.add base i) 1⟩ r.1 (h.ups r.2) _ rfl with ⟨s, hs⟩ | ⟨hi, hs⟩
            · rw [hs]; trivial
            · rw [hs]; exact draw_val m hm.symm hlt hw hd ho (defer_none ho) hi (hrec _)
        | some c =>
          obtain ⟨hop, _⟩ := callOf_some hc
          refine goK1_inv (Q := Sound E _) (fun _ => trivial) (fun _ _ _ => trivial) (fun fv as v h2 h1 h3 h4 => ?_) (fun fv as v h2 h1 h3 h4 => ?_)
          · have hs := hrec (.call fv as ⟨hide m prev h.hp, h.nx, []⟩)
            rw [h4] at hs
            rcases next ⟨i, true, [], below h.nx h2.lg [], h.nx, h2.nx⟩ v ⟨unhide m h.hp prev h2.hp, h2.nx, below h.nx h2.lg h.lg⟩ _ rfl with ⟨s, he⟩ | ⟨hi, he⟩
            · rw [he]; trivial
            · rw [he]; exact draw_call m hm.symm hlt hw hd hop h1 h3 hs hi (hrec _)
          · have hs := hrec (.call fv as ⟨hide m prev h.hp, h.nx, []⟩)
            rw [h4] at hs
            show Sound E _ (sel (nilB' l && (maskAll m i && allBits m prev)) (.code (.pan v) tm [] ⟨h2.hp, h2.nx, below h.nx h2.lg h.lg⟩) (.fail "panic in a drawn region"))
            rw [sel_if]
            split
            rotate_left
            · trivial
            rename_i hcnd
            rw [Bool.and_eq_true, Bool.and_eq_true] at hcnd
            exact draw_pan m hm.symm hlt hw hop h1 h3 hs hcnd.1 hcnd.2.1 hcnd.2.2

end Go.Sim
