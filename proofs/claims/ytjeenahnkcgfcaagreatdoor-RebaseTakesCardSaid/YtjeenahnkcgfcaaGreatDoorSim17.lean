/- A region that draws its order, as the machine runs it. -/
import Derived.Test.YtjeenahnkcgfcaaGreatDoorSim16
set_option linter.unusedVariables false
set_option linter.unusedSimpArgs false
namespace Go.Sim
open Go.RowKit

variable {E : Env} {g : Gh} {w : World} {nt W base : Nat} {ops : Array Oper}

structure St where
  u : Stp
  rc : Rc
  m : Nat
  need : Nat → Prop
  frp : Nat → Prop
  newp : Nat → Prop
instance : Inhabited St := ⟨⟨⟨none, .undef, fun _ => false, fun _ => none⟩, ⟨0, false, [], [], 0, 0⟩, 0, fun _ => False, fun _ => False, fun _ => False⟩⟩

structure Cnd (E : Env) (nt W : Nat) (ops : Array Oper) (base i : Nat) (prev : List St) (o : Oper) (T : Tf) (F : Hf) (nx : Nat) (s : St) (nx1 : Nat) : Prop where
  dst : s.u.dst = o.dst
  step : ∀ ro, StepS E ro nt ops i o T s.need F s.frp s.newp s.u.v s.u.D s.u.H
  lt : ∀ d ∈ dirO o, d < i
  anc : ∀ b, bitB s.m b = true → b ∈ anc ops (i + 1) i
  rci : s.rc.i = i
  ind : ∀ p ∈ prev, bitB s.m p.rc.i = true ∨ IndepR p.rc s.rc
  D : ∀ x, s.u.D x = true ↔ (x ∈ s.rc.wr ∨ (s.rc.lo ≤ x ∧ x < s.rc.hi))
  smp : s.rc.call = false → s.rc.lo = base + i ∧ s.rc.hi = base + i + 1 ∧ nx1 = nx ∧ (∀ x, s.need x → x ∈ s.rc.rd) ∧ (∀ x, s.frp x → x = base + i) ∧ ∀ x, s.newp x → x = base + i
  cal : s.rc.call = true → s.rc.lo = nx ∧ s.rc.hi = nx1 ∧ (∀ x, s.need x → F x ≠ none ∧ ∀ p ∈ prev, bitB s.m p.rc.i = false → x ≠ p.rc.lo) ∧ (∀ x, s.frp x → nx ≤ x) ∧ ∀ x, s.newp x → nx ≤ x ∧ x < nx1
  nxle : nx ≤ nx1
  bd : ∀ x, F x ≠ none → ¬ (base + i ≤ x ∧ x < base + W)
  base : base + W ≤ nx

inductive DT (E : Env) (nt W : Nat) (ops : Array Oper) (base : Nat) : Nat → List St → List Oper → Tf → Hf → Nat → Tf → Hf → Nat → List St → Prop
  | nil {i prev T F nx} : DT E nt W ops base i prev [] T F nx T F nx prev
  | cons {i prev o l T F nx s nx1 T' F' nx' out} (c : Cnd E nt W ops base i prev o T F nx s nx1) (h : DT E nt W ops base (i + 1) (s :: prev) l (putT T s.u.dst s.u.v) (mixF s.u.D s.u.H F) nx1 T' F' nx' out) : DT E nt W ops base i prev (o :: l) T F nx T' F' nx' out

theorem stP_shift (U : Nat → Stp) (i j : Nat) (s : DS) : stP U (List.range' i (j + 1)) (fun _ => true) s = stP U (List.range' (i + 1) j) (fun _ => true) (s.app (U i)) := by
  simp [stP, List.range'_succ]

theorem DT.steps {i : Nat} {prev : List St} {l : List Oper} {T : Tf} {F : Hf} {nx : Nat} {T' : Tf} {F' : Hf} {nx' : Nat} {out : List St} (h : DT E nt W ops base i prev l T F nx T' F' nx' out) : prev.length = i →
    out.length = i + l.length ∧ (∃ new, out = new ++ prev) ∧ ∃ NX : Nat → Nat, NX i = nx ∧ NX (i + l.length) = nx' ∧
      (∀ j o, l[j]? = some o → ∃ s, out.reverse[i + j]? = some s ∧ Cnd E nt W ops base (i + j) (out.drop (out.length - (i + j))) o (stP (fun x => (out.reverse.getD x default).u) (List.range' i j) (fun _ => true) ⟨T, F⟩).T
        (stP (fun x => (out.reverse.getD x default).u) (List.range' i j) (fun _ => true) ⟨T, F⟩).F (NX (i + j)) s (NX (i + j + 1))) ∧
      (⟨T', F'⟩ : DS) = stP (fun x => (out.reverse.getD x default).u) (List.range' i l.length) (fun _ => true) ⟨T, F⟩ := by
  induction h with
  | nil =>
    intro hp
    exact ⟨by simpa using hp, ⟨[], rfl⟩, fun _ => _, rfl, rfl, by simp, by simp [stP]⟩
  | @cons i prev o l T F nx s nx1 T' F' nx' out c h ih =>
    intro hp
    obtain ⟨q1, ⟨new, q2⟩, NX, q3, q4, q5, q6⟩ := ih (by simp [hp])
    have hsi : out.reverse[i]? = some s := by
      rw [q2]
      rw [List.reverse_append, List.reverse_cons, List.append_assoc, List.getElem?_append_right (by simp; omega)]
      simp [hp]
    have hU : (out.reverse.getD i default).u = s.u := by rw [List.getD_eq_getElem?_getD, hsi]; rfl
    have happ : (⟨T, F⟩ : DS).app (out.reverse.getD i default).u = ⟨putT T s.u.dst s.u.v, mixF s.u.D s.u.H F⟩ := by rw [hU]; rfl
    refine ⟨by simp; omega, ⟨new ++ [s], by simp [q2]⟩, fun k => if k = i then nx else NX k, by simp, ?_, ?_, ?_⟩
    · simp only [List.length_cons]
      rw [if_neg (by omega)]
      rw [← q4]; congr 1; omega
    · intro j o' ho
      cases j with
      | zero =>
        simp at ho; subst ho
        refine ⟨s, by simpa using hsi, ?_⟩
        have e1 : (if i + 0 + 1 = i then nx else NX (i + 0 + 1)) = nx1 := by rw [if_neg (by omega)]; exact q3
        have e2 : (if i + 0 = i then nx else NX (i + 0)) = nx := by simp
        have e3 : out.drop (out.length - (i + 0)) = prev := by
          rw [q2]
          have : (new ++ s :: prev).length - (i + 0) = (new ++ [s]).length := by simp; omega
          rw [this, show new ++ s :: prev = (new ++ [s]) ++ prev from by simp]
          simp
        simp only [e1, e2, e3]
        exact c
      | succ j =>
        simp at ho
        obtain ⟨s', r1, r2⟩ := q5 j o' ho
        refine ⟨s', by rw [← r1]; congr 1; omega, ?_⟩
        have a1 : i + (j + 1) = i + 1 + j := by omega
        rw [stP_shift, happ, a1]
        simp only [if_neg (show ¬ i + 1 + j = i by omega), if_neg (show ¬ i + 1 + j + 1 = i by omega)]
        exact r2
    · rw [List.length_cons, stP_shift, happ]
      exact q6

theorem slotsB_spec {p r : Oper} (h : slotsB ops.toList p r = true) : (∀ t, p.dst = some t → t ∉ r.looksAt ops) ∧ (∀ t, r.dst = some t → t ∉ p.looksAt ops) ∧ ∀ t, p.dst = some t → r.dst ≠ some t := by
  unfold slotsB at h
  rw [Bool.and_eq_true, Bool.and_eq_true, looks_eq, looks_eq] at h
  obtain ⟨h1, h2, h3⟩ := h
  refine ⟨fun t ht => disjB_spec h1 t (by simp [ht]), fun t ht => disjB_spec h2 t (by simp [ht]), fun t ht hr => disjB_spec h3 t (by simp [ht]) (by simp [hr])⟩

theorem region_draw {T T' : Tf} {F F' : Hf} {nx nx' : Nat} {out : List St} {l0 : List Oper} (hs : slotsOk ops.size ops.toList ops.toList 0 0 [] = true) (hmix : E.P.follows .mixedOrders = true) (hpre : ops.toList.take l0.length = l0) (hdt : DT E nt ops.size ops base 0 [] l0 T F nx T' F' nx' out) (hbn : base ≤ nx)
    {ro : Option Nat} {a : Act} {id m : Nat} {Q : Exit → Act → World → Prop} (hE : EnvOK E g) (hfr : FR g nt T a.tmps) (hr : HR g F w) (hnew : ∀ x, base ≤ x → g.ρ x = none)
    (hend : l0.length = ops.size ∨ (l0.length + 1 = ops.size ∧ (∀ d ∈ direct ops l0.length, d < l0.length) ∧ (∀ j, j < l0.length → j ∈ anc ops ops.size l0.length) ∧ ∀ (g' : Gh) (a' : Act) (w' : World) (K : Act → World → Prop), EnvOK E g' → FR g' nt T' a'.tmps → HR g' F' w' → Fr g F w g' F' w' → a'.defers = a.defers →
      (∀ x, x < base → g'.ρ x = g.ρ x) → (∀ x, nx' ≤ x → g'.ρ x = none) → wpOpIn (fro ro) m E.P ops Q l0.length K a' w'))
    (hq : l0.length = ops.size → ∀ g' a' w', FR g' nt T' a'.tmps → HR g' F' w' → Fr g F w g' F' w' → a'.defers = a.defers → (∀ x, x < base → g'.ρ x = g.ρ x) → (∀ x, nx' ≤ x → g'.ρ x = none) → Q .normal a' w') : (Code.region id ops true).wpIn (fro ro) m E.P Q a w := by
  obtain ⟨ol, _, NX, n0, n1, cnd, fin⟩ := hdt.steps rfl
  simp only [Nat.zero_add] at ol n1 cnd fin
  have hnn : l0.length ≤ ops.size := by rcases hend with h | h <;> omega
  have hop : ∀ j (hj : j < l0.length), l0[j]? = some (ops[j]'(by omega)) := by
    intro j hj
    have h1 : (ops.toList.take l0.length)[j]? = some (ops[j]'(by omega)) := by
      rw [List.getElem?_take, if_pos hj]
      simp [show j < ops.size by omega]
    rw [hpre] at h1
    exact h1
  let S : Nat → St := fun x => out.reverse.getD x default
  have hS : ∀ j (hj : j < l0.length), Cnd E nt ops.size ops base j (out.drop (out.length - j)) (ops[j]'(by omega)) (stP (fun x => (S x).u) (List.range' 0 j) (fun _ => true) ⟨T, F⟩).T (stP (fun x => (S x).u) (List.range' 0 j) (fun _ => true) ⟨T, F⟩).F (NX j) (S j) (NX (j + 1)) := by
    intro j hj
    obtain ⟨s, r1, r2⟩ := cnd j (ops[j]'(by omega)) (hop j hj)
    have : S j = s := by simp only [S, List.getD_eq_getElem?_getD, r1]; rfl
    rw [this]; exact r2
  have hmono : ∀ d j, j + d ≤ l0.length → NX j ≤ NX (j + d) := by
    intro d
    induction d with
    | zero => intro j _; exact Nat.le_refl _
    | succ d ih => intro j hj; exact Nat.le_trans (ih j (by omega)) ((hS (j + d) (by omega)).nxle)
  have hmono' : ∀ j k, j ≤ k → k ≤ l0.length → NX j ≤ NX k := fun j k h1 h2 => by
    have := hmono (k - j) j (by omega)
    rwa [show j + (k - j) = k by omega] at this
  have hmem : ∀ i j, i < j → j < l0.length → S i ∈ out.drop (out.length - j) := by
    intro i j hij hj
    have hi : i < out.reverse.length := by simp; omega
    have e : out.drop (out.length - j) = (out.reverse.take j).reverse := by
      rw [List.take_reverse]; simp
    rw [e, List.mem_reverse, List.mem_take_iff_getElem]
    refine ⟨i, by simp; omega, ?_⟩
    simp only [S, List.getD_eq_getElem?_getD, List.getElem?_eq_getElem hi, Option.getD_some]
  have hpair : ∀ i j, i < j → j < l0.length → i ∈ anc ops ops.size j ∨ (bitB (S j).m i = false ∧ IndepR (S i).rc (S j).rc ∧ ∀ p r, ops[i]? = some p → ops[j]? = some r → slotsB ops.toList p r = true) := by
    intro i j hij hj
    have ci := hS i (by omega)
    have cj := hS j hj
    by_cases ha : i ∈ anc ops ops.size j
    · exact .inl ha
    · have hb : bitB (S j).m i = false := by
        cases hb : bitB (S j).m i with
        | false => rfl
        | true => exact absurd (anc_mono _ _ _ (by omega) i (cj.anc i hb)) ha
      refine .inr ⟨hb, ?_, fun p r hp hr => ?_⟩
      · rcases cj.ind (S i) (hmem i j hij hj) with h | h
        · rw [ci.rci, hb] at h; simp at h
        · exact h
      · rcases slotsOk_spec ops.toList 0 0 [] hs (by simp) (by simp) (fun p hp => by simp at hp) j (Nat.zero_le _) (by omega) i hij p r hp hr with h | h
        · exact absurd (anc_mono _ _ _ (by omega) i h) ha
        · exact h
  have hdef : ∀ j, l0.length ≤ j → S j = default := by
    intro j hj
    show out.reverse.getD j default = default
    rw [List.getD_eq_getElem?_getD, List.getElem?_eq_none (by simp; omega)]
    rfl
  have hno : ∀ (g' : Gh) x, (x < base ∨ nx' ≤ x) → (∀ y, g'.ρ y ≠ g.ρ y → ∃ k, k < l0.length ∧ (S k).newp y) → g'.ρ x = g.ρ x := by
    intro g' x hx hy
    by_cases he : g'.ρ x = g.ρ x
    · exact he
    · exfalso
      obtain ⟨i, hi, hn⟩ := hy x he
      have ci := hS i hi
      have hbi := ci.base
      have hm0 := hmono' 0 i (by omega) (by omega)
      have hm1 := hmono' (i + 1) l0.length (by omega) (Nat.le_refl _)
      have hm2 := ci.nxle
      rw [n0] at hm0
      rw [n1] at hm1
      cases hci : (S i).rc.call with
      | false => obtain ⟨_, _, _, _, _, e1⟩ := ci.smp hci; have := e1 x hn; omega
      | true => obtain ⟨_, _, _, _, e1⟩ := ci.cal hci; have := e1 x hn; omega
  have hmm := hmono' 0 l0.length (by omega) (Nat.le_refl _)
  rw [n0, n1] at hmm
  refine draw_sound (S := fun i => l0.length ≤ i) (s0 := ⟨T, F⟩) (U := fun x => (S x).u) (need := fun i => (S i).need) (frp := fun i => (S i).frp) (newp := fun i => (S i).newp) hmix (fun i hi hns => ⟨(hS i (by omega)).dst, (hS i (by omega)).step ro⟩) (fun j hj => ?_) ?_ hE hfr hr ?_ ?_ ?_
  · by_cases hjn : l0.length ≤ j
    · rcases hend with he | ⟨he, h1, h2, _⟩
      · omega
      · have e : j = l0.length := by omega
        subst e
        exact ⟨h1, fun i hij => .inl (h2 i hij)⟩
    have hj0 := hj
    have hj : j < l0.length := by omega
    refine ⟨fun i hi => ?_, fun i hij => ?_⟩
    · rw [direct_eq (Array.getElem?_eq_getElem hj0)] at hi
      exact (hS j hj).lt i hi
    rcases hpair i j hij hj with h | ⟨hb, hI, hsl⟩
    · exact .inl h
    · have hi' : i < l0.length := by omega
      have hi0 : i < ops.size := by omega
      have ci := hS i hi'
      have cj := hS j hj
      have hbi := ci.base
      have hbj := cj.base
      obtain ⟨t1, t2, t3⟩ := slotsB_spec (hsl ops[i] ops[j] (Array.getElem?_eq_getElem hi0) (Array.getElem?_eq_getElem hj0))
      refine .inr ⟨fun t ht o ho => ?_, fun t ht o ho => ?_, fun t ht => ?_, fun x hx => ?_, fun x hx => ?_, fun x hx => ?_⟩
      · rw [Array.getElem?_eq_getElem hj0] at ho; cases ho
        exact t1 t (by rw [← ci.dst]; exact ht)
      · rw [Array.getElem?_eq_getElem hi0] at ho; cases ho
        exact t2 t (by rw [← cj.dst]; exact ht)
      · rw [cj.dst]; exact t3 t (by rw [← ci.dst]; exact ht)
      · cases hd : (S j).u.D x with
        | false => rfl
        | true =>
          exfalso
          rcases (ci.D x).1 hx with h1 | h1 <;> rcases (cj.D x).1 hd with h2 | h2
          · exact hI.b3 x h1 h2
          · rcases hI.a4 x h1 with h | h <;> omega
          · rcases hI.a2 x h2 with h | h <;> omega
          · cases hci : (S i).rc.call with
            | false =>
              obtain ⟨e1, e2, _⟩ := ci.smp hci
              cases hcj : (S j).rc.call with
              | false => obtain ⟨e3, e4, _⟩ := cj.smp hcj; omega
              | true => obtain ⟨e3, e4, _⟩ := cj.cal hcj; omega
            | true =>
              obtain ⟨e1, e2, _⟩ := ci.cal hci
              obtain ⟨e3, _⟩ := hI.c1 hci
              obtain ⟨e4, e5, _⟩ := cj.smp e3
              omega
      · cases hd : (S i).u.D x with
        | false => rfl
        | true =>
          exfalso
          cases hcj : (S j).rc.call with
          | false =>
            obtain ⟨_, _, _, e, _⟩ := cj.smp hcj
            rcases (ci.D x).1 hd with h1 | h1
            · exact hI.b2 x (e x hx) h1
            · rcases hI.a1 x (e x hx) with h | h <;> omega
          | true =>
            obtain ⟨_, _, e, _⟩ := cj.cal hcj
            obtain ⟨k1, k2⟩ := hI.c2 hcj
            obtain ⟨e1, e2, _⟩ := ci.smp k1
            rcases (ci.D x).1 hd with h1 | h1
            · rw [k2] at h1; simp at h1
            · exact (e x hx).2 (S i) (hmem i j hij hj) (by rw [ci.rci]; exact hb) (by omega)
      · cases hd : (S j).u.D x with
        | false => rfl
        | true =>
          exfalso
          cases hci : (S i).rc.call with
          | false =>
            obtain ⟨_, _, _, e, _⟩ := ci.smp hci
            rcases (cj.D x).1 hd with h1 | h1
            · exact hI.b1 x (e x hx) h1
            · rcases hI.a3 x (e x hx) with h | h <;> omega
          | true =>
            obtain ⟨_, _, e, _⟩ := ci.cal hci
            obtain ⟨k1, k2⟩ := hI.c1 hci
            obtain ⟨e1, e2, _⟩ := cj.smp k1
            rcases (cj.D x).1 hd with h1 | h1
            · rw [k2] at h1; simp at h1
            · exact ci.bd x (e x hx).1 ⟨by omega, by omega⟩
  · intro i k hi hk hne x hx hn
    by_cases hil : l0.length ≤ i
    · have hx : (S i).frp x := hx
      rw [hdef i hil] at hx; exact hx.elim
    by_cases hkl : l0.length ≤ k
    · have hn : (S k).newp x := hn
      rw [hdef k hkl] at hn; exact hn.elim
    have hi : i < l0.length := by omega
    have hk : k < l0.length := by omega
    have ci := hS i hi
    have ck := hS k hk
    have hbi := ci.base
    have hbk := ck.base
    cases hci : (S i).rc.call with
    | false =>
      obtain ⟨_, _, _, _, e1, _⟩ := ci.smp hci
      have := e1 x hx
      cases hck : (S k).rc.call with
      | false => obtain ⟨_, _, _, _, _, e2⟩ := ck.smp hck; have := e2 x hn; omega
      | true => obtain ⟨_, _, _, _, e2⟩ := ck.cal hck; have := e2 x hn; omega
    | true =>
      obtain ⟨_, _, _, e1, _⟩ := ci.cal hci
      have h1 := e1 x hx
      cases hck : (S k).rc.call with
      | false => obtain ⟨_, _, _, _, _, e2⟩ := ck.smp hck; have := e2 x hn; omega
      | true =>
        obtain ⟨_, _, _, _, e2⟩ := ck.cal hck
        have h2 := e2 x hn
        rcases Nat.lt_or_gt_of_ne hne with hlt | hgt
        · rcases hpair i k hlt hk with h | ⟨_, hI, _⟩
          · exact h
          · have := (hI.c1 hci).1
            rw [hck] at this; simp at this
        · have := hmono' (k + 1) i (by omega) (by omega)
          omega
  · intro i hi x hx
    by_cases hil : l0.length ≤ i
    · have hx : (S i).frp x := hx
      rw [hdef i hil] at hx; exact hx.elim
    have hi : i < l0.length := by omega
    have ci := hS i hi
    have hbi := ci.base
    cases hci : (S i).rc.call with
    | false => obtain ⟨_, _, _, _, e1, _⟩ := ci.smp hci; exact hnew x (by have := e1 x hx; omega)
    | true => obtain ⟨_, _, _, e1, _⟩ := ci.cal hci; exact hnew x (by have := e1 x hx; omega)
  · intro i hi hSi
    rcases hend with he | ⟨he, _, h2, h3⟩
    · have hSi : l0.length ≤ i := hSi
      omega
    · have hSi : l0.length ≤ i := hSi
      have e : i = l0.length := by omega
      subst e
      refine ⟨he, h2, fun g1 a1 w1 K q1 q2 q3 q4 q5 q6 => ?_⟩
      have hfin : (⟨T', F'⟩ : DS) = stP (fun x => (S x).u) (List.range' 0 l0.length) (fun _ => true) ⟨T, F⟩ := fin
      rw [← hfin] at q2 q3 q4
      exact h3 g1 a1 w1 K q1 q2 q3 q4 q5 (fun x hx => hno g1 x (.inl hx) q6) (fun x hx => by rw [hno g1 x (.inr hx) q6]; exact hnew x (by omega))
  · intro hns g' a' w' h1 h2 h3 h4 h5
    have he : l0.length = ops.size := by
      rcases hend with he | ⟨he, _⟩
      · exact he
      · exact absurd (Nat.le_refl _) (hns l0.length (by omega))
    have hfin : (⟨T', F'⟩ : DS) = stP (fun x => (S x).u) (List.range' 0 ops.size) (fun _ => true) ⟨T, F⟩ := by rw [← he]; exact fin
    rw [← hfin] at h1 h2 h3
    have h5' : ∀ y, g'.ρ y ≠ g.ρ y → ∃ k, k < l0.length ∧ (S k).newp y := by
      intro y hy
      apply Classical.byContradiction
      intro hc
      exact hy (h5 y (fun i hi hn => hc ⟨i, by omega, hn⟩))
    exact hq he g' a' w' h1 h2 h3 h4 (fun x hx => hno g' x (.inl hx) h5') (fun x hx => by rw [hno g' x (.inr hx) h5']; exact hnew x (by omega))

end Go.Sim
