/- Single operations: addresses, slices, append, copy. -/
import Derived.Test.YtjeenahnkcgfcaaGreatDoorSim7
import Derived.Laws.MakeOwn
set_option linter.unusedVariables false
set_option linter.unusedSimpArgs false
namespace Go.Sim
open Go.RowKit

variable {E : Env} {g : Gh} {f : Hf} {w : World}

theorem opFieldAddr_spec (hE : EnvOK E g) (h : HR g f w) {new : Nat} {s : TypeId} {k : Nat} {x v : SV} {u : Value} (hu : VR g u x) {us : List Up} (ho0 : opFieldAddr E s k x = some (v, us)) :
    ∃ r, (Instr.fieldAt s u k).run E.P w = .ok r w ∧ Post g f w v us new r g w := by
  obtain ⟨i, p, hi, hp, ho⟩ := bind2_some ho0
  obtain ⟨fs, hfs, ho⟩ := bind1_some ho
  obtain ⟨fl, hfl, ho⟩ := bind1_some ho
  obtain ⟨fi, hfi, ho⟩ := bind1_some ho
  obtain ⟨hc, ho⟩ := sel_some ho
  cases ho
  obtain rfl := ptrOf_some hp
  have hd := (hE.ty s i hi).desc
  rw [structE_some hfs] at hd
  obtain ⟨a, hu', ha, hin⟩ := hd
  subst ha
  rw [List.getElem?_map] at hfl
  cases hj : a.toList[k]? with
  | none => rw [hj] at hfl; simp at hfl
  | some fd =>
    rw [hj] at hfl; simp at hfl; subst hfl
    have hj' : a[k]? = some fd := by simpa using hj
    have hs := run_size (hE.ty _ fi hfi) w
    have h1 := (ble_iff _ _).1 hc
    have hne : ¬ fi.size = 0 := by omega
    cases hu with
    | @ptr _ _ b o hρ =>
      refine ⟨.pointer (some ⟨b, o + (p.2 + fd.offset), none⟩), ?_, Post.same h (.ptr hρ)⟩
      simp only [Instr.fieldAt, Sem.run_bind, run_underlying hu', Result.andThen_ok, hj', Instr.sureAddr, Sem.run_pure, fieldPlace, hs, if_neg hne, Sem.run_ite, add_lit, Nat.add_assoc]

theorem opField_spec (hE : EnvOK E g) (h : HR g f w) {new : Nat} {t : TypeId} {k : Nat} {x v : SV} {u : Value} (hu : VR g u x) {us : List Up} (ho0 : opField E t k x = some (v, us)) :
    ∃ r, (Instr.field t u k).run E.P w = .ok r w ∧ Post g f w v us new r g w := by
  obtain ⟨i, cs, hi, hp, ho⟩ := bind2_some ho0
  obtain ⟨fs, hfs, ho⟩ := bind1_some ho
  obtain ⟨fl, hfl, ho⟩ := bind1_some ho
  obtain ⟨fi, hfi, ho⟩ := bind1_some ho
  obtain ⟨z, hz, ho⟩ := bind1_some ho
  cases ho
  obtain rfl := aggOf_some hp
  have hd := (hE.ty t i hi).desc
  rw [structE_some hfs] at hd
  obtain ⟨a, hu', ha, hin⟩ := hd
  subst ha
  rw [List.getElem?_map] at hfl
  cases hj : a.toList[k]? with
  | none => rw [hj] at hfl; simp at hfl
  | some fd =>
    rw [hj] at hfl; simp at hfl; subst hfl
    have hj' : a[k]? = some fd := by simpa using hj
    cases hu with
    | agg hc =>
      obtain ⟨r, r1, r2⟩ := partA_spec (hE.ty _ fi hfi) hz hc w
      refine ⟨r, ?_, Post.same h r2⟩
      simp only [Instr.field, Sem.run_bind, run_underlying hu', Result.andThen_ok, hj', asAgg, Sem.run_pure, r1]

theorem opIndex_spec (hE : EnvOK E g) (h : HR g f w) {new : Nat} {t : TypeId} {k : Nat} {kk : IntKind} {x v : SV} {u : Value} (hu : VR g u x) {us : List Up} (ho0 : opIndex E t k x = some (v, us)) :
    ∃ r, (Instr.index t u (.int kk (.ofNat k))).run E.P w = .ok r w ∧ Post g f w v us new r g w := by
  obtain ⟨i, hi, ho⟩ := bind1_some ho0
  have hd := (hE.ty t i hi).desc
  generalize i.desc = D at hd ho
  cases D with
  | string =>
    obtain ⟨s, hs, ho⟩ := bind1_some (show bind1 (strOf x) (fun s => bind1 (s.data.toList[k]?) fun b => some (SV.int .u8 (.lit (.ofNat b.toNat)), ([] : List Up))) = some (v, us) from ho)
    obtain ⟨b, hb, ho⟩ := bind1_some ho
    cases ho
    obtain rfl := strOf_some hs
    cases hu
    refine ⟨.int .u8 b.toNat, ?_, Post.same h (.int _ _ (by simp [SI.ev]))⟩
    have hlt : k < s.data.toList.length := (List.getElem?_eq_some_iff.1 hb).1
    have hlt' : k < s.size := by simpa using hlt
    have hget : s[k]? = some b := by
      rw [getElem?_pos s k hlt']
      have : s.data.toList[k] = b := (List.getElem?_eq_some_iff.1 hb).2
      rw [← this]
      rfl
    have h0 : (0 : Int) ≤ Int.ofNat k := by simp
    simp only [Instr.index, asIntOf, Sem.run_bind, Sem.run_pure, Result.andThen_ok, run_underlying (show E.P.underlying t = some .string from hd), if_pos h0]
    simp only [Int.ofNat_eq_natCast, Int.toNat_natCast, hget, Sem.run_pure]
  | array n e =>
    obtain ⟨cs, ie, hcs, hie, ho⟩ := bind2_some (show bind2 (aggOf x) (E.ty.get e) (fun cs ie => sel (Nat.ble (Nat.succ k) n) (same (partA ie cs (Nat.mul k ie.size))) none) = some (v, us) from ho)
    obtain ⟨hc, ho⟩ := sel_some ho
    obtain ⟨z, hz, ho⟩ := bind1_some ho
    cases ho
    obtain rfl := aggOf_some hcs
    have hlt : k + 1 ≤ n := (ble_iff _ _).1 hc
    cases hu with
    | agg hcc =>
      obtain ⟨r, r1, r2⟩ := partA_spec (hE.ty _ ie hie) hz hcc w
      refine ⟨r, ?_, Post.same h r2⟩
      have hin : (0 : Int) ≤ Int.ofNat k ∧ Int.ofNat k < (n : Int) := ⟨by simp, by simp; omega⟩
      simp only [Instr.index, asIntOf, Sem.run_bind, Sem.run_pure, Result.andThen_ok, run_underlying (show E.P.underlying t = some (.array n e) from hd), if_pos hin, run_size (hE.ty _ ie hie)]
      exact r1
  | _ => cases ho

theorem indexAddrA_spec (hE : EnvOK E g) {t : TypeId} {k : Nat} {kk : IntKind} {x z : SV} {u : Value} (hu : VR g u x) (ho0 : indexAddrA E t x k = some z) :
    ∃ r, (Instr.indexAt t u (.int kk (.ofNat k))).run E.P w = .ok r w ∧ VR g r z := by
  obtain ⟨i, hi, ho⟩ := bind1_some ho0
  have hd := (hE.ty t i hi).desc
  generalize i.desc = D at hd ho
  cases D with
  | slice e =>
    obtain ⟨q, hq, ho⟩ := bind1_some (show bind1 (slOf x) (fun q => elemPtr E e q.1 q.2.1 q.2.2.1 k) = some z from ho)
    obtain ⟨hc, ho⟩ := sel_some ho
    obtain ⟨ie, hie, ho⟩ := bind1_some ho
    cases ho
    obtain rfl := slOf_some hq
    have hlt : k + 1 ≤ q.2.2.1 := (ble_iff _ _).1 hc
    cases hu with
    | @sl _ _ _ b o c _ hρ hn hcap hlim =>
      refine ⟨.pointer (some ⟨b, o + (q.2.1 + k * ie.size), none⟩), ?_, .ptr hρ⟩
      have hin : (0 : Int) ≤ Int.ofNat k ∧ Int.ofNat k < (q.2.2.1 : Int) := ⟨by simp, by simp; omega⟩
      simp only [Instr.indexAt, asIntOf, Sem.run_bind, Sem.run_pure, Result.andThen_ok, run_underlying (show E.P.underlying t = some (.slice e) from hd), if_pos hin, run_size (hE.ty _ ie hie), Sem.run_ite, add_lit]
      simp [Nat.add_assoc]
  | array n e =>
    obtain ⟨q, hq, ho⟩ := bind1_some (show bind1 (ptrOf x) (fun q => elemPtr E e q.1 q.2 n k) = some z from ho)
    obtain ⟨hc, ho⟩ := sel_some ho
    obtain ⟨ie, hie, ho⟩ := bind1_some ho
    cases ho
    obtain rfl := ptrOf_some hq
    have hlt : k + 1 ≤ n := (ble_iff _ _).1 hc
    cases hu with
    | @ptr _ _ b o hρ =>
      refine ⟨.pointer (some ⟨b, o + (q.2 + k * ie.size), none⟩), ?_, .ptr hρ⟩
      have hin : (0 : Int) ≤ Int.ofNat k ∧ Int.ofNat k < (n : Int) := ⟨by simp, by simp; omega⟩
      simp only [Instr.indexAt, asIntOf, Sem.run_bind, Sem.run_pure, Result.andThen_ok, run_underlying (show E.P.underlying t = some (.array n e) from hd), Instr.sureAddr, if_pos hin, run_size (hE.ty _ ie hie), Sem.run_ite, add_lit]
      simp [Nat.add_assoc]
  | _ => cases ho

/-! ### slices of slices -/
theorem run_sliceBound {P : Program} {k : IntKind} {n y : Nat} (h1 : n ≤ y) (c : BoundsCode) : (Instr.sliceBound (.int k (.ofNat n)) y c).run P w = .ok n w := by
  have : (0 : Int) ≤ Int.ofNat n ∧ Int.ofNat n ≤ (y : Int) := ⟨by simp, by simp; omega⟩
  simp only [Instr.sliceBound, asIntOf, Sem.run_bind, Sem.run_pure, Result.andThen_ok, Sem.run_ite]
  rw [if_pos this]
  rfl

theorem optNat_spec {nt : Nat} {tm : Tf} {a : Act} (hfr : FR g nt tm a.tmps) {x : Option Operand} {r : Option Nat} (h : optNat tm x = some r) :
    (x = none ∧ r = none) ∨ ∃ y k n, x = some y ∧ r = some n ∧ a.eval y = .int k (.ofNat n) := by
  cases x with
  | none => cases h; exact .inl ⟨rfl, rfl⟩
  | some y =>
    obtain ⟨v, hv, h⟩ := bind1_some h
    obtain ⟨n, hn, h⟩ := bind1_some h
    cases h
    obtain ⟨k, rfl⟩ := natOf_some hn
    have := valA_spec hfr hv
    generalize hu : a.eval y = u at this
    cases this with
    | int _ _ e => exact .inr ⟨y, k, n, rfl, rfl, by rw [hu, e]; rfl⟩

theorem run_sliceBounds {P : Program} {nt : Nat} {tm : Tf} {a : Act} (hfr : FR g nt tm a.tmps) {lo hi mx : Option Operand} {l u m : Option Nat} (hl : optNat tm lo = some l) (hu : optNat tm hi = some u) (hm : optNat tm mx = some m) (isS : Bool) (len cap : Nat)
    (h1 : l.getD 0 ≤ u.getD len) (h2 : u.getD len ≤ m.getD cap) (h3 : m.getD cap ≤ cap) (h4 : m ≠ none → u ≠ none) :
    (Instr.sliceBounds isS len cap (lo.map a.eval) (hi.map a.eval) (mx.map a.eval)).run P w = .ok (l.getD 0, u.getD len, m.getD cap) w := by
  rcases optNat_spec hfr hl with ⟨rfl, rfl⟩ | ⟨y1, k1, n1, rfl, rfl, e1⟩ <;> rcases optNat_spec hfr hu with ⟨rfl, rfl⟩ | ⟨y2, k2, n2, rfl, rfl, e2⟩ <;> rcases optNat_spec hfr hm with ⟨rfl, rfl⟩ | ⟨y3, k3, n3, rfl, rfl, e3⟩ <;>
    simp only [Option.getD_some, Option.getD_none] at h1 h2 h3 <;>
    first
      | exact absurd rfl (h4 (Option.some_ne_none _))
      | (simp only [Instr.sliceBounds, Option.map_some, Option.map_none, Sem.run_bind, Sem.run_pure, Result.andThen_ok, Option.getD_some, Option.getD_none, Option.isSome_some, Option.isSome_none]
         try simp only [e3, run_sliceBound (P := P) (w := w) (k := k3) h3, Result.andThen_ok]
         try simp only [e2, run_sliceBound (P := P) (w := w) (k := k2) h2, Result.andThen_ok]
         try simp only [e1, run_sliceBound (P := P) (w := w) (k := k1) h1, Result.andThen_ok])

theorem zeroO_iff {m : Option Nat} (h : zeroO m = true) : m.getD 0 = 0 := by
  cases m with
  | none => rfl
  | some n => exact (beq_iff _ _).1 h

theorem add_zero_addr (a : Addr) : a.add 0 = a := by unfold Addr.add; split <;> simp_all

/-- What is cut out of a row of cells. -/
theorem cutS_VR {id off l h b o : Nat} {size : Nat} {m : Cp} {M : Nat} (hρ : g.ρ id = some (b, o)) (h1 : l ≤ h) (h2 : h ≤ M) (hm : ∀ k, m = .k k → M = k) (hz : ∀ e, m = .u e → g.et id = e ∧ size = g.sz e ∧ off + M * size ≤ g.lim id) :
    VR g (.slice (some (if M = l then ⟨b, o + off, none⟩ else (⟨b, o + off, none⟩ : Addr).add (l * size))) (h - l) (M - l)) (cutS id off l h size m) := by
  by_cases h0 : l = 0
  · subst h0
    have e1 : cutS id off 0 h size m = .sl id off h m := rfl
    have e2 : (if M = 0 then (⟨b, o + off, none⟩ : Addr) else (⟨b, o + off, none⟩ : Addr).add (0 * size)) = ⟨b, o + off, none⟩ := by
      split
      · rfl
      · rw [Nat.zero_mul, add_zero_addr]
    rw [e1, e2]
    exact .sl hρ (by omega) (fun k hk => by rw [hm k hk]; omega) (fun e hn => by obtain ⟨q0, q1, q2⟩ := hz e hn; rw [← q1]; exact ⟨q0, q2⟩)
  · have e0 : Nat.beq l 0 = false := by rw [beq_eq]; simpa using h0
    by_cases hlt : l + 1 ≤ h
    · have e1 : cutS id off l h size m = .sl id (off + l * size) (h - l) (subC m l) := by
        unfold cutS
        rw [e0, show Nat.ble (Nat.succ l) h = true from (ble_iff _ _).2 hlt]
        rfl
      rw [e1, if_neg (by omega), add_lit, Nat.add_assoc]
      refine .sl hρ (by omega) (fun k hk => ?_) (fun e hk => ?_)
      · cases m with
        | u e' => cases hk
        | k c => cases hk; rw [hm c rfl]; rfl
      · cases m with
        | k c => cases hk
        | u e' =>
          cases hk
          obtain ⟨q0, q1, q2⟩ := hz _ rfl
          rw [← q1]
          refine ⟨q0, ?_⟩
          have : l * size + (M - l) * size = M * size := by rw [← Nat.add_mul]; congr 1; omega
          show off + l * size + (M - l) * size ≤ g.lim id
          omega
    · have e1 : cutS id off l h size m = .sle := by
        unfold cutS
        rw [e0, show Nat.ble (Nat.succ l) h = false from by rw [ble_eq]; simpa using hlt]
      rw [e1]
      have : h - l = 0 := by omega
      rw [this]
      exact .sle

theorem sliceSl_some {e : TypeId} {id off n : Nat} {cap : Cp} {lo hi mx : Option Nat} {z : SV} (h : sliceSl E e id off n cap lo hi mx = some z) :
    ∃ ie, E.ty.get e = some ie ∧ lo.getD 0 ≤ hi.getD n ∧ hi.getD n ≤ reach cap n ∧ (∀ m, mx = some m → hi.getD n ≤ m ∧ m ≤ reach cap n) ∧ (∀ e', cap = .u e' → e' = e) ∧ z = cutS id off (lo.getD 0) (hi.getD n) ie.size (orC mx cap) := by
  obtain ⟨ie, hie, h⟩ := bind1_some h
  obtain ⟨hc, h⟩ := sel_some h
  cases h
  rw [Bool.and_eq_true, Bool.and_eq_true, Bool.and_eq_true] at hc
  refine ⟨ie, hie, (ble_iff _ _).1 hc.2.1, (ble_iff _ _).1 hc.2.2.1, fun m hm => ?_, fun e' he => by subst he; exact (beq_iff _ _).1 hc.1, rfl⟩
  subst hm
  have := hc.2.2.2
  simp only [maxOk, Bool.and_eq_true] at this
  exact ⟨(ble_iff _ _).1 this.1, (ble_iff _ _).1 this.2⟩

theorem sliceA_spec (hE : EnvOK E g) {nt : Nat} {tm : Tf} {a : Act} (hfr : FR g nt tm a.tmps) {t : TypeId} {x z : SV} {v : Value} (hv : VR g v x) {lo hi mx : Option Operand} {l u m : Option Nat} (hl : optNat tm lo = some l) (hu : optNat tm hi = some u)
    (hm : optNat tm mx = some m) (ho0 : sliceA E t x l u m = some z) :
    ∃ r, (Instr.sliceAt t v (lo.map a.eval) (hi.map a.eval) (mx.map a.eval)).run E.P w = .ok r w ∧ VR g r z := by
  obtain ⟨i, hi', ho⟩ := bind1_some ho0
  obtain ⟨hmh, ho⟩ := sel_some ho
  have h4 : m ≠ none → u ≠ none := by
    intro hm hu
    subst hu
    cases m with
    | none => exact hm rfl
    | some k => simp [maxHi] at hmh
  have hd := (hE.ty t i hi').desc
  generalize i.desc = D at hd ho
  cases D with
  | string =>
    obtain ⟨s, hs, ho⟩ := bind1_some (show bind1 (strOf x) (fun s => sliceStr s l u m) = some z from ho)
    obtain rfl := strOf_some hs
    cases hv
    cases m with
    | some _ => cases ho
    | none =>
      obtain ⟨hc, ho⟩ := sel_some (show sel (Nat.ble (l.getD 0) (u.getD s.size) && Nat.ble (u.getD s.size) s.size) (some (SV.str (s.extract (l.getD 0) (u.getD s.size)))) none = some z from ho)
      cases ho
      rw [Bool.and_eq_true] at hc
      have hmx : mx = none := by
        rcases optNat_spec hfr hm with ⟨rfl, _⟩ | ⟨_, _, _, _, hx, _⟩
        · rfl
        · simp at hx
      subst hmx
      have hb := run_sliceBounds (P := E.P) (w := w) hfr hl hu (mx := none) (m := none) rfl false s.size s.size ((ble_iff _ _).1 hc.1) ((ble_iff _ _).1 hc.2) (Nat.le_refl _) (by simp)
      refine ⟨.string (s.extract (l.getD 0) (u.getD s.size)), ?_, .str _⟩
      simp only [Option.map_none] at hb
      simp only [Instr.sliceAt, Sem.run_bind, run_underlying (show E.P.underlying t = some .string from hd), Result.andThen_ok, Instr.slice, Option.map_none, Option.isSome_none, Bool.false_eq_true, if_false, Sem.run_ite, Sem.run_pure, hb]
  | slice e =>
    obtain ⟨ie0, hie0, ho⟩ := bind1_some (show bind1 (E.ty.get e) (fun _ => sliceV x E e l u m) = some z from ho)
    cases hv with
    | @sl id off n b o c cap hρ hn hcap hlim =>
      obtain ⟨ie, hie, c1, c2, c3, c4, rfl⟩ := sliceSl_some (show sliceSl E e id off n cap l u m = some z from ho)
      have hcc : reach cap n ≤ c := by
        cases cap with
        | u e' => exact hn
        | k m => rw [hcap m rfl]; exact Nat.le_refl _
      have hb := run_sliceBounds (P := E.P) (w := w) hfr hl hu hm true n c c1 (by
        cases m with
        | none => simp; omega
        | some k => exact (c3 k rfl).1) (by
        cases m with
        | none => simp
        | some k => simp; have := (c3 k rfl).2; omega) h4
      refine ⟨_, ?_, cutS_VR (M := m.getD c) hρ c1 (by
        cases m with
        | none => simp; omega
        | some k => exact (c3 k rfl).1) (fun k hk => ?_) (fun e' hk => ?_)⟩
      · simp only [Instr.sliceAt, Sem.run_bind, run_underlying (show E.P.underlying t = some (.slice e) from hd), Result.andThen_ok, Instr.slice, hb, run_size (hE.ty _ ie hie), Sem.run_pure]
        congr 2
        split <;> rfl
      · cases m with
        | some k' => cases hk; rfl
        | none => exact hcap k hk
      · cases m with
        | some k' => cases hk
        | none =>
          have hk : cap = .u e' := hk
          obtain ⟨l1, l2⟩ := hlim e' hk
          have he := c4 e' hk
          subst he
          have hsz := hE.size hie
          exact ⟨l1, hsz.symm, by rw [← hsz]; exact l2⟩
    | @sle ad c =>
      obtain ⟨hc, ho⟩ := sel_some (show sel (zeroO l && (zeroO u && m.isNone)) (some SV.sle) none = some z from ho)
      cases ho
      rw [Bool.and_eq_true, Bool.and_eq_true] at hc
      have z1 := zeroO_iff hc.1
      have z2 := zeroO_iff hc.2.1
      have hm0 : m = none := by cases m with | none => rfl | some k => simp at hc
      subst hm0
      have hb := run_sliceBounds (P := E.P) (w := w) hfr hl hu hm true 0 c (by rw [z1]; omega) (by rw [z2]; simp) (Nat.le_refl _) h4
      rw [z1, z2] at hb
      refine ⟨.slice (if c = 0 then ad else ad.map (·.add (0 * ie0.size))) (0 - 0) (c - 0), ?_, .sle⟩
      simp only [Instr.sliceAt, Sem.run_bind, run_underlying (show E.P.underlying t = some (.slice e) from hd), Result.andThen_ok, Instr.slice, hb, run_size (hE.ty _ ie0 hie0), Sem.run_pure, Option.getD_none]
    | nils =>
      obtain ⟨hc, ho⟩ := sel_some (show sel (zeroO l && (zeroO u && zeroO m)) (some SV.nils) none = some z from ho)
      cases ho
      rw [Bool.and_eq_true, Bool.and_eq_true] at hc
      have z1 := zeroO_iff hc.1
      have z2 := zeroO_iff hc.2.1
      have z3 := zeroO_iff hc.2.2
      have hb := run_sliceBounds (P := E.P) (w := w) hfr hl hu hm true 0 0 (by rw [z1]; omega) (by rw [z2]; omega) (by rw [z3]; omega) h4
      rw [z1, z2, z3] at hb
      refine ⟨.slice none 0 0, ?_, .nils⟩
      simp only [Instr.sliceAt, Sem.run_bind, run_underlying (show E.P.underlying t = some (.slice e) from hd), Result.andThen_ok, Instr.slice, hb, run_size (hE.ty _ ie0 hie0), Sem.run_pure]
      simp
    | _ => cases ho
  | array n e =>
    obtain ⟨q, hq, ho⟩ := bind1_some (show bind1 (ptrOf x) (fun q => sliceSl E e q.1 q.2 n (.k n) l u m) = some z from ho)
    obtain rfl := ptrOf_some hq
    obtain ⟨ie, hie, c1, c2, c3, c4, rfl⟩ := sliceSl_some ho
    have c2 : u.getD n ≤ n := c2
    have c3 : ∀ k, m = some k → u.getD n ≤ k ∧ k ≤ n := c3
    cases hv with
    | @ptr _ _ b o hρ =>
      have hb := run_sliceBounds (P := E.P) (w := w) hfr hl hu hm false n n c1 (by
        cases m with
        | none => simpa using c2
        | some k => exact (c3 k rfl).1) (by
        cases m with
        | none => simp
        | some k => simpa using (c3 k rfl).2) h4
      refine ⟨_, ?_, cutS_VR (M := m.getD n) hρ c1 (by
        cases m with
        | none => simpa using c2
        | some k => exact (c3 k rfl).1) (fun k hk => ?_) (fun e' hk => by cases m <;> cases hk)⟩
      · simp only [Instr.sliceAt, Sem.run_bind, run_underlying (show E.P.underlying t = some (.array n e) from hd), Result.andThen_ok, Instr.sureAddr, Sem.run_pure, hb, run_size (hE.ty _ ie hie)]
      · cases m with
        | some k' => cases hk; rfl
        | none => cases hk; rfl
  | _ => cases ho

end Go.Sim
