/- Single operations: copy, maps, strings, interfaces, small builtins. -/
import Derived.Test.YtjeenahnkcgfcaaGreatDoorSim9
import Derived.MapKept
set_option linter.unusedVariables false
set_option linter.unusedSimpArgs false
namespace Go.Sim
open Go.RowKit Go.MapKept

variable {E : Env} {g : Gh} {f : Hf} {w : World}

/-! ### copy -/
theorem VCs.take_eq {vs : List Value} {cs : List SV} (h : VCs g vs cs) (n : Nat) : VCs g (vs.take n) (cs.take n) := h.take n

theorem src_first {P : Program} {size : Nat} (h : HR g f w) {x : SV} {u : Value} (hu : VR g u x) {q : Nat × List SV} (hs : srcOf f size x = some q) {n : Nat} (hn : n ≤ q.1) :
    (Builtin.lenOf u).run P w = .ok q.1 w ∧ ∃ news, (Builtin.firstCells size n u).run P w = .ok news.toArray w ∧ VCs g news (q.2.take (n * size)) ∧ news.length = n * size := by
  have row : srcRow f size x = some q → (Builtin.lenOf u).run P w = .ok q.1 w ∧ ∃ news, (Builtin.firstCells size n u).run P w = .ok news.toArray w ∧ VCs g news (q.2.take (n * size)) ∧ news.length = n * size := by
    intro hs
    obtain ⟨m, xs, h1, h2, h3⟩ := bind2_some hs
    cases h3
    have hn : n ≤ m := hn
    rcases lenS_some h1 with ⟨id, off, c, rfl⟩ | ⟨rfl, rfl⟩ | ⟨rfl, rfl⟩
    · cases hu with
      | @sl _ _ _ b o c' _ hρ hnc hcap hlim =>
        obtain ⟨e, cs, q1, q2, rfl⟩ := cellsAt_some (show cellsAt f id off (m * size) = some xs from h2)
        have hle : n * size ≤ m * size := Nat.mul_le_mul_right _ hn
        obtain ⟨vs, v1, v2, v3⟩ := Cells.vals (h.at q1 hρ).2 off (n * size) (by omega)
        refine ⟨rfl, vs, run_firstCells_some w size n _ m c' vs v1 (fun j v hv => by rw [add_lit]; exact v3 j v hv), ?_, v1⟩
        rw [List.take_take, Nat.min_eq_left hle]
        exact v2
    · cases hu
      cases h2
      have : n = 0 := by omega
      subst this
      exact ⟨rfl, [], run_firstCells_none w size 0 0 0, by simpa using .nil, by simp⟩
    · cases hu with
      | @sle ad c =>
        cases h2
        have : n = 0 := by omega
        subst this
        refine ⟨rfl, [], ?_, by simpa using .nil, by simp⟩
        cases ad with
        | none => exact run_firstCells_none _ size 0 0 c
        | some a => exact run_firstCells_some _ size 0 a 0 c [] (by simp) (by simp)
  cases hu with
  | str s =>
    obtain ⟨h1, h2⟩ := sel_some (show sel (Nat.beq size 1) (some (s.size, bytesSV s)) none = some q from hs)
    cases h2
    have := (beq_iff _ _).1 h1
    subst this
    have hn : n ≤ s.size := hn
    refine ⟨rfl, (byteCells s).take n, ?_, by rw [Nat.mul_one]; exact (bytesSV_VCs s).take n, by rw [List.length_take, byteCells_length, Nat.mul_one]; omega⟩
    simp [Builtin.firstCells, byteCells]
    apply Array.ext'
    simp [List.map_take]
  | _ => exact row hs

theorem copyA_spec (hE : EnvOK E g) (h : HR g f w) {new : Nat} {t ty : TypeId} {ts : List TypeId} {d s : SV} {u1 u2 : Value} (h1 : VR g u1 d) (h2 : VR g u2 s) {v : SV} {us : List Up}
    (ho0 : copyA E f t d s = some (v, us)) : ∃ r w', (Builtin.copy_ (t :: ts).toArray ty #[u1, u2]).run E.P w = .ok r w' ∧ Post g f w v us new r g w' := by
  obtain ⟨i, hi, ho⟩ := bind1_some ho0
  obtain ⟨e, he, ho⟩ := bind1_some ho
  obtain ⟨ie, hie, ho⟩ := bind1_some (show bind1 (E.ty.get e) _ = some (v, us) from ho)
  obtain ⟨hok, ho⟩ := sel_some ho
  obtain ⟨nd, q, hnd, hq, ho⟩ := bind2_some ho
  have ht := (hE.ty t i hi).desc
  rw [sliceE_some he] at ht
  have ht : E.P.underlying t = some (.slice e) := ht
  have hsz := run_size (hE.ty e ie hie)
  have hmin : sel (Nat.ble q.1 nd) q.1 nd = Nat.min q.1 nd := by
    rw [sel_if]
    split
    · rename_i hc; exact (Nat.min_eq_left ((ble_iff _ _).1 hc)).symm
    · rename_i hc
      have : ¬ q.1 ≤ nd := fun e => hc ((ble_iff _ _).2 e)
      exact (Nat.min_eq_right (by omega)).symm
  have hle : Nat.min q.1 nd ≤ q.1 := Nat.min_le_left _ _
  have hle2 : Nat.min q.1 nd ≤ nd := Nat.min_le_right _ _
  have ho : copyTo d f ie.size (sel (Nat.ble q.1 nd) q.1 nd) q.2 = some (v, us) := ho
  rw [hmin] at ho
  generalize hm : Nat.min q.1 nd = m at ho hle hle2
  obtain ⟨hl, news, hc, hx, hnl⟩ := src_first (P := E.P) h h2 hq hle
  have hres : VR g (goInt m) (.int .i64 (.lit (.ofNat m))) := .int _ _ (by simp [SI.ev])
  rcases lenS_some hnd with ⟨id, off, cp, rfl⟩ | ⟨rfl, rfl⟩ | ⟨rfl, rfl⟩
  · cases h1 with
    | @sl _ _ _ b o c' _ hρ hnc hcap hlim =>
      obtain ⟨p, hp, ho⟩ := bind1_some (show bind1 (cellsO (f id)) (fun p => sel (Nat.ble (Nat.add off (Nat.mul m ie.size)) p.2.length) (some (SV.int .i64 (.lit (.ofNat m)), [(id, some (SO.cells p.1 (splice p.2 off (q.2.take (Nat.mul m ie.size)))))])) none) = some (v, us) from ho)
      obtain ⟨hfit, ho⟩ := sel_some ho
      cases ho
      have hfit : off + m * ie.size ≤ p.2.length := (ble_iff _ _).1 hfit
      have hf := cellsO_some hp
      have hcell : Cells g w id b o p.1 p.2 := (h.at hf hρ).2
      obtain ⟨w', s1, s2, s3, s4, s5, s6, s7⟩ := hcell.store (P := E.P) (off := off) hx (by rw [← hx.length, hnl]; exact hfit)
      obtain ⟨t1, t2⟩ := h.write (o' := .cells p.1 (splice p.2 off (q.2.take (m * ie.size)))) hf hρ s3 s4 s2 s5 s6 s7
      refine ⟨_, w', ?_, ⟨hres, t1, t2, fun _ _ => rfl, fun _ => rfl⟩⟩
      simp [Builtin.copy_, run_underlying ht, hl, hsz, hm, hc, s1]
  · cases h1
    have : m = 0 := by omega
    subst this
    cases (show some (SV.int .i64 (.lit (.ofNat 0)), ([] : List Up)) = some (v, us) from ho)
    refine ⟨_, w, ?_, Post.same h hres⟩
    simp [Builtin.copy_, run_underlying ht, hl, hsz, hm, hc]
  · cases h1 with
    | @sle ad c =>
      have : m = 0 := by omega
      subst this
      cases (show some (SV.int .i64 (.lit (.ofNat 0)), ([] : List Up)) = some (v, us) from ho)
      have hn0 : news = [] := List.eq_nil_of_length_eq_zero (by simpa using hnl)
      subst hn0
      refine ⟨_, w, ?_, Post.same h hres⟩
      cases ad <;> simp [Builtin.copy_, run_underlying ht, hl, hsz, hm, hc, storeCells]

/-! ### maps -/
theorem EntsR.get : ∀ {ms : List MapEntry} {xs : List (SV × SV × Nat)}, EntsR g ms xs → ∀ {j : Nat} {x : SV × SV × Nat}, xs[j]? = some x → ∃ m, ms[j]? = some m ∧ EntR g m x
  | _, _, .nil, _, _, h => by simp at h
  | _, _, .cons hd ht, j, x, h => by
    cases j with
    | zero => simp at h; subst h; exact ⟨_, rfl, hd⟩
    | succ j => simp at h; obtain ⟨m, a, b⟩ := ht.get h; exact ⟨m, by simpa using a, b⟩
theorem EntsR.length : ∀ {ms : List MapEntry} {xs : List (SV × SV × Nat)}, EntsR g ms xs → ms.length = xs.length
  | _, _, .nil => rfl
  | _, _, .cons _ ht => by simp [ht.length]
theorem EntsR.append : ∀ {ms ns : List MapEntry} {xs ys : List (SV × SV × Nat)}, EntsR g ms xs → EntsR g ns ys → EntsR g (ms ++ ns) (xs ++ ys)
  | _, _, _, _, .nil, k => k
  | _, _, _, _, .cons hd ht, k => .cons hd (ht.append k)
theorem EntsR.set : ∀ {ms : List MapEntry} {xs : List (SV × SV × Nat)}, EntsR g ms xs → ∀ {m : MapEntry} {x : SV × SV × Nat}, EntR g m x → ∀ (j : Nat), EntsR g (ms.set j m) (xs.set j x)
  | _, _, .nil, _, _, _, j => by simpa using .nil
  | _, _, .cons hd ht, _, _, h, 0 => by simpa using .cons h ht
  | _, _, .cons hd ht, _, _, h, j + 1 => by simpa using .cons hd (ht.set h j)

theorem litKey_spec {k : SV} {D : UD} {u : Value} {P : Program} {t : TypeId} (hl : litKey k D = true) (hd : DescOK P t D) (hu : VR g u k) : ∃ d, P.underlying t = some d ∧ IsKey d u ∧
    (∀ (y : SV) (b : Bool) (u' : Value), sameKey k y = some b → VR g u' y → Instr.sameNow d u u' = some b ∧ (b = true → u' = u)) := by
  cases hu with
  | bool a =>
    obtain rfl := isBoolD_true (show isBoolD D = true from hl)
    refine ⟨.bool, hd, trivial, fun y b u' hs hu' => ?_⟩
    obtain ⟨p, q, h1, h2, h3⟩ := bind2_some (show bind2 (boolOf (.bool a)) (boolOf y) (fun a b => some (a == b)) = some b from hs)
    cases h1
    obtain rfl := boolOf_some h2
    cases hu'
    cases h3
    exact ⟨rfl, fun e => by have : a = q := by simpa using e
                            rw [this]⟩
  | @int k e n he =>
    have hl : (isLit e && intK k D) = true := hl
    rw [Bool.and_eq_true] at hl
    obtain ⟨hl1, hl2⟩ := hl
    obtain rfl : D = .int k := by
      cases D with
      | int k' => rw [kindB_iff hl2]
      | _ => cases hl2
    cases e with
    | lit n0 =>
      subst he
      refine ⟨.int k, hd, rfl, fun y b u' hs hu' => ?_⟩
      obtain ⟨p, h1, h2⟩ := bind1_some (show bind1 (intOf y) (fun p => sel (kindB k p.1) (sameI (.lit n) p.2) none) = some b from hs)
      obtain ⟨hk, h3⟩ := sel_some h2
      have hk := kindB_iff hk
      obtain rfl := intOf_some h1
      obtain ⟨pk, pe⟩ := p
      simp only at hk h3 hu'
      subst hk
      cases pe with
      | lit m =>
        cases hu' with
        | @int _ _ m' e2 =>
          subst e2
          cases h3
          rw [intB_eq]
          refine ⟨?_, fun e => ?_⟩
          · simp only [Instr.sameNow, if_true, SI.ev]
            congr 1
          · have : n = m' := by simpa using e
            rw [this]
      | _ => cases h3
    | _ => cases hl1
  | str s =>
    obtain rfl := isStrD_true (show isStrD D = true from hl)
    refine ⟨.string, hd, trivial, fun y b u' hs hu' => ?_⟩
    obtain ⟨p, q, h1, h2, h3⟩ := bind2_some (show bind2 (strOf (.str s)) (strOf y) (fun a b => some (strB a b)) = some b from hs)
    cases h1
    obtain rfl := strOf_some h2
    cases hu'
    cases h3
    rw [strB_eq]
    refine ⟨?_, fun e => ?_⟩
    · simp only [Instr.sameNow]
      congr 1
      rw [Bool.eq_iff_iff, bytes_beq]
      simp
    · have : s = q := by simpa using e
      rw [this]
  | _ => cases hl

theorem findK_spec {k : SV} {u : Value} {d : TypeDesc} (hk : ∀ (y : SV) (b : Bool) (u' : Value), sameKey k y = some b → VR g u' y → Instr.sameNow d u u' = some b ∧ (b = true → u' = u)) :
    ∀ {ms : List MapEntry} {es : List (SV × SV × Nat)}, EntsR g ms es → ∀ (i : Nat) (r : Option (Nat × SV × Nat)), findK k es i = some r →
      (r = none ∧ Instr.findNow d u ms i = some none) ∨ ∃ j x m, r = some (i + j, x.2.1, x.2.2) ∧ es[j]? = some x ∧ ms[j]? = some m ∧ m.key = u ∧ Instr.findNow d u ms i = some (some (i + j, m.val))
  | _, _, .nil, i, r, h => by cases h; exact .inl ⟨rfl, rfl⟩
  | _, _, .cons (m := m) (x := x) (ms := ms) (xs := es) hd ht, i, r, h => by
    unfold findK at h
    cases hs : sameKey k x.1 with
    | none => rw [hs] at h; cases h
    | some b =>
      rw [hs] at h
      obtain ⟨h1, h2⟩ := hk x.1 b m.key hs hd.1
      cases b with
      | true =>
        cases h
        exact .inr ⟨0, x, m, rfl, rfl, rfl, h2 rfl, by simp [Instr.findNow, h1]⟩
      | false =>
        rcases findK_spec hk ht (i + 1) r h with ⟨q1, q2⟩ | ⟨j, y, m', q1, q2, q3, q4, q5⟩
        · exact .inl ⟨q1, by simp [Instr.findNow, h1, q2]⟩
        · refine .inr ⟨j + 1, y, m', by rw [q1]; congr 2; omega, by simpa using q2, by simpa using q3, q4, ?_⟩
          simp [Instr.findNow, h1, q5]; omega

theorem lookupA_spec (hE : EnvOK E g) (h : HR g f w) {t : TypeId} {x k z : SV} {u1 u2 : Value} (h1 : VR g u1 x) (h2 : VR g u2 k) {ok : Bool} (ho0 : lookupA E f t x k ok = some z) :
    ∃ r, (Instr.lookup t u1 u2 ok).run E.P w = .ok r w ∧ VR g r z := by
  obtain ⟨i, hi, ho⟩ := bind1_some ho0
  obtain ⟨q, hq, ho⟩ := bind1_some ho
  obtain ⟨ik, ie, hik, hie, ho⟩ := bind2_some ho
  obtain ⟨hl, ho⟩ := sel_some ho
  obtain ⟨es, hes, ho⟩ := bind1_some ho
  obtain ⟨r, hr, ho⟩ := bind1_some ho
  have ht := (hE.ty t i hi).desc
  rw [mapE_some hq] at ht
  have ht : E.P.underlying t = some (.map q.1 q.2) := ht
  obtain ⟨d, hd, hkey, hsame⟩ := litKey_spec hl (hE.ty _ ik hik).desc h2
  obtain ⟨zv, z1, z2, z3⟩ := run_zero (hE.ty _ ie hie)
  have main : ∀ (ms : Array MapEntry), EntsR g ms.toList es → (Instr.checkKey ms.isEmpty 10000 q.1 u2).run E.P w = .ok () w ∧ ∃ a rv, (Instr.findKey q.1 u2 ms.toList).run E.P w = .ok a w ∧ VR g rv z ∧
      ((a = none ∧ rv = if ok then Value.tuple #[zv, .bool false] else zv) ∨ ∃ j v, a = some (j, v) ∧ rv = if ok then Value.tuple #[v, .bool true] else v) := by
    intro ms hms
    refine ⟨run_checkKey (P := E.P) (w := w) hd hkey ms.isEmpty 9999, ?_⟩
    rcases findK_spec hsame hms 0 r hr with ⟨rfl, q2⟩ | ⟨j, y, m, rfl, q2, q3, q4, q5⟩
    · obtain ⟨zz, hz, ho⟩ := bind1_some (show bind1 (partA ie ie.zero 0) (fun z => some (okV ok z false)) = some z from ho)
      cases ho
      refine ⟨none, _, run_findKey (P := E.P) (w := w) hd q2, ?_, .inl ⟨rfl, rfl⟩⟩
      have := partA_zero (g := g) z2 z3 hz
      cases ok
      · exact this
      · exact .tup (.cons this (.cons (.bool false) .nil))
    · obtain ⟨m', r1, r2⟩ := hms.get q2
      rw [q3] at r1
      obtain rfl : m = m' := by simpa using r1
      cases (show some (okV ok y.2.1 true) = some z from ho)
      refine ⟨_, _, run_findKey (P := E.P) (w := w) hd q5, ?_, .inr ⟨_, _, rfl, rfl⟩⟩
      cases ok
      · exact r2.2.1
      · exact .tup (.cons r2.2.1 (.cons (.bool true) .nil))
  cases h1 with
  | nilm =>
    cases (show some ([] : List (SV × SV × Nat)) = some es from hes)
    obtain ⟨hck, a, rv, r1, r2, r3⟩ := main #[] .nil
    refine ⟨rv, ?_, r2⟩
    rcases r3 with ⟨rfl, rfl⟩ | ⟨j, v, rfl, rfl⟩ <;> simp only [Instr.lookup, Sem.run_bind, run_underlying ht, Result.andThen_ok, Sem.run_pure, hck, r1, z1]
  | @mp id b o hρ =>
    obtain ⟨p, hp, hes⟩ := bind1_some (show bind1 (mapO (f id)) (fun p => some p.1) = some es from hes)
    cases hes
    have hf := mapO_some hp
    obtain ⟨ms, m1, m2⟩ := (h.at hf hρ).2
    obtain ⟨hck, a, rv, r1, r2, r3⟩ := main ms m2
    refine ⟨rv, ?_, r2⟩
    rcases r3 with ⟨rfl, rfl⟩ | ⟨j, v, rfl, rfl⟩ <;> simp only [Instr.lookup, Sem.run_bind, run_underlying ht, Result.andThen_ok, Sem.run_pure, MapKept.run_getObj_map m1, hck, r1, z1]
  | _ => cases hes

theorem updA_spec (hE : EnvOK E g) (h : HR g f w) {t : TypeId} {x k v : SV} {u1 u2 u3 : Value} (h1 : VR g u1 x) (h2 : VR g u2 k) (h3 : VR g u3 v) {us : List Up} (ho0 : updA E f t x k v = some us) :
    ∃ w', (Instr.mapUpdate t u1 u2 u3).run E.P w = .ok () w' ∧ HR g (upsF f us) w' ∧ Fr g f w g (upsF f us) w' := by
  obtain ⟨id, hid, ho⟩ := bind1_some ho0
  obtain ⟨i, hi, ho⟩ := bind1_some ho
  obtain ⟨q, hq, ho⟩ := bind1_some ho
  obtain ⟨ik, p, hik, hp, ho⟩ := bind2_some ho
  obtain ⟨hl, ho⟩ := sel_some ho
  obtain ⟨r, hr, ho⟩ := bind1_some ho
  cases ho
  obtain rfl := mpOf_some hid
  have ht := (hE.ty t i hi).desc
  rw [mapE_some hq] at ht
  have ht : E.P.underlying t = some (.map q.1 q.2) := ht
  obtain ⟨d, hd, hkey, hsame⟩ := litKey_spec hl (hE.ty _ ik hik).desc h2
  have hf := mapO_some hp
  cases h1 with
  | @mp _ b o hρ =>
    obtain ⟨hb, ms, m1, m2⟩ := h.at hf hρ
    have hck := run_checkKey (P := E.P) (w := w) hd hkey false 9999
    have fin : ∀ (ms' : Array MapEntry) (es' : List (SV × SV × Nat)) (c' : Nat), EntsR g ms'.toList es' → HR g (upF f (id, some (.map es' c'))) { w with heap := w.heap.setIfInBounds b (.map ms' c') } ∧ Fr g f w g (upF f (id, some (.map es' c'))) { w with heap := w.heap.setIfInBounds b (.map ms' c') } := by
      intro ms' es' c' he
      obtain ⟨s1, s2⟩ := heap_set (o' := Obj.map ms' c') m1
      exact h.write hf hρ (by simp) (fun k hk => s2 k hk) ⟨ms', s1, he⟩ rfl rfl rfl
    rcases findK_spec hsame m2 0 r hr with ⟨rfl, q2⟩ | ⟨j, y, m, rfl, q2, q3, q4, q5⟩
    · have hfk := run_findKey (P := E.P) (w := w) hd q2
      refine ⟨_, ?_, fin (ms.push { key := u2, val := u3, born := p.2 }) (p.1 ++ [(k, v, p.2)]) (p.2 + 1) (by rw [Array.toList_push]; exact m2.append (.cons ⟨h2, h3, rfl⟩ .nil))⟩
      simp only [Instr.mapUpdate, Sem.run_bind, run_underlying ht, Result.andThen_ok, MapKept.run_getObj_map m1, hck, hfk]
      exact run_setObj_map _ m1
    · have hfk := run_findKey (P := E.P) (w := w) hd q5
      obtain ⟨m', r1, r2⟩ := m2.get q2
      rw [q3] at r1
      obtain rfl : m = m' := by simpa using r1
      rw [Nat.zero_add] at hfk
      have hmj : ms[j]? = some m := by simpa using q3
      have hold : (((ms[j]?).map (·.key)).getD u2) = u2 := by rw [hmj]; simpa using q4
      have hks : (Instr.keyThatStays u2 u2).run E.P w = .ok u2 w := by simp [Instr.keyThatStays, sameBits_self hkey]
      refine ⟨_, ?_, fin (ms.modify j fun e => { e with key := u2, val := u3 }) (p.1.set (0 + j) (k, v, y.2.2)) p.2 ?_⟩
      · simp only [Instr.mapUpdate, Sem.run_bind, run_underlying ht, Result.andThen_ok, MapKept.run_getObj_map m1, hck, hfk, hold, hks]
        exact run_setObj_map _ m1
      · have : (ms.modify j fun e => { e with key := u2, val := u3 }).toList = ms.toList.set j { m with key := u2, val := u3 } := by
          apply List.ext_getElem?
          intro n
          rw [Array.getElem?_toList, Array.getElem?_modify, List.getElem?_set]
          by_cases hn : j = n
          · subst hn
            have hlt : j < ms.size := (Array.getElem?_eq_some_iff.1 hmj).1
            have hget : ms[j] = m := (Array.getElem?_eq_some_iff.1 hmj).2
            simp [hlt, hget]
          · simp [hn]
        rw [this, Nat.zero_add]
        exact m2.set (m := { m with key := u2, val := u3 }) (x := (k, v, y.2.2)) ⟨h2, h3, r2.2.2⟩ j

end Go.Sim
