/- Which numbers an operation writes. -/
import Derived.Test.YtjeenahnkcgfcaaGreatDoorSim17
set_option linter.unusedVariables false
set_option linter.unusedSimpArgs false
namespace Go.Sim
open Go.RowKit

variable {E : Env} {g : Gh} {f : Hf} {w : World} {T : Tf}

/-- Only the new number, and numbers that are there. -/
def KeysOK (f : Hf) (new : Nat) (us : List Up) : Prop := ∀ u ∈ us, u.1 = new ∨ f u.1 ≠ none

theorem keys_nil {new : Nat} : KeysOK f new [] := fun u hu => by simp at hu
theorem keys_new {new : Nat} {o : Option SO} : KeysOK f new [(new, o)] := fun u hu => by simp at hu; subst hu; exact .inl rfl
theorem keys_old {new id : Nat} {o : Option SO} (h : f id ≠ none) : KeysOK f new [(id, o)] := fun u hu => by simp at hu; subst hu; exact .inr h

theorem storeA_keys {new : Nat} {t : TypeId} {v a : SV} {us : List Up} (h : storeA E f t v a = some us) : KeysOK f new us := by
  obtain ⟨q, h1, h⟩ := bind1_some h
  obtain ⟨i, xs, p, _, _, hp, h⟩ := bind3_some h
  obtain ⟨_, h⟩ := sel_some h
  cases h
  exact keys_old (by rw [cellsO_some hp]; simp)
theorem updA_keys {new : Nat} {t : TypeId} {x k v : SV} {us : List Up} (h : updA E f t x k v = some us) : KeysOK f new us := by
  obtain ⟨id, _, h⟩ := bind1_some h
  obtain ⟨i, _, h⟩ := bind1_some h
  obtain ⟨q, _, h⟩ := bind1_some h
  obtain ⟨ik, p, _, hp, h⟩ := bind2_some h
  obtain ⟨_, h⟩ := sel_some h
  obtain ⟨r, _, h⟩ := bind1_some h
  cases h
  exact keys_old (by rw [mapO_some hp]; simp)
theorem appendA_keys {new : Nat} {t : TypeId} {s x v : SV} {us : List Up} (h : appendA E f new t s x = some (v, us)) : KeysOK f new us := by
  obtain ⟨i, _, h⟩ := bind1_some h
  obtain ⟨e, _, h⟩ := bind1_some h
  obtain ⟨ie, _, h⟩ := bind1_some (show bind1 (E.ty.get e) _ = some (v, us) from h)
  obtain ⟨_, h⟩ := sel_some h
  obtain ⟨q, _, h⟩ := bind1_some h
  obtain ⟨_, h⟩ := sel_some h
  rw [sel_if] at h
  split at h
  · obtain ⟨_, h⟩ := sel_some h
    cases h; exact keys_nil
  · cases s with
    | nils => cases (show some (SV.sl new 0 q.1 (.u e), [(new, some (SO.cells e q.2))]) = some (v, us) from h); exact keys_new
    | sl id off n cap =>
      obtain ⟨_, h⟩ := sel_some (show sel (Nat.ble n 1000000) (bind2 (cellsO (f id)) (cellsAt f id off (Nat.mul n ie.size)) fun p old => appSl new e ie.size id off n cap q.1 q.2 p old) none = some (v, us) from h)
      obtain ⟨p, old, hp, _, h⟩ := bind2_some h
      have hf : f id ≠ none := by rw [cellsO_some hp]; simp
      cases cap with
      | k c =>
        have h : sel (Nat.ble (Nat.add n q.1) c) (sel (Nat.ble (Nat.add off (Nat.mul (Nat.add n q.1) ie.size)) p.2.length) (some (SV.sl id off (Nat.add n q.1) (.k c), [(id, some (SO.cells p.1 (splice p.2 (Nat.add off (Nat.mul n ie.size)) q.2)))])) none)
          (newSl new e (Nat.add n q.1) (old ++ q.2) []) = some (v, us) := h
        rw [sel_if] at h
        split at h
        · obtain ⟨_, h⟩ := sel_some h
          cases h; exact keys_old hf
        · cases h; exact keys_new
      | u e0 =>
        obtain ⟨_, h⟩ := sel_some (show sel (Nat.beq (Nat.add off (Nat.mul n ie.size)) p.2.length && Nat.beq e p.1) (newSl new e (Nat.add n q.1) (old ++ q.2) [(id, none)]) none = some (v, us) from h)
        cases h
        intro u hu
        simp at hu
        rcases hu with rfl | rfl
        · exact .inr hf
        · exact .inl rfl
    | _ => cases h
theorem copyA_keys {new : Nat} {t : TypeId} {d s v : SV} {us : List Up} (h : copyA E f t d s = some (v, us)) : KeysOK f new us := by
  obtain ⟨i, _, h⟩ := bind1_some h
  obtain ⟨e, _, h⟩ := bind1_some h
  obtain ⟨ie, _, h⟩ := bind1_some (show bind1 (E.ty.get e) _ = some (v, us) from h)
  obtain ⟨_, h⟩ := sel_some h
  obtain ⟨nd, q, _, _, h⟩ := bind2_some h
  cases d with
  | sl id off n cap =>
    obtain ⟨p, hp, h⟩ := bind1_some (show bind1 (cellsO (f id)) (fun p => sel (Nat.ble (Nat.add off (Nat.mul (sel (Nat.ble q.1 nd) q.1 nd) ie.size)) p.2.length) (some (SV.int .i64 (.lit (.ofNat (sel (Nat.ble q.1 nd) q.1 nd))), [(id, some (SO.cells p.1 (splice p.2 off (q.2.take (Nat.mul (sel (Nat.ble q.1 nd) q.1 nd) ie.size)))))])) none) = some (v, us) from h)
    obtain ⟨_, h⟩ := sel_some h
    cases h
    exact keys_old (by rw [cellsO_some hp]; simp)
  | nils => cases (show some (SV.int .i64 (.lit (.ofNat (sel (Nat.ble q.1 nd) q.1 nd))), ([] : List Up)) = some (v, us) from h); exact keys_nil
  | sle => cases (show some (SV.int .i64 (.lit (.ofNat (sel (Nat.ble q.1 nd) q.1 nd))), ([] : List Up)) = some (v, us) from h); exact keys_nil
  | _ => cases h

theorem same_keys {new : Nat} {r : Option SV} {v : SV} {us : List Up} (h : same r = some (v, us)) : KeysOK f new us := by
  obtain ⟨z, _, h⟩ := bind1_some h
  cases h
  exact keys_nil

theorem opA_keys {op : Op} {new : Nat} {v : SV} {us : List Up} (ho : opA E op T f new = some (v, us)) : KeysOK f new us := by
  cases op with
  | move x =>
    obtain ⟨y, hy, ho⟩ := bind1_some (show bind1 (valA T x) (fun v => some (v, ([] : List Up))) = some (v, us) from ho)
    cases ho; exact keys_nil
  | assign x =>
    obtain ⟨y, hy, ho⟩ := bind1_some (show bind1 (valA T x) (fun v => some (v, ([] : List Up))) = some (v, us) from ho)
    cases ho; exact keys_nil
  | pick c x y =>
    obtain ⟨cv, hc, ho⟩ := bind1_some (show bind1 (valA T c) (fun v => bind1 (boolOf v) fun b => one T (sel b x y) fun v => some (v, ([] : List Up))) = some (v, us) from ho)
    obtain ⟨b, hb, ho⟩ := bind1_some ho
    obtain ⟨z, hz, ho⟩ := bind1_some ho
    cases ho; exact keys_nil
  | alloc e =>
    obtain ⟨i, hi, ho⟩ := bind1_some (show bind1 (E.ty.get e) (fun i => some (SV.ptr new 0, [(new, some (SO.cells e i.zero))])) = some (v, us) from ho)
    cases ho; exact keys_new
  | box e x =>
    obtain ⟨y, hy, ho⟩ := bind1_some (show bind1 (valA T x) (opBox new e) = some (v, us) from ho)
    obtain ⟨cs, hc, ho⟩ := bind1_some ho
    cases ho; exact keys_new
  | build t parts =>
    obtain ⟨pcs, hpc, ho⟩ := bind1_some (show bind1 (partsA T parts.toList) (fun pcs => same (buildA E t pcs)) = some (v, us) from ho)
    exact same_keys ho
  | buildSlice t len parts =>
    obtain ⟨pcs, hpc, ho⟩ := bind1_some (show bind1 (partsA T parts.toList) (fun pcs => opBuildSlice E new t len pcs) = some (v, us) from ho)
    obtain ⟨i, hi, ho⟩ := bind1_some ho
    obtain ⟨e, he, ho⟩ := bind1_some ho
    obtain ⟨ie, hie, ho⟩ := bind1_some ho
    obtain ⟨hc, ho⟩ := sel_some ho
    obtain ⟨cs, hf, ho⟩ := bind1_some ho
    cases ho; exact keys_new
  | insert t m k x =>
    obtain ⟨y1, y2, h1, h2, ho⟩ := bind2_some (show bind2 (valA T m) (valA T k) (fun a b => one T x fun c => unit (updA E f t a b c)) = some (v, us) from ho)
    obtain ⟨y3, h3, ho⟩ := bind1_some ho
    obtain ⟨us', hu, ho⟩ := bind1_some ho
    cases ho; exact updA_keys hu
  | mapUpdate t m k x =>
    obtain ⟨y1, y2, h1, h2, ho⟩ := bind2_some (show bind2 (valA T m) (valA T k) (fun a b => one T x fun c => unit (updA E f t a b c)) = some (v, us) from ho)
    obtain ⟨y3, h3, ho⟩ := bind1_some ho
    obtain ⟨us', hu, ho⟩ := bind1_some ho
    cases ho; exact updA_keys hu
  | load t x =>
    obtain ⟨y, hy, ho⟩ := bind1_some (show bind1 (valA T x) (fun v => same (loadA E f t v)) = some (v, us) from ho)
    exact same_keys ho
  | store t x y =>
    obtain ⟨y1, y2, h1, h2, ho⟩ := bind2_some (show bind2 (valA T x) (valA T y) (fun a v => unit (storeA E f t v a)) = some (v, us) from ho)
    obtain ⟨us', hu, ho⟩ := bind1_some ho
    cases ho; exact storeA_keys hu
  | nilCheck x =>
    obtain ⟨y, hy, ho⟩ := bind1_some (show bind1 (valA T x) (fun v => same (nilOk v)) = some (v, us) from ho)
    exact same_keys ho
  | binOp op t x y yt =>
    obtain ⟨y1, y2, h1, h2, ho⟩ := bind2_some (show bind2 (valA T x) (valA T y) (fun v u => same (binA E op t x y v u)) = some (v, us) from ho)
    exact same_keys ho
  | unOp op t x =>
    obtain ⟨y, hy, ho⟩ := bind1_some (show bind1 (valA T x) (fun v => same (unA op v)) = some (v, us) from ho)
    exact same_keys ho
  | convert s d x =>
    obtain ⟨y, hy, ho⟩ := bind1_some (show bind1 (valA T x) (fun v => same (convA E s d v)) = some (v, us) from ho)
    exact same_keys ho
  | makeInterface t x =>
    obtain ⟨y, hy, ho⟩ := bind1_some (show bind1 (valA T x) (opIfc E t) = some (v, us) from ho)
    obtain ⟨i, hi, ho⟩ := bind1_some ho
    rw [sel_if] at ho
    split at ho
    · cases ho
    · cases ho; exact keys_nil
  | makeFunc fn first caps =>
    obtain ⟨hok, ho⟩ := sel_some (show sel (okFn fn) (bind2 (vals T first.toList) (vals T caps.toList) fun l m => some (SV.fn fn l m, ([] : List Up))) none = some (v, us) from ho)
    obtain ⟨l, m, h1, h2, ho⟩ := bind2_some ho
    cases ho; exact keys_nil
  | makeMap t r =>
    cases r with
    | none => cases (show some (SV.mp new, [(new, some (SO.map [] 0))]) = some (v, us) from ho); exact keys_new
    | some x =>
      obtain ⟨i, y, hi, hy, ho⟩ := bind2_some (show bind2 (E.ty.get t) (valA T x) (fun i v => bind2 (mapE i.desc) (natOf v) fun _ _ => newMap new) = some (v, us) from ho)
      obtain ⟨q, n, hq, hnat, ho⟩ := bind2_some ho
      cases ho; exact keys_new
  | makeSlice t l c =>
    obtain ⟨y1, y2, h1, h2, ho⟩ := bind2_some (show bind2 (valA T l) (valA T c) (fun u v => bind2 (natOf u) (natOf v) (opMake E new t)) = some (v, us) from ho)
    obtain ⟨n1, n2, k1, k2, ho⟩ := bind2_some ho
    obtain ⟨i, hi, ho⟩ := bind1_some ho
    obtain ⟨e, he, ho⟩ := bind1_some ho
    obtain ⟨ie, hie, ho⟩ := bind1_some ho
    obtain ⟨hc, ho⟩ := sel_some ho
    cases ho; exact keys_new
  | slice t x lo hi mx =>
    obtain ⟨y, hy, ho⟩ := bind1_some (show bind1 (valA T x) (fun v => bind3 (optNat T lo) (optNat T hi) (optNat T mx) fun l u m => same (sliceA E t v l u m)) = some (v, us) from ho)
    obtain ⟨l, u, m, h1, h2, h3, ho⟩ := bind3_some ho
    exact same_keys ho
  | fieldAddr s x k =>
    obtain ⟨y, hy, ho⟩ := bind1_some (show bind1 (valA T x) (opFieldAddr E s k) = some (v, us) from ho)
    obtain ⟨i, p, hi, hp, ho⟩ := bind2_some ho
    obtain ⟨fs, hfs, ho⟩ := bind1_some ho
    obtain ⟨fl, hfl, ho⟩ := bind1_some ho
    obtain ⟨fi, hfi, ho⟩ := bind1_some ho
    obtain ⟨hc, ho⟩ := sel_some ho
    cases ho; exact keys_nil
  | field t x k =>
    obtain ⟨y, hy, ho⟩ := bind1_some (show bind1 (valA T x) (opField E t k) = some (v, us) from ho)
    obtain ⟨i, cs, hi, hp, ho⟩ := bind2_some ho
    obtain ⟨fs, hfs, ho⟩ := bind1_some ho
    obtain ⟨fl, hfl, ho⟩ := bind1_some ho
    obtain ⟨fi, hfi, ho⟩ := bind1_some ho
    exact same_keys ho
  | indexAddr t x ix =>
    obtain ⟨y1, y2, h1, h2, ho⟩ := bind2_some (show bind2 (valA T x) (valA T ix) (fun v u => bind1 (natOf u) fun k => same (indexAddrA E t v k)) = some (v, us) from ho)
    obtain ⟨n, hnat, ho⟩ := bind1_some ho
    exact same_keys ho
  | index t x ix =>
    obtain ⟨y1, y2, h1, h2, ho⟩ := bind2_some (show bind2 (valA T x) (valA T ix) (fun v u => bind1 (natOf u) fun k => opIndex E t k v) = some (v, us) from ho)
    obtain ⟨n, hnat, ho⟩ := bind1_some ho
    obtain ⟨i, hi, ho⟩ := bind1_some ho
    generalize i.desc = D at ho
    cases D with
    | string =>
      obtain ⟨s, hs, ho⟩ := bind1_some (show bind1 (strOf y1) (fun s => bind1 (s.data.toList[n]?) fun b => some (SV.int .u8 (.lit (.ofNat b.toNat)), ([] : List Up))) = some (v, us) from ho)
      obtain ⟨b, hb, ho⟩ := bind1_some ho
      cases ho; exact keys_nil
    | array m e =>
      obtain ⟨cs, ie, hcs, hie, ho⟩ := bind2_some (show bind2 (aggOf y1) (E.ty.get e) (fun cs ie => sel (Nat.ble (Nat.succ n) m) (same (partA ie cs (Nat.mul n ie.size))) none) = some (v, us) from ho)
      obtain ⟨hc, ho⟩ := sel_some ho
      exact same_keys ho
    | _ => cases ho
  | lookup t x k ok =>
    obtain ⟨y1, y2, h1, h2, ho⟩ := bind2_some (show bind2 (valA T x) (valA T k) (fun a b => same (lookupA E f t a b ok)) = some (v, us) from ho)
    exact same_keys ho
  | range t x =>
    obtain ⟨y, hy, ho⟩ := bind1_some (show bind1 (valA T x) (opRange E f new t) = some (v, us) from ho)
    obtain ⟨i, hi, ho⟩ := bind1_some ho
    obtain ⟨q, hq, ho⟩ := bind1_some ho
    cases ho; exact keys_new
  | next it isS =>
    obtain ⟨y, hy, ho⟩ := bind1_some (show bind1 (valA T it) (opNext f isS) = some (v, us) from ho)
    obtain ⟨hs, ho⟩ := sel_some ho
    obtain ⟨id, hid, ho⟩ := bind1_some ho
    obtain ⟨p, hp, ho⟩ := bind1_some ho
    have ho : some (nextStr id p) = some (v, us) := ho
    unfold nextStr at ho
    rw [sel_if] at ho
    split at ho
    · cases ho; exact keys_old (by rw [iterO_some hp]; simp)
    · cases ho; exact keys_nil
  | typeAssert x xt t ok =>
    obtain ⟨y, hy, ho⟩ := bind1_some (show bind1 (valA T x) (opAssert E t ok) = some (v, us) from ho)
    obtain ⟨i, hi, ho⟩ := bind1_some ho
    rw [sel_if] at ho
    split at ho
    · cases ho
    · exact same_keys ho
  | extract x i =>
    obtain ⟨y, hy, ho⟩ := bind1_some (show bind1 (valA T x) (fun v => bind1 (tupOf v) fun vs => same (vs[i]?)) = some (v, us) from ho)
    obtain ⟨vs, hvs, ho⟩ := bind1_some ho
    exact same_keys ho
  | call c =>
    have ho : opCall E T f new c = some (v, us) := ho
    unfold opCall at ho
    split at ho
    · rename_i b hb
      obtain ⟨as, has, ho⟩ := bind1_some ho
      cases b with
      | len =>
        obtain ⟨x, t, h1, h2, ho⟩ := bind2_some (show bind2 as.head? c.argTypes.toList.head? (fun x t => sel (Nat.beq as.length 1) (bind1 (E.ty.get t) fun i => same (lenD i.desc x f)) none) = some (v, us) from ho)
        obtain ⟨hl, ho⟩ := sel_some ho
        obtain ⟨i, hi, ho⟩ := bind1_some ho
        exact same_keys ho
      | append =>
        obtain ⟨p, q, h1, h2, ho⟩ := bind2_some (show bind2 (fst2 as) (fst2 c.argTypes.toList) (fun p q => bind1 (E.ty.get q.2) fun i => sel (rowD i.desc) (appendA E f new q.1 p.1 p.2) none) = some (v, us) from ho)
        obtain ⟨i, hi, ho⟩ := bind1_some ho
        obtain ⟨hr, ho⟩ := sel_some ho
        exact appendA_keys ho
      | copy =>
        obtain ⟨p, t, h1, h2, ho⟩ := bind2_some (show bind2 (fst2 as) c.argTypes.toList.head? (fun p t => copyA E f t p.1 p.2) = some (v, us) from ho)
        exact copyA_keys ho
      | min =>
        obtain ⟨p, h1, ho⟩ := bind1_some (show bind1 (fst2 as) (fun p => same (minI E false p.1 p.2)) = some (v, us) from ho)
        exact same_keys ho
      | max =>
        obtain ⟨p, h1, ho⟩ := bind1_some (show bind1 (fst2 as) (fun p => same (minI E true p.1 p.2)) = some (v, us) from ho)
        exact same_keys ho
      | _ => cases ho
    · cases ho
  | _ => cases ho

end Go.Sim
