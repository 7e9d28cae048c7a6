/- What an operation looks at. -/
import Derived.Test.YtjeenahnkcgfcaaGreatDoorSim12
set_option linter.unusedVariables false
set_option linter.unusedSimpArgs false
namespace Go.Sim
open Go.RowKit

variable {E : Env} {g : Gh} {f f' : Hf} {w : World} {T T' : Tf}

theorem valA_congr {x : Operand} (h : ∀ t, x = .tmp t → T t = T' t) : valA T x = valA T' x := by
  cases x with
  | tmp t => exact h t rfl
  | _ => rfl

theorem vals_congr : ∀ {xs : List Operand}, (∀ x ∈ xs, valA T x = valA T' x) → vals T xs = vals T' xs
  | [], _ => rfl
  | x :: xs, h => by
    show bind2 (valA T x) (vals T xs) _ = bind2 (valA T' x) (vals T' xs) _
    rw [h x (by simp), vals_congr fun y hy => h y (by simp [hy])]
theorem partsA_congr : ∀ {ps : List (Nat × Operand)}, (∀ p ∈ ps, valA T p.2 = valA T' p.2) → partsA T ps = partsA T' ps
  | [], _ => rfl
  | p :: ps, h => by
    show bind1 (valA T p.2) (fun v => bind2 v.cells (partsA T ps) _) = bind1 (valA T' p.2) (fun v => bind2 v.cells (partsA T' ps) _)
    rw [h p (by simp), partsA_congr fun q hq => h q (by simp [hq])]
theorem optNat_congr {x : Option Operand} (h : ∀ y, x = some y → valA T y = valA T' y) : optNat T x = optNat T' x := by
  cases x with
  | none => rfl
  | some y =>
    show bind1 (valA T y) _ = bind1 (valA T' y) _
    rw [h y rfl]

theorem idOf_ptr {v : SV} {q : Nat × Nat} (h : ptrOf v = some q) : q.1 ∈ idOf (some v) := by
  rw [ptrOf_some h]; simp [idOf]
theorem loadA_congr {t : TypeId} {v : SV} (h : ∀ id ∈ idOf (some v), f id = f' id) : loadA E f t v = loadA E f' t v := by
  unfold loadA
  cases hp : ptrOf v with
  | none => rfl
  | some q =>
    show bind2 (E.ty.get t) (cellsO (f q.1)) _ = bind2 (E.ty.get t) (cellsO (f' q.1)) _
    rw [h _ (idOf_ptr hp)]
theorem storeA_congr {t : TypeId} {v a : SV} (h : ∀ id ∈ idOf (some a), f id = f' id) : storeA E f t v a = storeA E f' t v a := by
  unfold storeA
  cases hp : ptrOf a with
  | none => rfl
  | some q =>
    show bind3 (E.ty.get t) v.cells (cellsO (f q.1)) _ = bind3 (E.ty.get t) v.cells (cellsO (f' q.1)) _
    rw [h _ (idOf_ptr hp)]
theorem entsOf_congr {x : SV} (h : ∀ id ∈ idOf (some x), f id = f' id) : entsOf x f = entsOf x f' := by
  cases x <;> first | rfl | (rename_i id; show bind1 (mapO (f id)) _ = bind1 (mapO (f' id)) _; rw [h id (by simp [idOf])])
theorem lookupA_congr {t : TypeId} {x k : SV} {ok : Bool} (h : ∀ id ∈ idOf (some x), f id = f' id) : lookupA E f t x k ok = lookupA E f' t x k ok := by
  unfold lookupA
  rw [entsOf_congr h]
theorem updA_congr {t : TypeId} {x k v : SV} (h : ∀ id ∈ idOf (some x), f id = f' id) : updA E f t x k v = updA E f' t x k v := by
  unfold updA
  cases hp : mpOf x with
  | none => rfl
  | some id =>
    have := mpOf_some hp
    subst this
    show bind1 (E.ty.get t) (fun i => bind1 (mapE i.desc) fun q => bind2 (E.ty.get q.1) (mapO (f id)) _) = bind1 (E.ty.get t) (fun i => bind1 (mapE i.desc) fun q => bind2 (E.ty.get q.1) (mapO (f' id)) _)
    rw [h id (by simp [idOf])]
theorem opRange_congr {new : Nat} {t : TypeId} {x : SV} (h : ∀ id ∈ idOf (some x), f id = f' id) : opRange E f new t x = opRange E f' new t x := by
  have e : ∀ D : UD, rangeD D x f = rangeD D x f' := by
    intro D
    cases D <;> first | rfl | skip
    cases x <;> first | rfl | (rename_i id; show bind1 (mapO (f id)) _ = bind1 (mapO (f' id)) _; rw [h id (by simp [idOf])])
  unfold opRange
  simp only [e]
theorem opNext_congr {isS : Bool} {x : SV} (h : ∀ id ∈ idOf (some x), f id = f' id) : opNext f isS x = opNext f' isS x := by
  unfold opNext
  cases hp : zeroOff x with
  | none => rfl
  | some id =>
    obtain ⟨q, h1, h2⟩ := bind1_some hp
    obtain ⟨_, h2⟩ := sel_some h2
    cases h2
    show sel isS (bind1 (iterO (f q.1)) _) none = sel isS (bind1 (iterO (f' q.1)) _) none
    rw [h _ (idOf_ptr h1)]
theorem cellsAt_congr {id off n : Nat} (h : f id = f' id) : cellsAt f id off n = cellsAt f' id off n := by unfold cellsAt; rw [h]
theorem srcOf_congr {size : Nat} {x : SV} (h : ∀ id ∈ idOf (some x), f id = f' id) : srcOf f size x = srcOf f' size x := by
  cases x <;> first
    | rfl
    | (rename_i id off n c
       have e : rowOf (.sl id off n c) f size = rowOf (.sl id off n c) f' size := cellsAt_congr (h id (by simp [idOf]))
       show srcRow f size (.sl id off n c) = srcRow f' size (.sl id off n c)
       unfold srcRow
       rw [e])
theorem appTo_congr {s : SV} {new : Nat} {e : TypeId} {size m : Nat} {xs : List SV} (h : ∀ id ∈ idOf (some s), f id = f' id) : appTo s f new e size m xs = appTo s f' new e size m xs := by
  cases s <;> first
    | rfl
    | (rename_i id off n c
       show appAt f new e size m xs id off n c = appAt f' new e size m xs id off n c
       unfold appAt
       rw [h id (by simp [idOf]), cellsAt_congr (h id (by simp [idOf]))])
theorem appendA_congr {new : Nat} {t : TypeId} {s x : SV} (h1 : ∀ id ∈ idOf (some s), f id = f' id) (h2 : ∀ id ∈ idOf (some x), f id = f' id) : appendA E f new t s x = appendA E f' new t s x := by
  unfold appendA appendE
  have e1 : ∀ size, srcOf f size x = srcOf f' size x := fun size => srcOf_congr h2
  have e2 : ∀ e size m xs, appTo s f new e size m xs = appTo s f' new e size m xs := fun e size m xs => appTo_congr h1
  simp only [e1, e2]
theorem copyTo_congr {d : SV} {size n : Nat} {xs : List SV} (h : ∀ id ∈ idOf (some d), f id = f' id) : copyTo d f size n xs = copyTo d f' size n xs := by
  cases d <;> first
    | rfl
    | (rename_i id off m c
       show copyAt f size n xs id off = copyAt f' size n xs id off
       unfold copyAt
       rw [h id (by simp [idOf])])
theorem copyA_congr {t : TypeId} {d s : SV} (h1 : ∀ id ∈ idOf (some d), f id = f' id) (h2 : ∀ id ∈ idOf (some s), f id = f' id) : copyA E f t d s = copyA E f' t d s := by
  unfold copyA copyE
  have e1 : ∀ size, srcOf f size s = srcOf f' size s := fun size => srcOf_congr h2
  have e2 : ∀ size m xs, copyTo d f size m xs = copyTo d f' size m xs := fun size m xs => copyTo_congr h1
  simp only [e1, e2]
theorem lenD_congr {D : UD} {x : SV} (h : ∀ id ∈ idOf (some x), f id = f' id) : lenD D x f = lenD D x f' := by
  cases D <;> first
    | rfl
    | (show lenM x f = lenM x f'
       cases x <;> first | rfl | (rename_i id; show bind1 (mapO (f id)) _ = bind1 (mapO (f' id)) _; rw [h id (by simp [idOf])]))

theorem mem_idsOf {xs : List Operand} {x : Operand} (hx : x ∈ xs) {id : Nat} (h : id ∈ idOf (valA T x)) : id ∈ idsOf T xs := by
  induction xs with
  | nil => simp at hx
  | cons y ys ih =>
    show id ∈ idOf (valA T y) ++ idsOf T ys
    rw [List.mem_append]
    rcases List.mem_cons.1 hx with rfl | hx
    · exact .inl h
    · exact .inr (ih hx)

theorem ids_vals : ∀ {xs : List Operand} {as : List SV}, vals T xs = some as → ∀ a ∈ as, ∀ id ∈ idOf (some a), id ∈ idsOf T xs
  | [], as, h, a, ha, _, _ => by cases h; simp at ha
  | x :: xs, as, h, a, ha, id, hid => by
    obtain ⟨v, l, h1, h2, h3⟩ := bind2_some h
    cases h3
    show id ∈ idOf (valA T x) ++ idsOf T xs
    rw [List.mem_append]
    rcases List.mem_cons.1 ha with rfl | ha
    · rw [h1]; exact .inl hid
    · exact .inr (ids_vals h2 a ha id hid)

theorem opA_congr {op : Op} {new : Nat} (hT : ∀ x ∈ op.operands.toList, valA T x = valA T' x) (hf : ∀ id ∈ readsOf op T, f id = f' id) : opA E op T f new = opA E op T' f' new := by
  have one_eq : ∀ (x : Operand) (k : SV → Option (SV × List Up)), x ∈ op.operands.toList → one T x k = one T' x k := fun x k hx => by unfold one; rw [hT x hx]
  have two_eq : ∀ (x y : Operand) (k : SV → SV → Option (SV × List Up)), x ∈ op.operands.toList → y ∈ op.operands.toList → two T x y k = two T' x y k := fun x y k hx hy => by unfold two; rw [hT x hx, hT y hy]
  have oneF : ∀ (x : Operand) (k k' : SV → Option (SV × List Up)), x ∈ op.operands.toList → (∀ v, valA T x = some v → k v = k' v) → one T x k = one T' x k' := fun x k k' hx hk => by
    rw [← one_eq x k' hx]
    unfold one
    cases hv : valA T x with
    | none => rfl
    | some v => exact hk v hv
  have twoF : ∀ (x y : Operand) (k k' : SV → SV → Option (SV × List Up)), x ∈ op.operands.toList → y ∈ op.operands.toList → (∀ v u, valA T x = some v → valA T y = some u → k v u = k' v u) → two T x y k = two T' x y k' := fun x y k k' hx hy hk => by
    rw [← two_eq x y k' hx hy]
    unfold two
    cases hv : valA T x with
    | none => rfl
    | some v =>
      cases hu : valA T y with
      | none => rfl
      | some u => exact hk v u hv hu
  cases op with
  | move x => exact one_eq x _ (by simp [Op.operands])
  | assign x => exact one_eq x _ (by simp [Op.operands])
  | pick c x y =>
    show bind1 (valA T c) (fun v => bind1 (boolOf v) fun b => one T (sel b x y) _) = bind1 (valA T' c) (fun v => bind1 (boolOf v) fun b => one T' (sel b x y) _)
    rw [hT c (by simp [Op.operands])]
    congr 1
    funext v
    congr 1
    funext b
    cases b
    · exact one_eq y _ (by simp [Op.operands])
    · exact one_eq x _ (by simp [Op.operands])
  | alloc e => rfl
  | box e x => exact one_eq x _ (by simp [Op.operands])
  | build t ps =>
    show bind1 (partsA T ps.toList) _ = bind1 (partsA T' ps.toList) _
    rw [partsA_congr fun p hp => hT p.2 (by simp [Op.operands]; exact ⟨p.1, by simpa using hp⟩)]
  | buildSlice t n ps =>
    show bind1 (partsA T ps.toList) _ = bind1 (partsA T' ps.toList) _
    rw [partsA_congr fun p hp => hT p.2 (by simp [Op.operands]; exact ⟨p.1, by simpa using hp⟩)]
  | insert t m k x =>
    refine twoF m k _ _ (by simp [Op.operands]) (by simp [Op.operands]) fun v u hv hu => oneF x _ _ (by simp [Op.operands]) fun c hc => ?_
    rw [updA_congr fun id hid => hf id (mem_idsOf (xs := [m, k, x]) (x := m) (by simp) (by rw [hv]; exact hid))]
  | mapUpdate t m k x =>
    refine twoF m k _ _ (by simp [Op.operands]) (by simp [Op.operands]) fun v u hv hu => oneF x _ _ (by simp [Op.operands]) fun c hc => ?_
    rw [updA_congr fun id hid => hf id (mem_idsOf (xs := [m, k, x]) (x := m) (by simp) (by rw [hv]; exact hid))]
  | load t x =>
    refine oneF x _ _ (by simp [Op.operands]) fun v hv => ?_
    rw [loadA_congr fun id hid => hf id (mem_idsOf (xs := [x]) (x := x) (by simp) (by rw [hv]; exact hid))]
  | store t x y =>
    refine twoF x y _ _ (by simp [Op.operands]) (by simp [Op.operands]) fun v u hv hu => ?_
    rw [storeA_congr fun id hid => hf id (mem_idsOf (xs := [x, y]) (x := x) (by simp) (by rw [hv]; exact hid))]
  | nilCheck x => exact one_eq x _ (by simp [Op.operands])
  | binOp op t x y yt => exact two_eq x y _ (by simp [Op.operands]) (by simp [Op.operands])
  | unOp op t x => exact one_eq x _ (by simp [Op.operands])
  | convert s d x => exact one_eq x _ (by simp [Op.operands])
  | makeInterface t x => exact one_eq x _ (by simp [Op.operands])
  | makeFunc fn a c =>
    show sel (okFn fn) (bind2 (vals T a.toList) (vals T c.toList) _) none = sel (okFn fn) (bind2 (vals T' a.toList) (vals T' c.toList) _) none
    rw [vals_congr fun x hx => hT x (by simp [Op.operands]; exact .inl (by simpa using hx)), vals_congr fun x hx => hT x (by simp [Op.operands]; exact .inr (by simpa using hx))]
  | makeMap t r =>
    cases r with
    | none => rfl
    | some x =>
      show bind2 (E.ty.get t) (valA T x) _ = bind2 (E.ty.get t) (valA T' x) _
      rw [hT x (by simp [Op.operands])]
  | makeSlice t l c => exact two_eq l c _ (by simp [Op.operands]) (by simp [Op.operands])
  | slice t x lo hi mx =>
    refine oneF x _ _ (by simp [Op.operands]) fun v hv => ?_
    rw [optNat_congr (x := lo) fun y hy => hT y (by subst hy; simp [Op.operands]), optNat_congr (x := hi) fun y hy => hT y (by subst hy; simp [Op.operands]), optNat_congr (x := mx) fun y hy => hT y (by subst hy; simp [Op.operands])]
  | fieldAddr s x k => exact one_eq x _ (by simp [Op.operands])
  | field t x k => exact one_eq x _ (by simp [Op.operands])
  | indexAddr t x ix => exact two_eq x ix _ (by simp [Op.operands]) (by simp [Op.operands])
  | index t x ix => exact two_eq x ix _ (by simp [Op.operands]) (by simp [Op.operands])
  | lookup t x k ok =>
    refine twoF x k _ _ (by simp [Op.operands]) (by simp [Op.operands]) fun v u hv hu => ?_
    rw [lookupA_congr fun id hid => hf id (mem_idsOf (xs := [x, k]) (x := x) (by simp) (by rw [hv]; exact hid))]
  | range t x =>
    refine oneF x _ _ (by simp [Op.operands]) fun v hv => ?_
    exact opRange_congr fun id hid => hf id (mem_idsOf (xs := [x]) (x := x) (by simp) (by rw [hv]; exact hid))
  | next it isS =>
    refine oneF it _ _ (by simp [Op.operands]) fun v hv => ?_
    exact opNext_congr fun id hid => hf id (mem_idsOf (xs := [it]) (x := it) (by simp) (by rw [hv]; exact hid))
  | typeAssert x xt t ok => exact one_eq x _ (by simp [Op.operands])
  | extract x i => exact one_eq x _ (by simp [Op.operands])
  | call c =>
    show opCall E T f new c = opCall E T' f' new c
    unfold opCall
    split
    · rename_i b hb
      have ev : vals T c.args.toList = vals T' c.args.toList := vals_congr fun x hx => hT x (by simp [Op.operands, Call.operands, hb]; simpa using hx)
      rw [← ev]
      cases hv : vals T c.args.toList with
      | none => rfl
      | some as =>
        have hid : ∀ a ∈ as, ∀ id ∈ idOf (some a), f id = f' id := fun a ha id h => hf id (ids_vals hv a ha id h)
        show opBuiltin E f new b as _ = opBuiltin E f' new b as _
        have e1 : ∀ t p, fst2 as = some p → appendA E f new t p.1 p.2 = appendA E f' new t p.1 p.2 := fun t p h1 => by
          have hp := fst2_some h1
          exact appendA_congr (hid p.1 (by rw [hp]; simp)) (hid p.2 (by rw [hp]; simp))
        have e2 : ∀ t p, fst2 as = some p → copyA E f t p.1 p.2 = copyA E f' t p.1 p.2 := fun t p h1 => by
          have hp := fst2_some h1
          exact copyA_congr (hid p.1 (by rw [hp]; simp)) (hid p.2 (by rw [hp]; simp))
        have e3 : ∀ D x, as.head? = some x → lenD D x f = lenD D x f' := fun D x h1 => lenD_congr (hid x (List.mem_of_head? h1))
        unfold opBuiltin
        cases b <;> first
          | rfl
          | (simp only
             generalize hq : fst2 as = q at e1 e2
             cases q with
             | none => rfl
             | some p => first | (simp only [bind2, e1 _ p rfl]; done) | (simp only [bind2, e2 _ p rfl]; done))
          | (simp only
             generalize hq : as.head? = q at e3
             cases q with
             | none => rfl
             | some p => simp only [bind2, e3 _ p rfl])
    · rfl
  | _ => rfl

end Go.Sim
