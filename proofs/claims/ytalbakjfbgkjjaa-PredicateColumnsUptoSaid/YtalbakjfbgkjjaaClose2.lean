/- From the abstract semantics to a law's contract: a function that returns true on all plain data returns true at every call, and its arguments read afterwards as before. Conditions: the arguments are read as data and are of bounded bulk. -/
import Derived.Test.YtalbakjfbgkjjaaClose1
set_option linter.unusedSimpArgs false
namespace Go.Proofs.Ytalbakjfbgkjjaa
open Go.Abs Go.RowKit Go.ChangeShapes

theorem below_of_fr {w w' : World} {g g' : Gh} (h : Fr w g w' g') (hk : ∀ b, g.κ b = none) : Below w.heap.size w w' :=
  ⟨h.os, h.tape, h.output, h.size, fun k hk' => (h.old k hk' (hk k)).1⟩

/-- A value that a law's argument may be. -/
def plainAV : AV → Bool
  | .loc _ _ | .ptr _ | .undef | .ms _ _ _ _ | .ex _ _ | .fs _ | .msp _ _ _ _ => false
  | .slice (.own _) _ => false
  | _ => true

def gh0 (w : World) (np : Nat) : Gh := ⟨fun _ => 0, fun _ => none, memOf w, np⟩

theorem rel0 {P : Program} {A : Ann} {W : World} {vs : Array Value} {avs : List AV} (hn : avs.length ≤ A.n) (hnp : A.np = avs.length)
    (h : all2 (fun v x => DR (memOf W) v x ∧ plainAV x = true) vs.toList avs) : Rel P A (gh0 W A.np) (initAS avs) ⟨vs ++ Array.replicate (A.n - vs.size) undef, []⟩ W := by
  have hlen : vs.size = avs.length := by have := all2_length h; simpa using this
  have hps : ∀ (t : Nat) (x : AV), avs[t]? = some x → x.pslot t = x ∧ x.pbox = none ∧ x.isLoc = false ∧ x.key = none := by
    intro t x hx
    obtain ⟨v, hv, hd, hp⟩ := all2_get h hx
    cases x <;> first | exact ⟨rfl, rfl, rfl, rfl⟩ | simp [plainAV] at hp
  refine ⟨by simp; omega, rfl, fun t => ?_, fun t k he => ?_, fun k cs hc => ?_, fun b o v hm => hm, fun b x hx => by simp [gh0] at hx, rfl, fun k cs j x k' hc => ?_⟩
  · show TR P (gh0 W A.np) W t ((vs ++ Array.replicate (A.n - vs.size) undef).getD t undef) ((initAS avs).tmps t)
    rw [tmps_init]
    cases hx : avs[t]? with
    | none =>
      have hge : avs.length ≤ t := by simpa using hx
      have e2 : (vs ++ Array.replicate (A.n - vs.size) undef).getD t undef = undef := by
        rw [Array.getD_eq_getD_getElem?, Array.getElem?_append]
        rw [if_neg (by omega)]
        rw [Array.getElem?_replicate]
        split <;> rfl
      rw [e2]
      exact ⟨.tuple (by simpa using .nil), OwnOK.triv P (by simp)⟩
    | some x =>
      obtain ⟨v, hv, hd, hp⟩ := all2_get h hx
      have hlt : t < avs.length := (List.getElem?_eq_some_iff.1 hx).1
      have e2 : (vs ++ Array.replicate (A.n - vs.size) undef).getD t undef = v := by
        rw [Array.getD_eq_getD_getElem?, Array.getElem?_append_left (by omega)]
        have : vs[t]? = some v := by simpa using hv
        rw [this]; rfl
      rw [e2]
      obtain ⟨p1, p2, p3, p4⟩ := hps t x hx
      simp only [p1]
      refine TR.of P p3 hd (OwnOK.triv P ?_)
      intro e rows he
      subst he
      simp [plainAV] at hp
  · rw [tmps_init] at he
    cases hx : avs[t]? with
    | none => simp [hx] at he
    | some x =>
      obtain ⟨p1, p2, p3, p4⟩ := hps t x hx
      simp only [hx, p1, p4] at he
      simp at he
  · rw [box_init] at hc
    cases hx : avs[k]? with
    | none => simp [hx] at hc
    | some x => simp [hx, (hps k x hx).2.1] at hc
  · rw [box_init] at hc
    cases hx : avs[k]? with
    | none => simp [hx] at hc
    | some x => simp [hx, (hps k x hx).2.1] at hc

section
variable {H : Type} {enc : TypeId × Value → H} {P : Program}

theorem trodAll_stays (hl : laidOutB P = true) {W W' : World} {sp : Nat → Bool} : ∀ {ts : List TypeId} {vs : List Value} {ds : List (DataW H)} {ps : List MemPlace},
    (∀ t ∈ ts, P.readableRec t = true ∧ t < P.types.size) → DataW.TrodAll enc P W 0 (fun _ => true) true ts vs ds ps → Below W.heap.size W W' → (∀ p ∈ ps, p.block < W.heap.size) → (∀ p ∈ ps, sp p.block = true) →
    DataW.TrodAll enc P W' 0 sp true ts vs ds ps
  | [], _, _, _, _, h, _, _, _ => by
    obtain ⟨rfl, rfl, rfl⟩ := trodAll_nil h
    exact rfl
  | t :: ts, _, _, _, ht, h, hb, hlt, hsp => by
    obtain ⟨v, vs, d, ds, p, q, rfl, rfl, rfl, h1, h2⟩ := trodAll_cons h
    refine ⟨p, q, ?_, trodAll_stays hl (fun t h => ht t (by simp [h])) h2 hb (fun x hx => hlt x (by simp [hx])) (fun x hx => hsp x (by simp [hx])), rfl⟩
    exact WideElems.Trod_stays hl (ht t (by simp)).1 (ht t (by simp)).2 h1 (fun x hx => hb.same (hlt x (by simp [hx]))) (fun x hx => hsp x (by simp [hx]))

/-- What a law's function does on all plain data, said of a call. -/
theorem law_contract {ann : FuncId → Ann} {f : FuncId} {fn : Func} {s : ChangeSpec} {tb : TypeId} (hl : laidOutB P = true) (hts : (fn.params.toList.all fun t => P.readableRec t && decide (t < P.types.size)) = true)
    (hres : fn.resultTypes = #[tb]) (htb : P.underlying tb = some .bool) (hv : s.vars = []) (hfn : ∀ ds : List (DataW H), ds.length = fn.params.size → s.fn H ds = { results := [.lit (.bool true)], args := ds })
    {W : World} {args : Array Value} {ds gs : List (DataW H)} {before : List MemPlace}
    (hW : DataW.Whole enc P fn.params.toList s.vars false W args.toList ds gs before)
    (hcall : ∃ avs : List AV, SoundCall P ann f avs (.bool true) [] ∧ all2 (fun v x => DR (memOf W) v x ∧ plainAV x = true) args.toList avs) :
    Calls P f args W fun e W' => ∃ v, e = .returned v ∧ s.post enc P fn false true false false W args v W' := by
  obtain ⟨avs, hs, h2⟩ := hcall
  obtain ⟨hnp, hn, hpt, hem, hrun⟩ := hs
  have hlen : args.size = avs.length := by have := all2_length h2; simpa using this
  refine (hrun (gh0 W (ann f).np) W args hlen (rel0 hn hnp h2)).mono ?_
  rintro e W' ⟨v, g', rfl, hfr, hmu, hkl, hret, _⟩
  refine ⟨v, rfl, ?_⟩
  obtain ⟨hd, _⟩ := hret
  cases hd
  have hb := below_of_fr hfr (fun _ => rfl)
  have hW' := hW
  obtain ⟨p, q, hA, hV, rfl, hfz, hnd⟩ := hW
  rw [hv] at hV
  obtain ⟨rfl, rfl⟩ := trodVars_none hV
  have hdl : ds.length = fn.params.size := by
    have : ∀ {ts : List TypeId} {vs : List Value} {ds : List (DataW H)} {ps : List MemPlace}, DataW.TrodAll enc P W 0 (fun _ => true) true ts vs ds ps → ds.length = ts.length := by
      intro ts
      induction ts with
      | nil => intro vs ds ps h; obtain ⟨rfl, rfl, rfl⟩ := trodAll_nil h; rfl
      | cons t ts ih => intro vs ds ps h; obtain ⟨v, vs, d, ds, p, q, rfl, rfl, rfl, h1, h2⟩ := trodAll_cons h; simp [ih h2]
    simpa using this hA
  have hf := hfn (ds ++ []) (by simpa using hdl)
  have hlt : ∀ x ∈ p, x.block < W.heap.size := fun x hx => hW'.lt x (by simp [hx])
  have htt : ∀ t ∈ fn.params.toList, P.readableRec t = true ∧ t < P.types.size := fun t ht => by
    have := List.all_eq_true.1 hts t ht
    simpa using this
  have hold : ∀ x ∈ p, (fun b => decide (b < W.heap.size)) x.block = true := fun x hx => by simpa using hlt x hx
  refine ⟨ds, [], p ++ [], [], p, [], hW', ?_, ?_, ?_, hb.frame _, fun h => by cases h⟩
  · rw [hf, hres]
    exact trodAll_cons_mk (shut_bool htb _) trodAll_mk0
  · rw [hf]
    simp only [List.append_nil]
    exact trodAll_stays hl htt hA hb hlt hold
  · rw [hf, hv]
    exact rfl

theorem one_of_wide {W : World} {base : Nat} {t e : TypeId} {v : Value} (hu : P.underlying t = some (.slice e)) (h : Value.okWide P W .any base t v) : v.cells.toList = [v] := by
  simp only [Value.okWide, hu, Cell.okWide, Cell.ok] at h
  split at h <;> first | rfl | (simp_all; done) | (exact h.elim)
theorem agg_of_wide {W : World} {base : Nat} {t : TypeId} {fs : Array Field} {v : Value} (hu : P.underlying t = some (.struct fs)) (h : Value.okWide P W .any base t v) : ∃ cs, v = .agg cs := by
  simp only [Value.okWide, hu] at h
  obtain ⟨cs, h, _⟩ := h
  exact ⟨cs, h⟩
end
end Go.Proofs.Ytalbakjfbgkjjaa
