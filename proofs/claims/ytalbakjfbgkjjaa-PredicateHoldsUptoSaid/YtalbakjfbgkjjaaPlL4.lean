/- Plain law: PredicateHolds. -/
import Derived.Test.YtalbakjfbgkjjaaLaw4
import Derived.Test.YtalbakjfbgkjjaaBeg
import Derived.Test.YtalbakjfbgkjjaaPlS
set_option linter.all false
namespace Go.Proofs.Ytalbakjfbgkjjaa
open Go.Abs

theorem L4_ok (k : Option Bool) (row params r v : List TValue) (xs : List TPredicate) (hl : xs.length ≤ 3) (hx : ∀ x ∈ xs, szP x ≤ 1900000) : ∀ (ys : List TPredicate) (i n : Nat), xs.drop i = ys → 1900000 + ys.length < n → n ≤ 2000000 →
    L4_0 k n row params r v xs (xs.length : Int) (i : Int) = k
  | [], i, n + 1, hd, hn, _ => by
    have : xs.length ≤ i := by simpa using hd
    have hq : ¬ ((i : Int) < (xs.length : Int)) := by omega
    simp only [L4_0, B4_0, hq, decide_false, Bool.false_eq_true, if_false]
  | y :: ys, i, n + 1, hd, hn, hn2 => by
    obtain ⟨g1, g2, g3⟩ := get_drop hd
    have hq : ((i : Int) < (xs.length : Int)) := by omega
    have hy := hx y (List.mem_of_getElem? g1)
    simp only [List.length_cons] at hn
    simp only [L4_0, B4_0, hq, decide_true, if_true, idx_nat, g1, Option.bind_some, F19_eq r v n y (by omega) (by omega), F20_eq r v n y (by omega) (by omega), F19_eq row v n y (by omega) (by omega), F20_eq row v n y (by omega) (by omega),
      F19_eq r params n y (by omega) (by omega), F20_eq r params n y (by omega) (by omega), beq_self_eq_true, Bool.not_true, Bool.false_eq_true, if_false]
    rw [next_i g3 (by omega)]
    exact L4_ok k row params r v xs hl hx ys (i + 1) n g2 (by omega) (by omega)
  | _, _, 0, _, hn, _ => by omega

theorem holds4 (codes : List Int) (hb : ∀ x ∈ codes, 0 ≤ x ∧ x ≤ 255) (raw : TPredicate) (hraw : szP raw ≤ 1100000) (row params : List TValue) : F4 2000000 codes raw row params = some true := by
  have key : Ok (F4 2000000 codes raw row params) (fun r => r = true) := by
    unfold F4 B4_2
    refine Ok.bind (F10_ok 2000000 codes 160 hb (by omega) (by omega)) fun c hc => ?_
    refine Ok.bind (F11_ok 2000000 (by omega) c 4 (by omega) hc) fun k ⟨hk, ok, lk⟩ => ?_
    refine Ok.bind (F11_ok 2000000 (by omega) k.2 2 (by omega) hk) fun m ⟨hm, om, lm⟩ => ?_
    refine Ok.bind (F12_ok k.1 m.1 ok om (by omega) (by omega) 3 2000000 m.2 hm (by omega) (by omega) (by omega) (by omega)) fun p ⟨hp, vp, sp⟩ => ?_
    refine Ok.bind (F17_ok 2000000 (by omega) p.2 k.1 0 3 ok (by omega) hp) fun r ⟨hr, _⟩ => ?_
    refine Ok.bind (F18_ok 2000000 (by omega) r.2 m.1 om (by omega) hr) fun v ⟨hv, vv⟩ => ?_
    refine Ok.bind (F13_ok 2000000 v.2 p.1 hv (by omega) (by omega)) fun q ⟨hq, sq⟩ => ?_
    have h := L4_ok (B4_1 2000000) row params r.1 v.1 [p.1, q.1, raw] (by simp) (by
      intro x hx
      simp only [List.mem_cons, List.not_mem_nil, or_false] at hx
      rcases hx with rfl | rfl | rfl <;> omega) [p.1, q.1, raw] 0 2000000 rfl (by simp) (by omega)
    have h : L4_0 (B4_1 2000000) 2000000 row params r.1 v.1 [p.1, q.1, raw] (([p.1, q.1, raw] : List TPredicate).length : Int) 0 = B4_1 2000000 := h
    rw [h]
    unfold B4_1
    rw [show F14 2000000 = some true from begun_ok 1999940]
    exact Ok.pure rfl
  obtain ⟨r, h, rfl⟩ := key
  exact h

theorem plain4 (codes : List Int) (raw : TPredicate) (row params : List TValue) (h0 : okL [.slice .sh (rows5 codes)]) (h1 : okL (enc28 raw)) (h2 : okL [.slice .sh (rows23 row)]) (h3 : okL [.slice .sh (rows23 params)])
    (hb : bulkL [.slice .sh (rows5 codes)] + bulkL (enc28 raw) + bulkL [.slice .sh (rows23 row)] + bulkL [.slice .sh (rows23 params)] ≤ 1048576) :
    CallOK Try.prog ann 4 [.slice .sh (rows5 codes), .agg (enc28 raw), .slice .sh (rows23 row), .slice .sh (rows23 params)] (.bool true) [] :=
  ev4 2000000 codes raw row params true (holds4 codes (bytes_ok h0.1) raw (by have := sz_bulk raw; omega) row params)
end Go.Proofs.Ytalbakjfbgkjjaa
