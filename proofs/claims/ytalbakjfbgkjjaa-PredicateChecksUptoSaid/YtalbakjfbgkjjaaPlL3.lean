/- Plain law: PredicateChecks. -/
import Derived.Test.YtalbakjfbgkjjaaLaw3
import Derived.Test.YtalbakjfbgkjjaaBeg
import Derived.Test.YtalbakjfbgkjjaaPlS
set_option linter.all false
namespace Go.Proofs.Ytalbakjfbgkjjaa
open Go.Abs

theorem len_bulkI (xs : List Int) : xs.length ≤ bulkRows (rows3 xs) := by
  induction xs with
  | nil => simp
  | cons x xs ih =>
    have e : rows3 (x :: xs) = [.int .i64 x] :: rows3 xs := rfl
    rw [e]
    simp only [bulkRows, bulkL, bulkV, List.length_cons]
    omega

theorem checks (codes : List Int) (hb : ∀ x ∈ codes, 0 ≤ x ∧ x ≤ 255) (raw : TPredicate) (hraw : szP raw ≤ 1100000) (odd : List Int) (hodd : odd.length ≤ 1100000) : F3 2000000 codes raw odd = some true := by
  have key : Ok (F3 2000000 codes raw odd) (fun r => r = true) := by
    unfold F3 B3_0
    refine Ok.bind (F10_ok 2000000 codes 120 hb (by omega) (by omega)) fun c hc => ?_
    refine Ok.bind (F11_ok 2000000 (by omega) c 4 (by omega) hc) fun k ⟨hk, ok, lk⟩ => ?_
    refine Ok.bind (F11_ok 2000000 (by omega) k.2 2 (by omega) hk) fun m ⟨hm, om, lm⟩ => ?_
    refine Ok.bind (F12_ok k.1 m.1 ok om (by omega) (by omega) 3 2000000 m.2 hm (by omega) (by omega) (by omega) (by omega)) fun p ⟨hp, vp, sp⟩ => ?_
    refine Ok.bind (F13_ok 2000000 p.2 p.1 hp (by omega) (by omega)) fun q ⟨hq, sq⟩ => ?_
    rw [show F14 2000000 = some true from begun_ok 1999940]
    simp only [F15_eq 2000000 k.1 m.1 p.1 (by omega) (by omega) (by omega) (by omega), F15_eq 2000000 k.1 m.1 q.1 (by omega) (by omega) (by omega) (by omega), F16_eq 2000000 k.1 m.1 q.1 (by omega) (by omega) (by omega) (by omega),
      F15_eq 2000000 k.1 m.1 raw (by omega) (by omega) (by omega) (by omega), F16_eq 2000000 k.1 m.1 raw (by omega) (by omega) (by omega) (by omega),
      F15_eq 2000000 k.1 [] p.1 (by omega) (by simp) (by omega) (by omega), F16_eq 2000000 k.1 [] p.1 (by omega) (by simp) (by omega) (by omega),
      F15_eq 2000000 odd m.1 p.1 (by omega) (by omega) (by omega) (by omega), F16_eq 2000000 odd m.1 p.1 (by omega) (by omega) (by omega) (by omega),
      F15_eq 2000000 k.1 odd p.1 (by omega) (by omega) (by omega) (by omega), F16_eq 2000000 k.1 odd p.1 (by omega) (by omega) (by omega) (by omega), Option.bind_some, if_true, vp, beq_self_eq_true]
    exact Ok.pure rfl
  obtain ⟨r, h, rfl⟩ := key
  exact h

theorem plain3 (codes : List Int) (raw : TPredicate) (odd : List Int) (h0 : okL [.slice .sh (rows5 codes)]) (h1 : okL (enc28 raw)) (h2 : okL [.slice .sh (rows3 odd)])
    (hb : bulkL [.slice .sh (rows5 codes)] + bulkL (enc28 raw) + bulkL [.slice .sh (rows3 odd)] ≤ 1048576) :
    CallOK Try.prog ann 3 [.slice .sh (rows5 codes), .agg (enc28 raw), .slice .sh (rows3 odd)] (.bool true) [] :=
  ev3 2000000 codes raw odd true (checks codes (bytes_ok h0.1) raw (by have := sz_bulk raw; omega) odd (by have := len_bulkI odd; simp only [bulkL, bulkV] at hb; omega))
end Go.Proofs.Ytalbakjfbgkjjaa
