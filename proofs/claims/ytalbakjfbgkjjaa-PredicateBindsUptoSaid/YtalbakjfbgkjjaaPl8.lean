/- Plain law: PredicateBinds. -/
import Derived.Test.YtalbakjfbgkjjaaLaw8
import Derived.Test.YtalbakjfbgkjjaaBeg
import Derived.Test.YtalbakjfbgkjjaaPl7
set_option linter.all false
namespace Go.Proofs.Ytalbakjfbgkjjaa
open Go.Abs

theorem chk_valid {cols params : List Int} {p : TPredicate} (h : pChk cols params p = 0) : ksOK cols = true ∧ ksOK params = true ∧ ndP p ≤ 24 ∧ dpP p ≤ 8 ∧ pV cols params p = true := by
  unfold pChk at h
  cases h1 : ksOK cols
  · simp [h1] at h
  · cases h2 : ksOK params
    · simp [h1, h2] at h
    · by_cases h3 : 24 < ndP p
      · simp [h1, h2, h3] at h
      · by_cases h4 : 8 < dpP p
        · simp [h1, h2, h3, h4] at h
        · cases h5 : pV cols params p
          · simp [h1, h2, h3, h4, h5] at h
          · exact ⟨rfl, rfl, by omega, by omega, rfl⟩

theorem binds (codes : List Int) (hb : ∀ x ∈ codes, 0 ≤ x ∧ x ≤ 255) (raw : TPredicate) (hraw : szP raw ≤ 1100000) (params others : List TValue) : F8 2000000 codes raw params others = some true := by
  have key : Ok (F8 2000000 codes raw params others) (fun r => r = true) := by
    unfold F8 B8_0
    refine Ok.bind (F10_ok 2000000 codes 160 hb (by omega) (by omega)) fun c hc => ?_
    refine Ok.bind (F11_ok 2000000 (by omega) c 4 (by omega) hc) fun k ⟨hk, ok, lk⟩ => ?_
    refine Ok.bind (F11_ok 2000000 (by omega) k.2 3 (by omega) hk) fun m ⟨hm, om, lm⟩ => ?_
    refine Ok.bind (F12_ok k.1 m.1 ok om (by omega) (by omega) 3 2000000 m.2 hm (by omega) (by omega) (by omega) (by omega)) fun p ⟨hp, vp, sp⟩ => ?_
    refine Ok.bind (F17_ok 2000000 (by omega) p.2 k.1 0 3 ok (by omega) hp) fun r ⟨hr, _⟩ => ?_
    refine Ok.bind (F18_ok 2000000 (by omega) r.2 m.1 om (by omega) hr) fun v ⟨hv, vv⟩ => ?_
    obtain ⟨c1, c2, c3, c4, c5⟩ := chk_valid vp
    obtain ⟨z1, z2, z3⟩ := bP_size v.1 p.1
    obtain ⟨w1, w2⟩ := bP_valid vv r.1 others p.1 c5
    obtain ⟨u1, u2, u3⟩ := bP_size params raw
    have hchk : pChk k.1 [] (bP v.1 p.1) = 0 := by
      have e1 : ¬ 24 < ndP (bP v.1 p.1) := by omega
      have e2 : ¬ 8 < dpP (bP v.1 p.1) := by omega
      have e0 : ksOK [] = true := rfl
      simp [pChk, c1, e1, e2, w1, e0]
    rw [show F14 2000000 = some true from begun_ok 1999940]
    simp only [F28_eq v.1 2000000 p.1 (by omega) (by omega), F15_eq 2000000 k.1 [] (bP v.1 p.1) (by omega) (by simp) (by omega) (by omega), F19_eq r.1 others 2000000 (bP v.1 p.1) (by omega) (by omega),
      F19_eq r.1 v.1 2000000 p.1 (by omega) (by omega), F28_eq params 2000000 raw (by omega) (by omega), F30_eq params 2000000 raw (by omega) (by omega), F29_eq 2000000 (bP params raw) (bP params raw) (by omega) (by omega),
      F30_eq v.1 2000000 p.1 (by omega) (by omega), F29_eq 2000000 (bP v.1 p.1) (bP v.1 p.1) (by omega) (by omega), Option.bind_some, if_true, hchk, w2, eqP_refl, beq_self_eq_true]
    exact Ok.pure rfl
  obtain ⟨r, h, rfl⟩ := key
  exact h

theorem plain8 (codes : List Int) (raw : TPredicate) (params others : List TValue) (h0 : okL [.slice .sh (rows5 codes)]) (h1 : okL (enc28 raw)) (h2 : okL [.slice .sh (rows23 params)]) (h3 : okL [.slice .sh (rows23 others)])
    (hb : bulkL [.slice .sh (rows5 codes)] + bulkL (enc28 raw) + bulkL [.slice .sh (rows23 params)] + bulkL [.slice .sh (rows23 others)] ≤ 1048576) :
    CallOK Try.prog ann 8 [.slice .sh (rows5 codes), .agg (enc28 raw), .slice .sh (rows23 params), .slice .sh (rows23 others)] (.bool true) [] :=
  ev8 2000000 codes raw params others true (binds codes (bytes_ok h0.1) raw (by have := sz_bulk raw; omega) params others)
end Go.Proofs.Ytalbakjfbgkjjaa
