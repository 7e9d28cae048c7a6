/- What the well-formedness of the cells says of the plain data. -/
import Derived.Test.YtalbakjfbgkjjaaRd
set_option linter.all false
namespace Go.Proofs.Ytalbakjfbgkjjaa
open Go.Abs

theorem int_ok {k : IntKind} {n : Int} (h : okV (.int k n)) : k.min ≤ n ∧ n ≤ k.max := by
  simpa [okV, Lit.wf] using h
theorem okRows_mem : ∀ {rows : List (List AV)}, okRows rows → ∀ r ∈ rows, okL r
  | [], _, _, h => by simp at h
  | r :: rs, h, x, hx => by
    rcases List.mem_cons.1 hx with rfl | hx
    · exact h.1
    · exact okRows_mem h.2 x hx
theorem bytes_ok {codes : List Int} (h : okV (.slice .sh (rows5 codes))) : ∀ x ∈ codes, 0 ≤ x ∧ x ≤ 255 := by
  intro x hx
  have h1 := okRows_mem (show okRows (rows5 codes) from h) (enc5 x) (List.mem_map.2 ⟨x, hx, rfl⟩)
  have h2 := int_ok (show okV (.int .u8 x) from h1.1)
  simpa [IntKind.min, IntKind.max, IntKind.signed, IntKind.bits] using h2
end Go.Proofs.Ytalbakjfbgkjjaa
