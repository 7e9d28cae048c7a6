/- The plain data that trees of the parameters' types are; written by a program (genty.py). -/
import Derived.Test.YtalbakjfbgkjjaaClose1
import Derived.Test.YtalbakjfbgkjjaaDat
set_option maxRecDepth 100000
set_option linter.all false
namespace Go.Proofs.Ytalbakjfbgkjjaa
open Go.Abs

theorem tiles (t : TypeId) (h : t < Try.prog.types.size) : tilesT Try.prog t = true := by
  have hall : ((List.range Try.prog.types.size).all fun t => tilesT Try.prog t) = true := by kernel_rfl
  exact List.all_eq_true.1 hall t (List.mem_range.2 h)

theorem ty5 (n : Nat) (xs : List AV) (h : TypedF Try.prog n 5 xs) : ∃ x, xs = enc5 x := by
  match n, h with
  | n + 1, h =>
    simp only [TypedF, Try.underlying5] at h
    obtain ⟨x, rfl, _⟩ := h
    exact ⟨x, rfl⟩
theorem ty22 (n : Nat) (xs : List AV) (h : TypedF Try.prog n 22 xs) : ∃ x, xs = [.slice .sh (rows5 x)] := by
  match n, h with
  | n + 1, h =>
    simp only [TypedF, Try.underlying22] at h
    rcases h with ⟨rows, rfl, hr⟩ | ⟨_, h0⟩
    · obtain ⟨y, rfl⟩ := rows_of fun r hr' => ty5 n r (hr r hr')
      exact ⟨y, by rw [rows5_map]⟩
    · exact absurd h0 (by decide +kernel)
theorem ty3 (n : Nat) (xs : List AV) (h : TypedF Try.prog n 3 xs) : ∃ x, xs = enc3 x := by
  match n, h with
  | n + 1, h =>
    simp only [TypedF, Try.underlying3] at h
    obtain ⟨x, rfl, _⟩ := h
    exact ⟨x, rfl⟩
theorem ty2 (n : Nat) (xs : List AV) (h : TypedF Try.prog n 2 xs) : ∃ x, xs = enc2 x := by
  match n, h with
  | n + 1, h =>
    simp only [TypedF, Try.underlying2] at h
    obtain ⟨x, rfl, _⟩ := h
    exact ⟨x, rfl⟩
theorem ty9 (n : Nat) (xs : List AV) (h : TypedF Try.prog n 9 xs) : ∃ x, xs = enc9 x := by
  match n, h with
  | n + 1, h =>
    simp only [TypedF, Try.underlying9] at h
    obtain ⟨x, rfl, _⟩ := h
    exact ⟨x, rfl⟩
theorem ty24 (n : Nat) (xs : List AV) (h : TypedF Try.prog n 24 xs) : ∃ x, xs = enc23 x := by
  match n, h with
  | n + 1, h =>
    simp only [TypedF, Try.underlying24] at h
    obtain ⟨xss, rfl, h2⟩ := h
    match xss, h2 with
    | [a0, a1, a2], ⟨h0, h1, h2, _⟩ =>
      obtain ⟨y0, rfl⟩ := ty3 _ _ h0
      obtain ⟨y1, rfl⟩ := ty2 _ _ h1
      obtain ⟨y2, rfl⟩ := ty9 _ _ h2
      exact ⟨⟨y0, y1, y2⟩, rfl⟩
theorem ty26 (n : Nat) (xs : List AV) (h : TypedF Try.prog n 26 xs) : ∃ x, xs = enc25 x := by
  match n, h with
  | n + 1, h =>
    simp only [TypedF, Try.underlying26] at h
    obtain ⟨xss, rfl, h2⟩ := h
    match xss, h2 with
    | [a0, a1, a2], ⟨h0, h1, h2, _⟩ =>
      obtain ⟨y0, rfl⟩ := ty3 _ _ h0
      obtain ⟨y1, rfl⟩ := ty3 _ _ h1
      obtain ⟨y2, rfl⟩ := ty24 _ _ h2
      exact ⟨⟨y0, y1, y2⟩, rfl⟩
theorem ty29 : ∀ (n : Nat) (xs : List AV), TypedF Try.prog n 29 xs → ∃ x, xs = enc28 x
  | 0, _, h => h.elim
  | n + 1, xs, h => by
    simp only [TypedF, Try.underlying29] at h
    obtain ⟨xss, rfl, h2⟩ := h
    match xss, h2 with
    | [a0, a1, a2, a3, a4], ⟨h0, h1, h2, h3, h4, _⟩ =>
      match n, h4 with
      | m + 1, h4 =>
        simp only [TypedF, Try.underlying27] at h4
        rcases h4 with ⟨rows, rfl, hr⟩ | ⟨_, h0⟩
        · obtain ⟨y4, rfl⟩ := rows_of fun r hr' => ty29 m r (hr r hr')
          obtain ⟨y0, rfl⟩ := ty3 _ _ h0
          obtain ⟨y1, rfl⟩ := ty3 _ _ h1
          obtain ⟨y2, rfl⟩ := ty26 _ _ h2
          obtain ⟨y3, rfl⟩ := ty26 _ _ h3
          exact ⟨⟨y0, y1, y2, y3, y4⟩, by simp [enc28, rows28_map, enc25, enc3]⟩
        · exact absurd h0 (by decide +kernel)
theorem ty30 (n : Nat) (xs : List AV) (h : TypedF Try.prog n 30 xs) : ∃ x, xs = [.slice .sh (rows3 x)] := by
  match n, h with
  | n + 1, h =>
    simp only [TypedF, Try.underlying30] at h
    rcases h with ⟨rows, rfl, hr⟩ | ⟨_, h0⟩
    · obtain ⟨y, rfl⟩ := rows_of fun r hr' => ty3 n r (hr r hr')
      exact ⟨y, by rw [rows3_map]⟩
    · exact absurd h0 (by decide +kernel)
theorem ty41 (n : Nat) (xs : List AV) (h : TypedF Try.prog n 41 xs) : ∃ x, xs = [.slice .sh (rows23 x)] := by
  match n, h with
  | n + 1, h =>
    simp only [TypedF, Try.underlying41] at h
    rcases h with ⟨rows, rfl, hr⟩ | ⟨_, h0⟩
    · obtain ⟨y, rfl⟩ := rows_of fun r hr' => ty24 n r (hr r hr')
      exact ⟨y, by rw [rows23_map]⟩
    · exact absurd h0 (by decide +kernel)
theorem ty40 (n : Nat) (xs : List AV) (h : TypedF Try.prog n 40 xs) : ∃ x, xs = [.slice .sh (rows23 x)] := by
  match n, h with
  | n + 1, h =>
    simp only [TypedF, Try.underlying40] at h
    rcases h with ⟨rows, rfl, hr⟩ | ⟨_, h0⟩
    · obtain ⟨y, rfl⟩ := rows_of fun r hr' => ty24 n r (hr r hr')
      exact ⟨y, by rw [rows23_map]⟩
    · exact absurd h0 (by decide +kernel)

end Go.Proofs.Ytalbakjfbgkjjaa
