/- The contract of internal/bytealg.CompareString over plain data: the kit's template turned to this program, put into the form of the abstract semantics. No condition. -/
import Derived.Test.YtalbakjfbgkjjaaDat
import Derived.Lib.Strings
import Derived.Lib.Slices
import Derived.Lib.Walk
import Derived.Lib.Bytealg
set_option maxRecDepth 100000
namespace Go.Proofs.Ytalbakjfbgkjjaa
open Go.Abs

set_option maxHeartbeats 1000000 in
theorem bytealg_CompareString (a b : ByteArray) (w : World) :
    Calls Try.prog 79 #[.string a, .string b] w fun e w' => e = .returned (.int .i64 (Lib.compareBytes a.data.toList b.data.toList)) ∧ w' = w := by
  go_enter Try.func79, Try.ntmps79
  go_wp2
  rw [run_callFunc_extern Try.func91 (by kernel_rfl) (by kernel_rfl) (by kernel_rfl) (e := Extern.BytealgCompare.compare) (by kernel_rfl), Lib.run_compareString]
  simp only [Result.andThen]
  rw [Oper.upon_value]
  go_wp2
  go_ret
  exact ⟨rfl, rfl⟩

def F79 (_n : Nat) (a b : ByteArray) : Option Int := some (Lib.compareBytes a.data.toList b.data.toList)
def res79 (r : Int) : AV := .int .i64 r
def outs79 (_r : Int) : List (Nat × List AV) := []

theorem ev79 (n : Nat) (a b : ByteArray) (r : Int) (h : F79 n a b = some r) : CallOK Try.prog ann 79 [.str a, .str b] (res79 r) (outs79 r) := by
  refine ⟨body79, .ext ⟨by kernel_rfl, (by decide : 2 ≤ (ann 79).n), fun i cs hi => ?_, emptyOK_of (by kernel_rfl), fun g w vs hvs hrel => ?_⟩⟩
  · match i with
    | 0 => simp [AV.pbox] at hi
    | 1 => simp [AV.pbox] at hi
    | n + 2 => simp at hi
  · have h := Option.some.inj h
    subst h
    have h0 := hrel.tm 0
    have h1 := hrel.tm 1
    match vs, hvs with
    | ⟨[x, y]⟩, _ =>
      have h0 : DR g.μ x (.str a) ∧ _ := h0
      have h1 : DR g.μ y (.str b) ∧ _ := h1
      obtain ⟨h0, _⟩ := h0
      obtain ⟨h1, _⟩ := h1
      have ex : x = .string a := by cases h0; rfl
      have ey : y = .string b := by cases h1; rfl
      subst ex
      subst ey
      refine (bytealg_CompareString a b w).mono ?_
      rintro e w' ⟨rfl, rfl⟩
      refine ⟨_, g, rfl, Fr.refl _ _, hrel.mu, hrel.kl, ?_, fun i cs hi => by simp [outs79] at hi⟩
      exact ⟨.int _ _, .tmp 0, by simp, OwnOK.triv _ (by simp [res79])⟩

end Go.Proofs.Ytalbakjfbgkjjaa
