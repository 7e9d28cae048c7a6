/- Plain law: the example of the chapter (begun) holds. Condition: 60 steps at least. -/
import Derived.Test.YtalbakjfbgkjjaaTop0
import Derived.KernelRfl
set_option linter.all false
set_option maxRecDepth 100000
namespace Go.Proofs.Ytalbakjfbgkjjaa
open Go.Abs

theorem begun_ok (n : Nat) : F14 (n + 60) = some true := by kernel_rfl
end Go.Proofs.Ytalbakjfbgkjjaa
