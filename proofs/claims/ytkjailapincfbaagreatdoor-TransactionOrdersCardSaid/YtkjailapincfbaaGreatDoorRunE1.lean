/- A run of the machine: function 3 returns true. No condition but those of the two lists. -/
import Derived.Test.YtkjailapincfbaaGreatDoorTab
import Derived.KernelRfl
set_option maxRecDepth 1000000
namespace Go.Proofs.YtkjailapincfbaaGreatDoor
open Go.Sim

theorem runE1 : resB (run (env [] [] [(8, .bool true)]) 5000 (.call (.fn (.func 3) [] []) [.int .i64 (.lit 7), .bool true] ⟨.nil, 0, []⟩)) = some true := by kernel_rfl

end Go.Proofs.YtkjailapincfbaaGreatDoor
