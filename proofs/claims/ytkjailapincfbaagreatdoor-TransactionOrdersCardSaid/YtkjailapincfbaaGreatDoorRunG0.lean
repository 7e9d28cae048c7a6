/- A run of the machine: function 3 returns true. No condition but those of the two lists. -/
import Derived.Test.YtkjailapincfbaaGreatDoorTab
import Derived.KernelRfl
set_option maxRecDepth 1000000
namespace Go.Proofs.YtkjailapincfbaaGreatDoor
open Go.Sim

theorem runG0 : resB (run (env [(.var 0, .lit 7, false), (.lit 7, .var 0, true)] [(.var 0, .lit 7, false), (.lit 7, .var 0, false)] [(8, .bool true)]) 5000 (.call (.fn (.func 3) [] []) [.int .i64 (.var 0), .bool false] ⟨.nil, 0, []⟩)) = some true := by kernel_rfl

end Go.Proofs.YtkjailapincfbaaGreatDoor
