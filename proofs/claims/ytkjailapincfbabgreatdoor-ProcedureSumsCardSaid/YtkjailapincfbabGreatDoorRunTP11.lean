/- A run of the machine: function 3 returns true. No condition but those of the two lists. -/
import Derived.Test.YtkjailapincfbabGreatDoorTab
import Derived.KernelRfl
set_option maxRecDepth 1000000
namespace Go.Proofs.YtkjailapincfbabGreatDoor
open Go.Sim

theorem runTP11 : resB (run (env [65, 112] [(25, 46)] [(.var 1, .lit 0, false), (.lit 0, .var 1, true), (.sub .i64 (.lit 9223372036854775807) (.var 1), .var 0, false), (.var 0, .add .i64 (.lit (-9223372036854775808)) (.var 1), false)] [] [(8, .bool true)]) 5000 (.call (.fn (.func 3) [] []) [.int .i64 (.var 0), .int .i64 (.var 1), .bool true] ⟨.nil, 0, []⟩)) = some true := by kernel_rfl

end Go.Proofs.YtkjailapincfbabGreatDoor
