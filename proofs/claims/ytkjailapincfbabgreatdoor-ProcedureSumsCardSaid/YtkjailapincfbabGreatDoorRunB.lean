/- A run of the machine: function 8 returns true. No condition but those of the two lists. -/
import Derived.Test.YtkjailapincfbabGreatDoorTab
import Derived.KernelRfl
set_option maxRecDepth 1000000
namespace Go.Proofs.YtkjailapincfbabGreatDoor
open Go.Sim

theorem runB : resB (run (env [65, 112] [(25, 46)] [] [] []) 5000 (.call (.fn (.func 8) [] []) [] ⟨.nil, 0, []⟩)) = some true := by kernel_rfl

end Go.Proofs.YtkjailapincfbabGreatDoor
