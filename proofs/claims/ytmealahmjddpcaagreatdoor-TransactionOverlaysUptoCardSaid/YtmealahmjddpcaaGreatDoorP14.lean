/- A run of the machine: function 15 (begun) returns true. No condition. -/
import Derived.Test.YtmealahmjddpcaaGreatDoorP8
import Derived.KernelRfl
set_option linter.all false
set_option maxRecDepth 1000000
noncomputable section
namespace Go.Proofs.YtmealahmjddpcaaGreatDoor
open Go.Sim
theorem runB:Ym (run (env [] [] [] [] [] [] []) 5000 (.call (.fn (.func 15) [] []) [] ⟨.nil,0,[]⟩))=some true:=by kernel_rfl
end Go.Proofs.YtmealahmjddpcaaGreatDoor
end
