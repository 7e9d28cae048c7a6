/- A run of the machine: function 17 (begun) returns true, whatever the orders of its maps. No condition. -/
import Derived.Test.YtbnkhmoelnfjoaaGreatP4
import Derived.KernelRfl
set_option linter.all false
set_option maxRecDepth 1000000
noncomputable section
namespace Go.Proofs.YtbnkhmoelnfjoaaGreat
open Go.bX
def runB:avQ (run (env [] [(182,146),(184,147),(185,88),(165,1048576),(219,1048577)] [] [] [] [] []) 5000 (.call (.fn (.func 17) [] []) [] ⟨.nil,0,[]⟩))=true:=by kernel_rfl
end Go.Proofs.YtbnkhmoelnfjoaaGreat
end
