/- Facts on the program that the row asks for, part 2. No condition. -/
import Derived.Test.YtmealahmjddpcaaGreatDoorCards
import Derived.KernelRfl
import Derived.JoinedCond
set_option linter.all false
set_option maxRecDepth 1000000
noncomputable section
namespace Go.Proofs.YtmealahmjddpcaaGreatDoor.law6
open Go.ChangeShapes Go.WideShapes Go.ChangeAt
theorem aeI:(Rows.transactionOverlaysUptoRow.named==Tryz.prog.varsNamed 6)=true:=by kernel_rfl
theorem agj:laidOutB Tryz.prog=true:=by kernel_rfl
theorem agi:mapsRowed Tryz.prog=true:=by kernel_rfl
theorem aiu:namedTie Tryz.prog Rows.transactionOverlaysUptoRow.named (Rows.OpenSpec.upto Rows.transactionOverlaysSpec).bare.vars=true:=by kernel_rfl
end Go.Proofs.YtmealahmjddpcaaGreatDoor.law6
end
