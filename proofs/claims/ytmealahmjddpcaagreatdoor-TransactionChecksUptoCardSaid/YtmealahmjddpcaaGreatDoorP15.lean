/- Facts on the program that the row asks for, part 2. No condition. -/
import Derived.Test.YtmealahmjddpcaaGreatDoorCards
import Derived.KernelRfl
import Derived.JoinedCond
set_option linter.all false
noncomputable section
set_option maxRecDepth 1000000
namespace Go.Proofs.YtmealahmjddpcaaGreatDoor.law3
open Go.ChangeShapes Go.WideShapes Go.ChangeAt
theorem aas:(Rows.transactionChecksUptoRow.named==Tryz.prog.varsNamed 3)=true:=by kernel_rfl
theorem abL:laidOutB Tryz.prog=true:=by kernel_rfl
theorem abK:mapsRowed Tryz.prog=true:=by kernel_rfl
theorem aeb:namedTie Tryz.prog Rows.transactionChecksUptoRow.named (Rows.OpenSpec.upto Rows.transactionChecksSpec).bare.vars=true:=by kernel_rfl
end Go.Proofs.YtmealahmjddpcaaGreatDoor.law3
end
