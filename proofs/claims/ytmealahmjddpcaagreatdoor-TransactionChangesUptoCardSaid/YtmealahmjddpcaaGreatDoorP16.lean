/- Facts on the program that the row asks for, part 2. No condition. -/
import Derived.Test.YtmealahmjddpcaaGreatDoorCards
import Derived.KernelRfl
import Derived.JoinedCond
set_option linter.all false
set_option maxRecDepth 1000000
noncomputable section
namespace Go.Proofs.YtmealahmjddpcaaGreatDoor.law4
open Go.ChangeShapes Go.WideShapes Go.ChangeAt
theorem afd:(Rows.transactionChangesUptoRow.named==Tryz.prog.varsNamed 4)=true:=by kernel_rfl
theorem agy:laidOutB Tryz.prog=true:=by kernel_rfl
theorem agx:mapsRowed Tryz.prog=true:=by kernel_rfl
theorem aiQ:namedTie Tryz.prog Rows.transactionChangesUptoRow.named (Rows.OpenSpec.upto Rows.transactionChangesSpec).bare.vars=true:=by kernel_rfl
end Go.Proofs.YtmealahmjddpcaaGreatDoor.law4
end
