/- Facts on the program that the row asks for, part 2. No condition. -/
import Derived.Test.YtmealahmjddpcaaGreatDoorCards
import Derived.KernelRfl
import Derived.JoinedCond
set_option linter.all false
set_option maxRecDepth 1000000
noncomputable section
namespace Go.Proofs.YtmealahmjddpcaaGreatDoor.law7
open Go.ChangeShapes Go.WideShapes Go.ChangeAt
theorem aeT:(Rows.transactionShowsUptoRow.named==Tryz.prog.varsNamed 7)=true:=by kernel_rfl
theorem agA:laidOutB Tryz.prog=true:=by kernel_rfl
theorem agz:mapsRowed Tryz.prog=true:=by kernel_rfl
theorem aiF:namedTie Tryz.prog Rows.transactionShowsUptoRow.named (Rows.OpenSpec.upto Rows.transactionShowsSpec).bare.vars=true:=by kernel_rfl
end Go.Proofs.YtmealahmjddpcaaGreatDoor.law7
end
