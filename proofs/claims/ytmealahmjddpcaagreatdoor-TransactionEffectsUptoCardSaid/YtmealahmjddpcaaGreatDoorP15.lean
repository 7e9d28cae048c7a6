/- Facts on the program that the row asks for, part 2. No condition. -/
import Derived.Test.YtmealahmjddpcaaGreatDoorCards
import Derived.KernelRfl
import Derived.JoinedCond
set_option linter.all false
set_option maxRecDepth 1000000
noncomputable section
namespace Go.Proofs.YtmealahmjddpcaaGreatDoor.law5
open Go.ChangeShapes Go.WideShapes Go.ChangeAt
theorem aeb:(Rows.transactionEffectsUptoRow.named==Tryz.prog.varsNamed 5)=true:=by kernel_rfl
theorem afC:laidOutB Tryz.prog=true:=by kernel_rfl
theorem afB:mapsRowed Tryz.prog=true:=by kernel_rfl
theorem ahM:namedTie Tryz.prog Rows.transactionEffectsUptoRow.named (Rows.OpenSpec.upto Rows.transactionEffectsSpec).bare.vars=true:=by kernel_rfl
end Go.Proofs.YtmealahmjddpcaaGreatDoor.law5
end
