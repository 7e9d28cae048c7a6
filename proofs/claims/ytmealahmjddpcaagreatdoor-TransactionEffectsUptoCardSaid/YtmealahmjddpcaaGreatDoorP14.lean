/- Facts on the program that the row asks for, part 1. No condition. -/
import Derived.Test.YtmealahmjddpcaaGreatDoorCards
import Derived.KernelRfl
import Derived.JoinedCond
set_option linter.all false
set_option maxRecDepth 1000000
noncomputable section
namespace Go.Proofs.YtmealahmjddpcaaGreatDoor.law5
open Go.ChangeShapes Go.WideShapes Go.ChangeAt
theorem aea:(Rows.transactionEffectsUptoRow.inPlace==Tryz.prog.inPlace 5)=true:=by kernel_rfl
theorem ahL:(Rows.transactionEffectsUptoRow.unfollowed==Tryz.prog.unfollowed 5)=true:=by kernel_rfl
theorem ahN:(Rows.transactionEffectsUptoRow.recurses==Tryz.prog.recurses 5)=true:=by kernel_rfl
end Go.Proofs.YtmealahmjddpcaaGreatDoor.law5
end
