/- Facts on the program that the row asks for, part 1. No condition. -/
import Derived.Test.YtmealahmjddpcaaGreatDoorCards
import Derived.KernelRfl
import Derived.JoinedCond
set_option linter.all false
set_option maxRecDepth 1000000
noncomputable section
namespace Go.Proofs.YtmealahmjddpcaaGreatDoor.law6
open Go.ChangeShapes Go.WideShapes Go.ChangeAt
theorem aeH:(Rows.transactionOverlaysUptoRow.inPlace==Tryz.prog.inPlace 6)=true:=by kernel_rfl
theorem ait:(Rows.transactionOverlaysUptoRow.unfollowed==Tryz.prog.unfollowed 6)=true:=by kernel_rfl
theorem aiv:(Rows.transactionOverlaysUptoRow.recurses==Tryz.prog.recurses 6)=true:=by kernel_rfl
end Go.Proofs.YtmealahmjddpcaaGreatDoor.law6
end
