/- Facts on the program that the row asks for, part 1. No condition. -/
import Derived.Test.YtmealahmjddpcaaGreatDoorCards
import Derived.KernelRfl
import Derived.JoinedCond
set_option linter.all false
noncomputable section
set_option maxRecDepth 1000000
namespace Go.Proofs.YtmealahmjddpcaaGreatDoor.law3
open Go.ChangeShapes Go.WideShapes Go.ChangeAt
theorem aar:(Rows.transactionChecksUptoRow.inPlace==Tryz.prog.inPlace 3)=true:=by kernel_rfl
theorem aea:(Rows.transactionChecksUptoRow.unfollowed==Tryz.prog.unfollowed 3)=true:=by kernel_rfl
theorem aec:(Rows.transactionChecksUptoRow.recurses==Tryz.prog.recurses 3)=true:=by kernel_rfl
end Go.Proofs.YtmealahmjddpcaaGreatDoor.law3
end
