/- Facts on the program that the row asks for, part 1. No condition. -/
import Derived.Test.YtmealahmjddpcaaGreatDoorCards
import Derived.KernelRfl
import Derived.JoinedCond
set_option linter.all false
set_option maxRecDepth 1000000
noncomputable section
namespace Go.Proofs.YtmealahmjddpcaaGreatDoor.law4
open Go.ChangeShapes Go.WideShapes Go.ChangeAt
theorem afc:(Rows.transactionChangesUptoRow.inPlace==Tryz.prog.inPlace 4)=true:=by kernel_rfl
theorem aiP:(Rows.transactionChangesUptoRow.unfollowed==Tryz.prog.unfollowed 4)=true:=by kernel_rfl
theorem aiR:(Rows.transactionChangesUptoRow.recurses==Tryz.prog.recurses 4)=true:=by kernel_rfl
end Go.Proofs.YtmealahmjddpcaaGreatDoor.law4
end
