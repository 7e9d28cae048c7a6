/- Facts on the program that the row asks for, part 1. No condition. -/
import Derived.Test.YtmealahmjddpcaaGreatDoorCards
import Derived.KernelRfl
import Derived.JoinedCond
set_option linter.all false
set_option maxRecDepth 1000000
noncomputable section
namespace Go.Proofs.YtmealahmjddpcaaGreatDoor.law7
open Go.ChangeShapes Go.WideShapes Go.ChangeAt
theorem aeS:(Rows.transactionShowsUptoRow.inPlace==Tryz.prog.inPlace 7)=true:=by kernel_rfl
theorem aiE:(Rows.transactionShowsUptoRow.unfollowed==Tryz.prog.unfollowed 7)=true:=by kernel_rfl
theorem aiG:(Rows.transactionShowsUptoRow.recurses==Tryz.prog.recurses 7)=true:=by kernel_rfl
end Go.Proofs.YtmealahmjddpcaaGreatDoor.law7
end
