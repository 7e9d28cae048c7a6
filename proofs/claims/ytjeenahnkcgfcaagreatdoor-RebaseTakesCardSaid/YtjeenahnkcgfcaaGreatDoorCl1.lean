/- Facts on the program that the row asks for, part 1. No condition. -/
import Derived.Test.YtjeenahnkcgfcaaGreatDoorCards
import Derived.Test.YtjeenahnkcgfcaaGreatDoorProg
import Derived.KernelRfl
import Derived.JoinedCond
set_option maxRecDepth 1000000
set_option linter.all false
namespace Go.Proofs.YtjeenahnkcgfcaaGreatDoor.law
open Go.ChangeShapes Go.WideShapes Go.ChangeAt

theorem j_place : (Rows.rebaseTakesRow.inPlace == Tryz.prog.inPlace 3) = true := by kernel_rfl
theorem j_unf : (Rows.rebaseTakesRow.unfollowed == Tryz.prog.unfollowed 3) = true := by kernel_rfl
theorem j_rec : (Rows.rebaseTakesRow.recurses == Tryz.prog.recurses 3) = true := by kernel_rfl

end Go.Proofs.YtjeenahnkcgfcaaGreatDoor.law
