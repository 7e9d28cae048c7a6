/- Facts on the program that the row asks for, part 2. No condition. -/
import Derived.Test.YtjeenahnkcgfcaaGreatDoorCards
import Derived.Test.YtjeenahnkcgfcaaGreatDoorProg
import Derived.KernelRfl
import Derived.JoinedCond
set_option maxRecDepth 1000000
set_option linter.all false
namespace Go.Proofs.YtjeenahnkcgfcaaGreatDoor.law
open Go.ChangeShapes Go.WideShapes Go.ChangeAt

theorem j_named : (Rows.rebaseTakesRow.named == Tryz.prog.varsNamed 3) = true := by kernel_rfl
theorem j_laid : laidOutB Tryz.prog = true := by kernel_rfl
theorem j_maps : mapsRowed Tryz.prog = true := by kernel_rfl
theorem j_tie : namedTie Tryz.prog Rows.rebaseTakesRow.named (OpenSpec.ofChange Rows.rebaseTakesSpec).bare.vars = true := by kernel_rfl

end Go.Proofs.YtjeenahnkcgfcaaGreatDoor.law
