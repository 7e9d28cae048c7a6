/- Facts on the program that the row asks for, all. No condition. -/
import Derived.Test.YtjeenahnkcgfcaaGreatDoorCards
import Derived.Test.YtjeenahnkcgfcaaGreatDoorProg
import Derived.Test.YtjeenahnkcgfcaaGreatDoorCl1
import Derived.Test.YtjeenahnkcgfcaaGreatDoorCl2
import Derived.KernelRfl
import Derived.JoinedCond
set_option maxRecDepth 1000000
set_option linter.all false
namespace Go.Proofs.YtjeenahnkcgfcaaGreatDoor.law
open Go.ChangeShapes Go.WideShapes Go.ChangeAt

theorem j_wf : Rows.rebaseTakesRow.wf (OpenSpec.ofChange (OpenSpec.ofChange Rows.rebaseTakesSpec).bare) = true := by kernel_rfl
theorem j_params : Tryz.f3.params.all (Tryz.prog.readableRec ·) = true := by kernel_rfl
theorem j_stops : (Rows.rebaseTakesRow.stops == []) = true := by kernel_rfl
theorem j_pstops : (Tryz.prog.stops == []) = true := by kernel_rfl
theorem j_knobs : (Rows.rebaseTakesRow.knobs == []) = true := by kernel_rfl
theorem j_pknobs : (Tryz.prog.stopKnobs == []) = true := by kernel_rfl
theorem and2 {a b : Bool} (ha : a = true) (hb : b = true) : (a && b) = true := by rw [ha, hb]; rfl
theorem closed : joinedFacts Tryz.pinned.checked.prog 3 Tryz.f3 (OpenSpec.ofChange Rows.rebaseTakesSpec).bare Rows.rebaseTakesRow = true := (show joinedFacts Tryz.prog 3 Tryz.f3 (OpenSpec.ofChange Rows.rebaseTakesSpec).bare Rows.rebaseTakesRow = true from and2 (and2 (and2 (and2 (and2 (and2 (and2 (and2 (and2 (and2 (and2 (and2 (and2 (and2 (and2 (and2 (and2 (and2 (and2 (and2 (and2 (and2 (and2 (and2 (and2 (and2 (and2 (and2 (and2 (and2 (and2 (j_wf) j_laid) j_maps) j_params) j_tie) j_stops) j_pstops) j_knobs) j_pknobs) j_place) j_unf) j_rec) j_named) (by kernel_rfl)) (by kernel_rfl)) (by kernel_rfl)) (by kernel_rfl)) (by kernel_rfl)) (by kernel_rfl)) (by kernel_rfl)) (by kernel_rfl)) (by kernel_rfl)) (by kernel_rfl)) (by kernel_rfl)) (by kernel_rfl)) (by kernel_rfl)) (by kernel_rfl)) (by kernel_rfl)) (by kernel_rfl)) (by kernel_rfl)) (by kernel_rfl)) (by kernel_rfl))

end Go.Proofs.YtjeenahnkcgfcaaGreatDoor.law
