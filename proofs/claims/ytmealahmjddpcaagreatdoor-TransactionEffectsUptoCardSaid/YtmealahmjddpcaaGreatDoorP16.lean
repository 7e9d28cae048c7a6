/- Facts on the program that the row asks for, part 3. No condition. -/
import Derived.Test.YtmealahmjddpcaaGreatDoorCards
import Derived.Test.YtmealahmjddpcaaGreatDoorP14
import Derived.Test.YtmealahmjddpcaaGreatDoorP15
import Derived.KernelRfl
import Derived.JoinedCond
set_option linter.all false
set_option maxRecDepth 1000000
noncomputable section
namespace Go.Proofs.YtmealahmjddpcaaGreatDoor.law5
open Go.ChangeShapes Go.WideShapes Go.ChangeAt
theorem j_wf:Rows.transactionEffectsUptoRow.wf (OpenSpec.ofChange (Rows.OpenSpec.upto Rows.transactionEffectsSpec).bare)=true:=by kernel_rfl
theorem YU:Tryz.f5.params.all (Tryz.prog.readableRec ·)=true:=by kernel_rfl
theorem adZ:(Rows.transactionEffectsUptoRow.stops== [])=true:=by kernel_rfl
theorem YS:(Tryz.prog.stops== [])=true:=by kernel_rfl
theorem aec:(Rows.transactionEffectsUptoRow.knobs== [])=true:=by kernel_rfl
theorem YT:(Tryz.prog.stopKnobs== [])=true:=by kernel_rfl
theorem eN {a b:Bool} (ha:a=true) (hb:b=true):(a&&b)=true:=by rw[ha,hb];rfl
theorem closed:joinedFacts Tryz.pinned.checked.prog 5 Tryz.f5 (Rows.OpenSpec.upto Rows.transactionEffectsSpec).bare Rows.transactionEffectsUptoRow=true:=(show joinedFacts Tryz.prog 5 Tryz.f5 (Rows.OpenSpec.upto Rows.transactionEffectsSpec).bare Rows.transactionEffectsUptoRow=true from eN (eN (eN (eN (eN (eN (eN (eN (eN (eN (eN (eN (eN (eN (eN (eN (eN (eN (eN (eN (eN (eN (eN (eN (eN (eN (eN (eN (eN (eN (eN (j_wf) afC) afB) YU) ahM) adZ) YS) aec) YT) aea) ahL) ahN) aeb) (by kernel_rfl)) (by kernel_rfl)) (by kernel_rfl)) (by kernel_rfl)) (by kernel_rfl)) (by kernel_rfl)) (by kernel_rfl)) (by kernel_rfl)) (by kernel_rfl)) (by kernel_rfl)) (by kernel_rfl)) (by kernel_rfl)) (by kernel_rfl)) (by kernel_rfl)) (by kernel_rfl)) (by kernel_rfl)) (by kernel_rfl)) (by kernel_rfl)) (by kernel_rfl))
end Go.Proofs.YtmealahmjddpcaaGreatDoor.law5
end
