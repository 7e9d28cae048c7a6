/- Facts on the program that the row asks for, part 3. No condition. -/
import Derived.Test.YtmealahmjddpcaaGreatDoorCards
import Derived.Test.YtmealahmjddpcaaGreatDoorP15
import Derived.Test.YtmealahmjddpcaaGreatDoorP16
import Derived.KernelRfl
import Derived.JoinedCond
set_option linter.all false
set_option maxRecDepth 1000000
noncomputable section
namespace Go.Proofs.YtmealahmjddpcaaGreatDoor.law6
open Go.ChangeShapes Go.WideShapes Go.ChangeAt
theorem j_wf:Rows.transactionOverlaysUptoRow.wf (OpenSpec.ofChange (Rows.OpenSpec.upto Rows.transactionOverlaysSpec).bare)=true:=by kernel_rfl
theorem YY:Tryz.f6.params.all (Tryz.prog.readableRec ·)=true:=by kernel_rfl
theorem aeG:(Rows.transactionOverlaysUptoRow.stops== [])=true:=by kernel_rfl
theorem YW:(Tryz.prog.stops== [])=true:=by kernel_rfl
theorem aeJ:(Rows.transactionOverlaysUptoRow.knobs== [])=true:=by kernel_rfl
theorem YX:(Tryz.prog.stopKnobs== [])=true:=by kernel_rfl
theorem eP {a b:Bool} (ha:a=true) (hb:b=true):(a&&b)=true:=by rw[ha,hb];rfl
theorem closed:joinedFacts Tryz.pinned.checked.prog 6 Tryz.f6 (Rows.OpenSpec.upto Rows.transactionOverlaysSpec).bare Rows.transactionOverlaysUptoRow=true:=(show joinedFacts Tryz.prog 6 Tryz.f6 (Rows.OpenSpec.upto Rows.transactionOverlaysSpec).bare Rows.transactionOverlaysUptoRow=true from eP (eP (eP (eP (eP (eP (eP (eP (eP (eP (eP (eP (eP (eP (eP (eP (eP (eP (eP (eP (eP (eP (eP (eP (eP (eP (eP (eP (eP (eP (eP (j_wf) agj) agi) YY) aiu) aeG) YW) aeJ) YX) aeH) ait) aiv) aeI) (by kernel_rfl)) (by kernel_rfl)) (by kernel_rfl)) (by kernel_rfl)) (by kernel_rfl)) (by kernel_rfl)) (by kernel_rfl)) (by kernel_rfl)) (by kernel_rfl)) (by kernel_rfl)) (by kernel_rfl)) (by kernel_rfl)) (by kernel_rfl)) (by kernel_rfl)) (by kernel_rfl)) (by kernel_rfl)) (by kernel_rfl)) (by kernel_rfl)) (by kernel_rfl))
end Go.Proofs.YtmealahmjddpcaaGreatDoor.law6
end
