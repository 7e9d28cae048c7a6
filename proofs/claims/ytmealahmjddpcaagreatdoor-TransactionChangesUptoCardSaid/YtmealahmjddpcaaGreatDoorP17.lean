/- Facts on the program that the row asks for, part 3. No condition. -/
import Derived.Test.YtmealahmjddpcaaGreatDoorCards
import Derived.Test.YtmealahmjddpcaaGreatDoorP15
import Derived.Test.YtmealahmjddpcaaGreatDoorP16
import Derived.KernelRfl
import Derived.JoinedCond
set_option linter.all false
set_option maxRecDepth 1000000
noncomputable section
namespace Go.Proofs.YtmealahmjddpcaaGreatDoor.law4
open Go.ChangeShapes Go.WideShapes Go.ChangeAt
theorem j_wf:Rows.transactionChangesUptoRow.wf (OpenSpec.ofChange (Rows.OpenSpec.upto Rows.transactionChangesSpec).bare)=true:=by kernel_rfl
theorem Zw:Tryz.f4.params.all (Tryz.prog.readableRec ·)=true:=by kernel_rfl
theorem afb:(Rows.transactionChangesUptoRow.stops== [])=true:=by kernel_rfl
theorem Zu:(Tryz.prog.stops== [])=true:=by kernel_rfl
theorem afe:(Rows.transactionChangesUptoRow.knobs== [])=true:=by kernel_rfl
theorem Zv:(Tryz.prog.stopKnobs== [])=true:=by kernel_rfl
theorem eC {a b:Bool} (ha:a=true) (hb:b=true):(a&&b)=true:=by rw[ha,hb];rfl
theorem closed:joinedFacts Tryz.pinned.checked.prog 4 Tryz.f4 (Rows.OpenSpec.upto Rows.transactionChangesSpec).bare Rows.transactionChangesUptoRow=true:=(show joinedFacts Tryz.prog 4 Tryz.f4 (Rows.OpenSpec.upto Rows.transactionChangesSpec).bare Rows.transactionChangesUptoRow=true from eC (eC (eC (eC (eC (eC (eC (eC (eC (eC (eC (eC (eC (eC (eC (eC (eC (eC (eC (eC (eC (eC (eC (eC (eC (eC (eC (eC (eC (eC (eC (j_wf) agy) agx) Zw) aiQ) afb) Zu) afe) Zv) afc) aiP) aiR) afd) (by kernel_rfl)) (by kernel_rfl)) (by kernel_rfl)) (by kernel_rfl)) (by kernel_rfl)) (by kernel_rfl)) (by kernel_rfl)) (by kernel_rfl)) (by kernel_rfl)) (by kernel_rfl)) (by kernel_rfl)) (by kernel_rfl)) (by kernel_rfl)) (by kernel_rfl)) (by kernel_rfl)) (by kernel_rfl)) (by kernel_rfl)) (by kernel_rfl)) (by kernel_rfl))
end Go.Proofs.YtmealahmjddpcaaGreatDoor.law4
end
