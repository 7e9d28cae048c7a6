/- Facts on the program that the row asks for, part 3. No condition. -/
import Derived.Test.YtmealahmjddpcaaGreatDoorCards
import Derived.Test.YtmealahmjddpcaaGreatDoorP14
import Derived.Test.YtmealahmjddpcaaGreatDoorP15
import Derived.KernelRfl
import Derived.JoinedCond
set_option linter.all false
noncomputable section
set_option maxRecDepth 1000000
namespace Go.Proofs.YtmealahmjddpcaaGreatDoor.law3
open Go.ChangeShapes Go.WideShapes Go.ChangeAt
theorem j_wf:Rows.transactionChecksUptoRow.wf (OpenSpec.ofChange (Rows.OpenSpec.upto Rows.transactionChecksSpec).bare)=true:=by kernel_rfl
theorem V9:Tryz.f3.params.all (Tryz.prog.readableRec ·)=true:=by kernel_rfl
theorem aaq:(Rows.transactionChecksUptoRow.stops== [])=true:=by kernel_rfl
theorem V7:(Tryz.prog.stops== [])=true:=by kernel_rfl
theorem aat:(Rows.transactionChecksUptoRow.knobs== [])=true:=by kernel_rfl
theorem V8:(Tryz.prog.stopKnobs== [])=true:=by kernel_rfl
theorem eg {a b:Bool} (ha:a=true) (hb:b=true):(a&&b)=true:=by rw[ha,hb];rfl
theorem closed:joinedFacts Tryz.pinned.checked.prog 3 Tryz.f3 (Rows.OpenSpec.upto Rows.transactionChecksSpec).bare Rows.transactionChecksUptoRow=true:=(show joinedFacts Tryz.prog 3 Tryz.f3 (Rows.OpenSpec.upto Rows.transactionChecksSpec).bare Rows.transactionChecksUptoRow=true from eg (eg (eg (eg (eg (eg (eg (eg (eg (eg (eg (eg (eg (eg (eg (eg (eg (eg (eg (eg (eg (eg (eg (eg (eg (eg (eg (eg (eg (eg (eg (j_wf) abL) abK) V9) aeb) aaq) V7) aat) V8) aar) aea) aec) aas) (by kernel_rfl)) (by kernel_rfl)) (by kernel_rfl)) (by kernel_rfl)) (by kernel_rfl)) (by kernel_rfl)) (by kernel_rfl)) (by kernel_rfl)) (by kernel_rfl)) (by kernel_rfl)) (by kernel_rfl)) (by kernel_rfl)) (by kernel_rfl)) (by kernel_rfl)) (by kernel_rfl)) (by kernel_rfl)) (by kernel_rfl)) (by kernel_rfl)) (by kernel_rfl))
end Go.Proofs.YtmealahmjddpcaaGreatDoor.law3
end
