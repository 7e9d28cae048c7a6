/- Facts on the program that the row asks for, part 3. No condition. -/
import Derived.Test.YtmealahmjddpcaaGreatDoorCards
import Derived.Test.YtmealahmjddpcaaGreatDoorP14
import Derived.Test.YtmealahmjddpcaaGreatDoorP15
import Derived.KernelRfl
import Derived.JoinedCond
set_option linter.all false
set_option maxRecDepth 1000000
noncomputable section
namespace Go.Proofs.YtmealahmjddpcaaGreatDoor.law7
open Go.ChangeShapes Go.WideShapes Go.ChangeAt
theorem j_wf:Rows.transactionShowsUptoRow.wf (OpenSpec.ofChange (Rows.OpenSpec.upto Rows.transactionShowsSpec).bare)=true:=by kernel_rfl
theorem Zk:Tryz.f7.params.all (Tryz.prog.readableRec ·)=true:=by kernel_rfl
theorem aeR:(Rows.transactionShowsUptoRow.stops== [])=true:=by kernel_rfl
theorem Zi:(Tryz.prog.stops== [])=true:=by kernel_rfl
theorem aeU:(Rows.transactionShowsUptoRow.knobs== [])=true:=by kernel_rfl
theorem Zj:(Tryz.prog.stopKnobs== [])=true:=by kernel_rfl
theorem eY {a b:Bool} (ha:a=true) (hb:b=true):(a&&b)=true:=by rw[ha,hb];rfl
theorem closed:joinedFacts Tryz.pinned.checked.prog 7 Tryz.f7 (Rows.OpenSpec.upto Rows.transactionShowsSpec).bare Rows.transactionShowsUptoRow=true:=(show joinedFacts Tryz.prog 7 Tryz.f7 (Rows.OpenSpec.upto Rows.transactionShowsSpec).bare Rows.transactionShowsUptoRow=true from eY (eY (eY (eY (eY (eY (eY (eY (eY (eY (eY (eY (eY (eY (eY (eY (eY (eY (eY (eY (eY (eY (eY (eY (eY (eY (eY (eY (eY (eY (eY (j_wf) agA) agz) Zk) aiF) aeR) Zi) aeU) Zj) aeS) aiE) aiG) aeT) (by kernel_rfl)) (by kernel_rfl)) (by kernel_rfl)) (by kernel_rfl)) (by kernel_rfl)) (by kernel_rfl)) (by kernel_rfl)) (by kernel_rfl)) (by kernel_rfl)) (by kernel_rfl)) (by kernel_rfl)) (by kernel_rfl)) (by kernel_rfl)) (by kernel_rfl)) (by kernel_rfl)) (by kernel_rfl)) (by kernel_rfl)) (by kernel_rfl)) (by kernel_rfl))
end Go.Proofs.YtmealahmjddpcaaGreatDoor.law7
end
