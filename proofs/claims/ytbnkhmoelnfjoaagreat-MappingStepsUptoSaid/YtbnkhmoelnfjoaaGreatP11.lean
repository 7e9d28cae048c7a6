/- Facts on the program that the row asks for, part 3. No condition. -/
import Derived.Test.YtbnkhmoelnfjoaaGreatRows
import Derived.Test.YtbnkhmoelnfjoaaGreatP9
import Derived.Test.YtbnkhmoelnfjoaaGreatP10
import Derived.KernelRfl
import Derived.JoinedCond
set_option linter.all false
set_option maxRecDepth 1000000
open Bool renaming true->M
noncomputable section
namespace Go.Proofs.YtbnkhmoelnfjoaaGreat.law10
open Go.ChangeShapes Go.WideShapes Go.ChangeAt
def j_wf:Rows.mappingStepsUptoRow.wf (OpenSpec.ofChange (Rows.OpenSpec.upto Rows.mappingStepsSpec).bare)=M:=by kernel_rfl
def aAt:Tryz.f10.params.all (Tryz.prog.readableRec ·)=M:=by kernel_rfl
def aHM:(Rows.mappingStepsUptoRow.stops== [])=M:=by kernel_rfl
def aAr:(Tryz.prog.stops== [])=M:=by kernel_rfl
def aHP:(Rows.mappingStepsUptoRow.knobs== [])=M:=by kernel_rfl
def aAs:(Tryz.prog.stopKnobs== [])=M:=by kernel_rfl
def l4 {a b:Bool} (ha:a=M) (hb:b=M):(a&&b)=M:=by rw[ha,hb];rfl
def closed:joinedFacts Tryz.pinned.checked.prog 10 Tryz.f10 (Rows.OpenSpec.upto Rows.mappingStepsSpec).bare Rows.mappingStepsUptoRow=M:=(show joinedFacts Tryz.prog 10 Tryz.f10 (Rows.OpenSpec.upto Rows.mappingStepsSpec).bare Rows.mappingStepsUptoRow=M from l4 (l4 (l4 (l4 (l4 (l4 (l4 (l4 (l4 (l4 (l4 (l4 (l4 (l4 (l4 (l4 (l4 (l4 (l4 (l4 (l4 (l4 (l4 (l4 (l4 (l4 (l4 (l4 (l4 (l4 (l4 (j_wf) aJY) aJX) aAt) aPy) aHM) aAr) aHP) aAs) aHN) aPx) aPz) aHO) (by kernel_rfl)) (by kernel_rfl)) (by kernel_rfl)) (by kernel_rfl)) (by kernel_rfl)) (by kernel_rfl)) (by kernel_rfl)) (by kernel_rfl)) (by kernel_rfl)) (by kernel_rfl)) (by kernel_rfl)) (by kernel_rfl)) (by kernel_rfl)) (by kernel_rfl)) (by kernel_rfl)) (by kernel_rfl)) (by kernel_rfl)) (by kernel_rfl)) (by kernel_rfl))
end Go.Proofs.YtbnkhmoelnfjoaaGreat.law10
end
