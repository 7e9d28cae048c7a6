/- Facts on the program that the row asks for, part 3. No condition. -/
import Derived.Test.YtbnkhmoelnfjoaaGreatRows
import Derived.Test.YtbnkhmoelnfjoaaGreatP15
import Derived.Test.YtbnkhmoelnfjoaaGreatP16
import Derived.KernelRfl
import Derived.JoinedCond
set_option linter.all false
set_option maxRecDepth 1000000
noncomputable section
namespace Go.Proofs.YtbnkhmoelnfjoaaGreat.law3
open Go.ChangeShapes Go.WideShapes Go.ChangeAt
def j_wf:Rows.mappingValidUptoRow.wf (OpenSpec.ofChange (Rows.OpenSpec.upto Rows.mappingValidSpec).bare)=true:=by kernel_rfl
def ats:Tryz.f3.params.all (Tryz.prog.readableRec ·)=true:=by kernel_rfl
def aAY:(Rows.mappingValidUptoRow.stops== [])=true:=by kernel_rfl
def atq:(Tryz.prog.stops== [])=true:=by kernel_rfl
def aBb:(Rows.mappingValidUptoRow.knobs== [])=true:=by kernel_rfl
def atr:(Tryz.prog.stopKnobs== [])=true:=by kernel_rfl
def lE {a b:Bool} (ha:a=true) (hb:b=true):(a&&b)=true:=by rw[ha,hb];rfl
def closed:joinedFacts Tryz.pinned.checked.prog 3 Tryz.f3 (Rows.OpenSpec.upto Rows.mappingValidSpec).bare Rows.mappingValidUptoRow=true:=(show joinedFacts Tryz.prog 3 Tryz.f3 (Rows.OpenSpec.upto Rows.mappingValidSpec).bare Rows.mappingValidUptoRow=true from lE (lE (lE (lE (lE (lE (lE (lE (lE (lE (lE (lE (lE (lE (lE (lE (lE (lE (lE (lE (lE (lE (lE (lE (lE (lE (lE (lE (lE (lE (lE (j_wf) aDN) aDM) ats) aIe) aAY) atq) aBb) atr) aAZ) aId) aIf) aBa) (by kernel_rfl)) (by kernel_rfl)) (by kernel_rfl)) (by kernel_rfl)) (by kernel_rfl)) (by kernel_rfl)) (by kernel_rfl)) (by kernel_rfl)) (by kernel_rfl)) (by kernel_rfl)) (by kernel_rfl)) (by kernel_rfl)) (by kernel_rfl)) (by kernel_rfl)) (by kernel_rfl)) (by kernel_rfl)) (by kernel_rfl)) (by kernel_rfl)) (by kernel_rfl))
end Go.Proofs.YtbnkhmoelnfjoaaGreat.law3
end
