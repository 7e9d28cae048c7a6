/- Facts on the program that the row asks for, part 3. No condition. -/
import Derived.Test.YtbnkhmoelnfjoaaGreatRows
import Derived.Test.YtbnkhmoelnfjoaaGreatP10
import Derived.Test.YtbnkhmoelnfjoaaGreatP11
import Derived.KernelRfl
import Derived.JoinedCond
set_option linter.all false
set_option maxRecDepth 1000000
noncomputable section
namespace Go.Proofs.YtbnkhmoelnfjoaaGreat.law6
open Go.ChangeShapes Go.WideShapes Go.ChangeAt
def j_wf:Rows.mappingKeepsUptoRow.wf (OpenSpec.ofChange (Rows.OpenSpec.upto Rows.mappingKeepsSpec).bare)=true:=by kernel_rfl
def auc:Tryz.f6.params.all (Tryz.prog.readableRec ·)=true:=by kernel_rfl
def aCg:(Rows.mappingKeepsUptoRow.stops== [])=true:=by kernel_rfl
def aua:(Tryz.prog.stops== [])=true:=by kernel_rfl
def aCj:(Rows.mappingKeepsUptoRow.knobs== [])=true:=by kernel_rfl
def aub:(Tryz.prog.stopKnobs== [])=true:=by kernel_rfl
def lq {a b:Bool} (ha:a=true) (hb:b=true):(a&&b)=true:=by rw[ha,hb];rfl
def closed:joinedFacts Tryz.pinned.checked.prog 6 Tryz.f6 (Rows.OpenSpec.upto Rows.mappingKeepsSpec).bare Rows.mappingKeepsUptoRow=true:=(show joinedFacts Tryz.prog 6 Tryz.f6 (Rows.OpenSpec.upto Rows.mappingKeepsSpec).bare Rows.mappingKeepsUptoRow=true from lq (lq (lq (lq (lq (lq (lq (lq (lq (lq (lq (lq (lq (lq (lq (lq (lq (lq (lq (lq (lq (lq (lq (lq (lq (lq (lq (lq (lq (lq (lq (j_wf) aFl) aFk) auc) aJU) aCg) aua) aCj) aub) aCh) aJT) aJV) aCi) (by kernel_rfl)) (by kernel_rfl)) (by kernel_rfl)) (by kernel_rfl)) (by kernel_rfl)) (by kernel_rfl)) (by kernel_rfl)) (by kernel_rfl)) (by kernel_rfl)) (by kernel_rfl)) (by kernel_rfl)) (by kernel_rfl)) (by kernel_rfl)) (by kernel_rfl)) (by kernel_rfl)) (by kernel_rfl)) (by kernel_rfl)) (by kernel_rfl)) (by kernel_rfl))
end Go.Proofs.YtbnkhmoelnfjoaaGreat.law6
end
