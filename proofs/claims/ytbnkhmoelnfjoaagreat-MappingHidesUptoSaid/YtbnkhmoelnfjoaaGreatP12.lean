/- Facts on the program that the row asks for, part 3. No condition. -/
import Derived.Test.YtbnkhmoelnfjoaaGreatRows
import Derived.Test.YtbnkhmoelnfjoaaGreatP10
import Derived.Test.YtbnkhmoelnfjoaaGreatP11
import Derived.KernelRfl
import Derived.JoinedCond
set_option linter.all false
set_option maxRecDepth 1000000
noncomputable section
namespace Go.Proofs.YtbnkhmoelnfjoaaGreat.law7
open Go.ChangeShapes Go.WideShapes Go.ChangeAt
def j_wf:Rows.mappingHidesUptoRow.wf (OpenSpec.ofChange (Rows.OpenSpec.upto Rows.mappingHidesSpec).bare)=true:=by kernel_rfl
def atD:Tryz.f7.params.all (Tryz.prog.readableRec ·)=true:=by kernel_rfl
def aBJ:(Rows.mappingHidesUptoRow.stops== [])=true:=by kernel_rfl
def atB:(Tryz.prog.stops== [])=true:=by kernel_rfl
def aBM:(Rows.mappingHidesUptoRow.knobs== [])=true:=by kernel_rfl
def atC:(Tryz.prog.stopKnobs== [])=true:=by kernel_rfl
def lq {a b:Bool} (ha:a=true) (hb:b=true):(a&&b)=true:=by rw[ha,hb];rfl
def closed:joinedFacts Tryz.pinned.checked.prog 7 Tryz.f7 (Rows.OpenSpec.upto Rows.mappingHidesSpec).bare Rows.mappingHidesUptoRow=true:=(show joinedFacts Tryz.prog 7 Tryz.f7 (Rows.OpenSpec.upto Rows.mappingHidesSpec).bare Rows.mappingHidesUptoRow=true from lq (lq (lq (lq (lq (lq (lq (lq (lq (lq (lq (lq (lq (lq (lq (lq (lq (lq (lq (lq (lq (lq (lq (lq (lq (lq (lq (lq (lq (lq (lq (j_wf) aEQ) aEP) atD) aJz) aBJ) atB) aBM) atC) aBK) aJy) aJA) aBL) (by kernel_rfl)) (by kernel_rfl)) (by kernel_rfl)) (by kernel_rfl)) (by kernel_rfl)) (by kernel_rfl)) (by kernel_rfl)) (by kernel_rfl)) (by kernel_rfl)) (by kernel_rfl)) (by kernel_rfl)) (by kernel_rfl)) (by kernel_rfl)) (by kernel_rfl)) (by kernel_rfl)) (by kernel_rfl)) (by kernel_rfl)) (by kernel_rfl)) (by kernel_rfl))
end Go.Proofs.YtbnkhmoelnfjoaaGreat.law7
end
