/- Facts on the program that the row asks for, part 3. No condition. -/
import Derived.Test.YtbnkhmoelnfjoaaGreatRows
import Derived.Test.YtbnkhmoelnfjoaaGreatP9
import Derived.Test.YtbnkhmoelnfjoaaGreatP10
import Derived.KernelRfl
import Derived.JoinedCond
set_option linter.all false
set_option maxRecDepth 1000000
open Bool renaming true->M
noncomputable section
namespace Go.Proofs.YtbnkhmoelnfjoaaGreat.law11
open Go.ChangeShapes Go.WideShapes Go.ChangeAt
def j_wf:Rows.mappingFollowsUptoRow.wf (OpenSpec.ofChange (Rows.OpenSpec.upto Rows.mappingFollowsSpec).bare)=M:=by kernel_rfl
def aBu:Tryz.f11.params.all (Tryz.prog.readableRec ·)=M:=by kernel_rfl
def aJi:(Rows.mappingFollowsUptoRow.stops== [])=M:=by kernel_rfl
def aBs:(Tryz.prog.stops== [])=M:=by kernel_rfl
def aJl:(Rows.mappingFollowsUptoRow.knobs== [])=M:=by kernel_rfl
def aBt:(Tryz.prog.stopKnobs== [])=M:=by kernel_rfl
def mw {a b:Bool} (ha:a=M) (hb:b=M):(a&&b)=M:=by rw[ha,hb];rfl
def closed:joinedFacts Tryz.pinned.checked.prog 11 Tryz.f11 (Rows.OpenSpec.upto Rows.mappingFollowsSpec).bare Rows.mappingFollowsUptoRow=M:=(show joinedFacts Tryz.prog 11 Tryz.f11 (Rows.OpenSpec.upto Rows.mappingFollowsSpec).bare Rows.mappingFollowsUptoRow=M from mw (mw (mw (mw (mw (mw (mw (mw (mw (mw (mw (mw (mw (mw (mw (mw (mw (mw (mw (mw (mw (mw (mw (mw (mw (mw (mw (mw (mw (mw (mw (j_wf) aLw) aLv) aBu) aRd) aJi) aBs) aJl) aBt) aJj) aRc) aRe) aJk) (by kernel_rfl)) (by kernel_rfl)) (by kernel_rfl)) (by kernel_rfl)) (by kernel_rfl)) (by kernel_rfl)) (by kernel_rfl)) (by kernel_rfl)) (by kernel_rfl)) (by kernel_rfl)) (by kernel_rfl)) (by kernel_rfl)) (by kernel_rfl)) (by kernel_rfl)) (by kernel_rfl)) (by kernel_rfl)) (by kernel_rfl)) (by kernel_rfl)) (by kernel_rfl))
end Go.Proofs.YtbnkhmoelnfjoaaGreat.law11
end
