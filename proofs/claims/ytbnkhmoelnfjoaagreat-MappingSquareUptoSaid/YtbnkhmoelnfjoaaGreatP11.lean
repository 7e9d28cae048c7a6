/- Facts on the program that the row asks for, part 3. No condition. -/
import Derived.Test.YtbnkhmoelnfjoaaGreatRows
import Derived.Test.YtbnkhmoelnfjoaaGreatP9
import Derived.Test.YtbnkhmoelnfjoaaGreatP10
import Derived.KernelRfl
import Derived.JoinedCond
set_option linter.all false
set_option maxRecDepth 1000000
open Bool renaming true->I
noncomputable section
namespace Go.Proofs.YtbnkhmoelnfjoaaGreat.law8
open Go.ChangeShapes Go.WideShapes Go.ChangeAt
def j_wf:Rows.mappingSquareUptoRow.wf (OpenSpec.ofChange (Rows.OpenSpec.upto Rows.mappingSquareSpec).bare)=I:=by kernel_rfl
def aCS:Tryz.f8.params.all (Tryz.prog.readableRec ·)=I:=by kernel_rfl
def aKr:(Rows.mappingSquareUptoRow.stops== [])=I:=by kernel_rfl
def aCQ:(Tryz.prog.stops== [])=I:=by kernel_rfl
def aKu:(Rows.mappingSquareUptoRow.knobs== [])=I:=by kernel_rfl
def aCR:(Tryz.prog.stopKnobs== [])=I:=by kernel_rfl
def na {a b:Bool} (ha:a=I) (hb:b=I):(a&&b)=I:=by rw[ha,hb];rfl
def closed:joinedFacts Tryz.pinned.checked.prog 8 Tryz.f8 (Rows.OpenSpec.upto Rows.mappingSquareSpec).bare Rows.mappingSquareUptoRow=I:=(show joinedFacts Tryz.prog 8 Tryz.f8 (Rows.OpenSpec.upto Rows.mappingSquareSpec).bare Rows.mappingSquareUptoRow=I from na (na (na (na (na (na (na (na (na (na (na (na (na (na (na (na (na (na (na (na (na (na (na (na (na (na (na (na (na (na (na (j_wf) aMI) aMH) aCS) aSv) aKr) aCQ) aKu) aCR) aKs) aSu) aSw) aKt) (by kernel_rfl)) (by kernel_rfl)) (by kernel_rfl)) (by kernel_rfl)) (by kernel_rfl)) (by kernel_rfl)) (by kernel_rfl)) (by kernel_rfl)) (by kernel_rfl)) (by kernel_rfl)) (by kernel_rfl)) (by kernel_rfl)) (by kernel_rfl)) (by kernel_rfl)) (by kernel_rfl)) (by kernel_rfl)) (by kernel_rfl)) (by kernel_rfl)) (by kernel_rfl))
end Go.Proofs.YtbnkhmoelnfjoaaGreat.law8
end
