/- Facts on the program that the row asks for, part 1. No condition. -/
import Derived.Test.YtbnkhmoelnfjoaaGreatRows
import Derived.KernelRfl
import Derived.JoinedCond
set_option linter.all false
set_option maxRecDepth 1000000
noncomputable section
namespace Go.Proofs.YtbnkhmoelnfjoaaGreat.law3
open Go.ChangeShapes Go.WideShapes Go.ChangeAt
def aAZ:(Rows.mappingValidUptoRow.inPlace==Tryz.prog.inPlace 3)=true:=by kernel_rfl
def aId:(Rows.mappingValidUptoRow.unfollowed==Tryz.prog.unfollowed 3)=true:=by kernel_rfl
def aIf:(Rows.mappingValidUptoRow.recurses==Tryz.prog.recurses 3)=true:=by kernel_rfl
end Go.Proofs.YtbnkhmoelnfjoaaGreat.law3
end
