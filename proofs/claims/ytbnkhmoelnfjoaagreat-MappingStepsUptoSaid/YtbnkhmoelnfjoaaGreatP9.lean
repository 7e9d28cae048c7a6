/- Facts on the program that the row asks for, part 1. No condition. -/
import Derived.Test.YtbnkhmoelnfjoaaGreatRows
import Derived.KernelRfl
import Derived.JoinedCond
set_option linter.all false
set_option maxRecDepth 1000000
noncomputable section
namespace Go.Proofs.YtbnkhmoelnfjoaaGreat.law10
open Go.ChangeShapes Go.WideShapes Go.ChangeAt
def aHN:(Rows.mappingStepsUptoRow.inPlace==Tryz.prog.inPlace 10)=true:=by kernel_rfl
def aPx:(Rows.mappingStepsUptoRow.unfollowed==Tryz.prog.unfollowed 10)=true:=by kernel_rfl
def aPz:(Rows.mappingStepsUptoRow.recurses==Tryz.prog.recurses 10)=true:=by kernel_rfl
end Go.Proofs.YtbnkhmoelnfjoaaGreat.law10
end
