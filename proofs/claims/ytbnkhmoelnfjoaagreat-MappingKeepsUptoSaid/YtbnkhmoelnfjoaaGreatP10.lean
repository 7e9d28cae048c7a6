/- Facts on the program that the row asks for, part 1. No condition. -/
import Derived.Test.YtbnkhmoelnfjoaaGreatRows
import Derived.KernelRfl
import Derived.JoinedCond
set_option linter.all false
set_option maxRecDepth 1000000
noncomputable section
namespace Go.Proofs.YtbnkhmoelnfjoaaGreat.law6
open Go.ChangeShapes Go.WideShapes Go.ChangeAt
def aCh:(Rows.mappingKeepsUptoRow.inPlace==Tryz.prog.inPlace 6)=true:=by kernel_rfl
def aJT:(Rows.mappingKeepsUptoRow.unfollowed==Tryz.prog.unfollowed 6)=true:=by kernel_rfl
def aJV:(Rows.mappingKeepsUptoRow.recurses==Tryz.prog.recurses 6)=true:=by kernel_rfl
end Go.Proofs.YtbnkhmoelnfjoaaGreat.law6
end
