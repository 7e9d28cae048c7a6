/- Facts on the program that the row asks for, part 1. No condition. -/
import Derived.Test.YtbnkhmoelnfjoaaGreatRows
import Derived.KernelRfl
import Derived.JoinedCond
set_option linter.all false
set_option maxRecDepth 1000000
noncomputable section
namespace Go.Proofs.YtbnkhmoelnfjoaaGreat.law8
open Go.ChangeShapes Go.WideShapes Go.ChangeAt
def aKs:(Rows.mappingSquareUptoRow.inPlace==Tryz.prog.inPlace 8)=true:=by kernel_rfl
def aSu:(Rows.mappingSquareUptoRow.unfollowed==Tryz.prog.unfollowed 8)=true:=by kernel_rfl
def aSw:(Rows.mappingSquareUptoRow.recurses==Tryz.prog.recurses 8)=true:=by kernel_rfl
end Go.Proofs.YtbnkhmoelnfjoaaGreat.law8
end
