/- Facts on the program that the row asks for, part 1. No condition. -/
import Derived.Test.YtbnkhmoelnfjoaaGreatRows
import Derived.KernelRfl
import Derived.JoinedCond
set_option linter.all false
set_option maxRecDepth 1000000
noncomputable section
namespace Go.Proofs.YtbnkhmoelnfjoaaGreat.law11
open Go.ChangeShapes Go.WideShapes Go.ChangeAt
def aJj:(Rows.mappingFollowsUptoRow.inPlace==Tryz.prog.inPlace 11)=true:=by kernel_rfl
def aRc:(Rows.mappingFollowsUptoRow.unfollowed==Tryz.prog.unfollowed 11)=true:=by kernel_rfl
def aRe:(Rows.mappingFollowsUptoRow.recurses==Tryz.prog.recurses 11)=true:=by kernel_rfl
end Go.Proofs.YtbnkhmoelnfjoaaGreat.law11
end
