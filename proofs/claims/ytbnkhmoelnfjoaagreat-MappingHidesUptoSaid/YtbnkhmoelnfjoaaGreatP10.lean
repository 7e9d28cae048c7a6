/- Facts on the program that the row asks for, part 1. No condition. -/
import Derived.Test.YtbnkhmoelnfjoaaGreatRows
import Derived.KernelRfl
import Derived.JoinedCond
set_option linter.all false
set_option maxRecDepth 1000000
noncomputable section
namespace Go.Proofs.YtbnkhmoelnfjoaaGreat.law7
open Go.ChangeShapes Go.WideShapes Go.ChangeAt
def aBK:(Rows.mappingHidesUptoRow.inPlace==Tryz.prog.inPlace 7)=true:=by kernel_rfl
def aJy:(Rows.mappingHidesUptoRow.unfollowed==Tryz.prog.unfollowed 7)=true:=by kernel_rfl
def aJA:(Rows.mappingHidesUptoRow.recurses==Tryz.prog.recurses 7)=true:=by kernel_rfl
end Go.Proofs.YtbnkhmoelnfjoaaGreat.law7
end
