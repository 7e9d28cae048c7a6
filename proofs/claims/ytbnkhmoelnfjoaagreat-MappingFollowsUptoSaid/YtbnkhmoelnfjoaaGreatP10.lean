/- Facts on the program that the row asks for, part 2. No condition. -/
import Derived.Test.YtbnkhmoelnfjoaaGreatRows
import Derived.KernelRfl
import Derived.JoinedCond
set_option linter.all false
set_option maxRecDepth 1000000
noncomputable section
namespace Go.Proofs.YtbnkhmoelnfjoaaGreat.law11
open Go.ChangeShapes Go.WideShapes Go.ChangeAt
def aJk:(Rows.mappingFollowsUptoRow.named==Tryz.prog.varsNamed 11)=true:=by kernel_rfl
def aLw:laidOutB Tryz.prog=true:=by kernel_rfl
def aLv:mapsRowed Tryz.prog=true:=by kernel_rfl
def aRd:namedTie Tryz.prog Rows.mappingFollowsUptoRow.named (Rows.OpenSpec.upto Rows.mappingFollowsSpec).bare.vars=true:=by kernel_rfl
end Go.Proofs.YtbnkhmoelnfjoaaGreat.law11
end
