/- Facts on the program that the row asks for, part 2. No condition. -/
import Derived.Test.YtbnkhmoelnfjoaaGreatRows
import Derived.KernelRfl
import Derived.JoinedCond
set_option linter.all false
set_option maxRecDepth 1000000
noncomputable section
namespace Go.Proofs.YtbnkhmoelnfjoaaGreat.law3
open Go.ChangeShapes Go.WideShapes Go.ChangeAt
def aBa:(Rows.mappingValidUptoRow.named==Tryz.prog.varsNamed 3)=true:=by kernel_rfl
def aDN:laidOutB Tryz.prog=true:=by kernel_rfl
def aDM:mapsRowed Tryz.prog=true:=by kernel_rfl
def aIe:namedTie Tryz.prog Rows.mappingValidUptoRow.named (Rows.OpenSpec.upto Rows.mappingValidSpec).bare.vars=true:=by kernel_rfl
end Go.Proofs.YtbnkhmoelnfjoaaGreat.law3
end
