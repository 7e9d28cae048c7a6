/- Facts on the program that the row asks for, part 2. No condition. -/
import Derived.Test.YtbnkhmoelnfjoaaGreatRows
import Derived.KernelRfl
import Derived.JoinedCond
set_option linter.all false
set_option maxRecDepth 1000000
noncomputable section
namespace Go.Proofs.YtbnkhmoelnfjoaaGreat.law10
open Go.ChangeShapes Go.WideShapes Go.ChangeAt
def aHO:(Rows.mappingStepsUptoRow.named==Tryz.prog.varsNamed 10)=true:=by kernel_rfl
def aJY:laidOutB Tryz.prog=true:=by kernel_rfl
def aJX:mapsRowed Tryz.prog=true:=by kernel_rfl
def aPy:namedTie Tryz.prog Rows.mappingStepsUptoRow.named (Rows.OpenSpec.upto Rows.mappingStepsSpec).bare.vars=true:=by kernel_rfl
end Go.Proofs.YtbnkhmoelnfjoaaGreat.law10
end
