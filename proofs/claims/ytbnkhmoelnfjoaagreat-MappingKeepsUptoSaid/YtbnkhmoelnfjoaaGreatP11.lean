/- Facts on the program that the row asks for, part 2. No condition. -/
import Derived.Test.YtbnkhmoelnfjoaaGreatRows
import Derived.KernelRfl
import Derived.JoinedCond
set_option linter.all false
set_option maxRecDepth 1000000
noncomputable section
namespace Go.Proofs.YtbnkhmoelnfjoaaGreat.law6
open Go.ChangeShapes Go.WideShapes Go.ChangeAt
def aCi:(Rows.mappingKeepsUptoRow.named==Tryz.prog.varsNamed 6)=true:=by kernel_rfl
def aFl:laidOutB Tryz.prog=true:=by kernel_rfl
def aFk:mapsRowed Tryz.prog=true:=by kernel_rfl
def aJU:namedTie Tryz.prog Rows.mappingKeepsUptoRow.named (Rows.OpenSpec.upto Rows.mappingKeepsSpec).bare.vars=true:=by kernel_rfl
end Go.Proofs.YtbnkhmoelnfjoaaGreat.law6
end
