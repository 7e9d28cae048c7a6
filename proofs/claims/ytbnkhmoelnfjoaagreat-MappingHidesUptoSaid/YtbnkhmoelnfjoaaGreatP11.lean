/- Facts on the program that the row asks for, part 2. No condition. -/
import Derived.Test.YtbnkhmoelnfjoaaGreatRows
import Derived.KernelRfl
import Derived.JoinedCond
set_option linter.all false
set_option maxRecDepth 1000000
noncomputable section
namespace Go.Proofs.YtbnkhmoelnfjoaaGreat.law7
open Go.ChangeShapes Go.WideShapes Go.ChangeAt
def aBL:(Rows.mappingHidesUptoRow.named==Tryz.prog.varsNamed 7)=true:=by kernel_rfl
def aEQ:laidOutB Tryz.prog=true:=by kernel_rfl
def aEP:mapsRowed Tryz.prog=true:=by kernel_rfl
def aJz:namedTie Tryz.prog Rows.mappingHidesUptoRow.named (Rows.OpenSpec.upto Rows.mappingHidesSpec).bare.vars=true:=by kernel_rfl
end Go.Proofs.YtbnkhmoelnfjoaaGreat.law7
end
