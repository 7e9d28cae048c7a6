/- Facts on the program that the row asks for, part 2. No condition. -/
import Derived.Test.YtbnkhmoelnfjoaaGreatRows
import Derived.KernelRfl
import Derived.JoinedCond
set_option linter.all false
set_option maxRecDepth 1000000
noncomputable section
namespace Go.Proofs.YtbnkhmoelnfjoaaGreat.law8
open Go.ChangeShapes Go.WideShapes Go.ChangeAt
def aKt:(Rows.mappingSquareUptoRow.named==Tryz.prog.varsNamed 8)=true:=by kernel_rfl
def aMI:laidOutB Tryz.prog=true:=by kernel_rfl
def aMH:mapsRowed Tryz.prog=true:=by kernel_rfl
def aSv:namedTie Tryz.prog Rows.mappingSquareUptoRow.named (Rows.OpenSpec.upto Rows.mappingSquareSpec).bare.vars=true:=by kernel_rfl
end Go.Proofs.YtbnkhmoelnfjoaaGreat.law8
end
