/- Runs of the machine: what known calls return and lay. No condition but the lists of facts. -/
import Derived.Test.YtjeenahnkcgfcaaGreatDoorMos
import Derived.KernelRfl
set_option maxRecDepth 1000000
set_option linter.all false
namespace Go.Proofs.YtjeenahnkcgfcaaGreatDoor
open Go.Sim

theorem fit_mRep8 : fitM mRep8 = true := by kernel_rfl
theorem run_mRep8 : resM mRep8 (run (env [98, 165] [(32, 39)] [mSch, mPchk] [] [] [] []) 20000 (.call (.fn (.func mRep8.k) [] []) mRep8.as ⟨mkHp mRep8.inp .nil, mRep8.nx, []⟩)) = true := by kernel_rfl
theorem fit_mRowsPv8 : fitM mRowsPv8 = true := by kernel_rfl
theorem run_mRowsPv8 : resM mRowsPv8 (run (env [98, 165] [(32, 39)] [mSch, mNeedP] [] [] [] []) 20000 (.call (.fn (.func mRowsPv8.k) [] []) mRowsPv8.as ⟨mkHp mRowsPv8.inp .nil, mRowsPv8.nx, []⟩)) = true := by kernel_rfl
theorem fit_mRowsAv8 : fitM mRowsAv8 = true := by kernel_rfl
theorem run_mRowsAv8 : resM mRowsAv8 (run (env [98, 165] [(32, 39)] [mSch, mNeedA] [] [] [] []) 20000 (.call (.fn (.func mRowsAv8.k) [] []) mRowsAv8.as ⟨mkHp mRowsAv8.inp .nil, mRowsAv8.nx, []⟩)) = true := by kernel_rfl
theorem fit_mExec8 : fitM mExec8 = true := by kernel_rfl
theorem run_mExec8 : resM mExec8 (run (env [98, 165] [(32, 39)] [mSch, mPol] [] [] [] []) 20000 (.call (.fn (.func mExec8.k) [] []) mExec8.as ⟨mkHp mExec8.inp .nil, mExec8.nx, []⟩)) = true := by kernel_rfl
theorem fit_mDec1 : fitM mDec1 = true := by kernel_rfl
theorem run_mDec1 : resM mDec1 (run (env [98, 165] [(32, 39)] [mSch, mView8, mRep8, mRowsPv8, mRowsAv8, mExec8, mPchk] [] [] [] []) 20000 (.call (.fn (.func mDec1.k) [] []) mDec1.as ⟨mkHp mDec1.inp .nil, mDec1.nx, []⟩)) = true := by kernel_rfl

end Go.Proofs.YtjeenahnkcgfcaaGreatDoor
