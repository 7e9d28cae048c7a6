/- Runs of the machine: what known calls return and lay. No condition but the lists of facts. -/
import Derived.Test.YtjeenahnkcgfcaaGreatDoorMos
import Derived.KernelRfl
set_option maxRecDepth 1000000
set_option linter.all false
namespace Go.Proofs.YtjeenahnkcgfcaaGreatDoor
open Go.Sim

theorem fit_mView6 : fitM mView6 = true := by kernel_rfl
theorem run_mView6 : resM mView6 (run (env [98, 165] [(32, 39)] [mSch, mPol, mChk8] [] [] [] []) 20000 (.call (.fn (.func mView6.k) [] []) mView6.as ⟨mkHp mView6.inp .nil, mView6.nx, []⟩)) = true := by kernel_rfl
theorem fit_mRowsPv6 : fitM mRowsPv6 = true := by kernel_rfl
theorem run_mRowsPv6 : resM mRowsPv6 (run (env [98, 165] [(32, 39)] [mSch, mNeedP] [] [] [] []) 20000 (.call (.fn (.func mRowsPv6.k) [] []) mRowsPv6.as ⟨mkHp mRowsPv6.inp .nil, mRowsPv6.nx, []⟩)) = true := by kernel_rfl
theorem fit_mRowsAv6 : fitM mRowsAv6 = true := by kernel_rfl
theorem run_mRowsAv6 : resM mRowsAv6 (run (env [98, 165] [(32, 39)] [mSch, mNeedA] [] [] [] []) 20000 (.call (.fn (.func mRowsAv6.k) [] []) mRowsAv6.as ⟨mkHp mRowsAv6.inp .nil, mRowsAv6.nx, []⟩)) = true := by kernel_rfl
theorem fit_mRunv6 : fitM mRunv6 = true := by kernel_rfl
theorem run_mRunv6 : resM mRunv6 (run (env [98, 165] [(32, 39)] [mSch, mPchk, mRowsPv6, mRowsAv6] [] [] [] []) 20000 (.call (.fn (.func mRunv6.k) [] []) mRunv6.as ⟨mkHp mRunv6.inp .nil, mRunv6.nx, []⟩)) = true := by kernel_rfl
theorem fit_mExec6 : fitM mExec6 = true := by kernel_rfl
theorem run_mExec6 : resM mExec6 (run (env [98, 165] [(32, 39)] [mSch, mPol] [] [] [] []) 20000 (.call (.fn (.func mExec6.k) [] []) mExec6.as ⟨mkHp mExec6.inp .nil, mExec6.nx, []⟩)) = true := by kernel_rfl

end Go.Proofs.YtjeenahnkcgfcaaGreatDoor
