/- Runs of the machine: what known calls return and lay. No condition but the lists of facts. -/
import Derived.Test.YtjeenahnkcgfcaaGreatDoorMos
import Derived.KernelRfl
set_option maxRecDepth 1000000
set_option linter.all false
namespace Go.Proofs.YtjeenahnkcgfcaaGreatDoor
open Go.Sim

theorem fit_mDec2 : fitM mDec2 = true := by kernel_rfl
theorem run_mDec2 : resM mDec2 (run (env [98, 165] [(32, 39)] [mSch, mView6, mRep8, mRowsPv6, mRowsAv6, mRunv6, mExec6, mPchk] [] [] [] []) 20000 (.call (.fn (.func mDec2.k) [] []) mDec2.as ⟨mkHp mDec2.inp .nil, mDec2.nx, []⟩)) = true := by kernel_rfl
theorem fit_mView3 : fitM mView3 = true := by kernel_rfl
theorem run_mView3 : resM mView3 (run (env [98, 165] [(32, 39)] [mSch, mPol, mChk8] [] [] [] []) 20000 (.call (.fn (.func mView3.k) [] []) mView3.as ⟨mkHp mView3.inp .nil, mView3.nx, []⟩)) = true := by kernel_rfl
theorem fit_mRowsPv3 : fitM mRowsPv3 = true := by kernel_rfl
theorem run_mRowsPv3 : resM mRowsPv3 (run (env [98, 165] [(32, 39)] [mSch, mNeedP] [] [] [] []) 20000 (.call (.fn (.func mRowsPv3.k) [] []) mRowsPv3.as ⟨mkHp mRowsPv3.inp .nil, mRowsPv3.nx, []⟩)) = true := by kernel_rfl
theorem fit_mRunv3 : fitM mRunv3 = true := by kernel_rfl
theorem run_mRunv3 : resM mRunv3 (run (env [98, 165] [(32, 39)] [mSch, mPchk, mRowsPv3] [] [] [] []) 20000 (.call (.fn (.func mRunv3.k) [] []) mRunv3.as ⟨mkHp mRunv3.inp .nil, mRunv3.nx, []⟩)) = true := by kernel_rfl
theorem fit_mDec3 : fitM mDec3 = true := by kernel_rfl
theorem run_mDec3 : resM mDec3 (run (env [98, 165] [(32, 39)] [mSch, mView3, mRep8, mRowsPv3, mRunv3, mPchk] [] [] [] []) 20000 (.call (.fn (.func mDec3.k) [] []) mDec3.as ⟨mkHp mDec3.inp .nil, mDec3.nx, []⟩)) = true := by kernel_rfl

end Go.Proofs.YtjeenahnkcgfcaaGreatDoor
