/- Runs of the machine: what known calls return and lay. No condition but the lists of facts. -/
import Derived.Test.YtjeenahnkcgfcaaGreatDoorMos
import Derived.KernelRfl
set_option maxRecDepth 1000000
set_option linter.all false
namespace Go.Proofs.YtjeenahnkcgfcaaGreatDoor
open Go.Sim

theorem fit_mSch : fitM mSch = true := by kernel_rfl
theorem run_mSch : resM mSch (run (env [98, 165] [(32, 39)] [] [] [] [] []) 20000 (.call (.fn (.func mSch.k) [] []) mSch.as ⟨mkHp mSch.inp .nil, mSch.nx, []⟩)) = true := by kernel_rfl
theorem fit_mPchk : fitM mPchk = true := by kernel_rfl
theorem run_mPchk : resM mPchk (run (env [98, 165] [(32, 39)] [mSch] [] [] [] []) 20000 (.call (.fn (.func mPchk.k) [] []) mPchk.as ⟨mkHp mPchk.inp .nil, mPchk.nx, []⟩)) = true := by kernel_rfl
theorem fit_mNeedP : fitM mNeedP = true := by kernel_rfl
theorem run_mNeedP : resM mNeedP (run (env [98, 165] [(32, 39)] [mSch] [] [] [] []) 20000 (.call (.fn (.func mNeedP.k) [] []) mNeedP.as ⟨mkHp mNeedP.inp .nil, mNeedP.nx, []⟩)) = true := by kernel_rfl
theorem fit_mRowsP8 : fitM mRowsP8 = true := by kernel_rfl
theorem run_mRowsP8 : resM mRowsP8 (run (env [98, 165] [(32, 39)] [mSch, mNeedP] [] [] [] []) 20000 (.call (.fn (.func mRowsP8.k) [] []) mRowsP8.as ⟨mkHp mRowsP8.inp .nil, mRowsP8.nx, []⟩)) = true := by kernel_rfl
theorem fit_mNeedA : fitM mNeedA = true := by kernel_rfl
theorem run_mNeedA : resM mNeedA (run (env [98, 165] [(32, 39)] [mSch] [] [] [] []) 20000 (.call (.fn (.func mNeedA.k) [] []) mNeedA.as ⟨mkHp mNeedA.inp .nil, mNeedA.nx, []⟩)) = true := by kernel_rfl
theorem fit_mRowsA8 : fitM mRowsA8 = true := by kernel_rfl
theorem run_mRowsA8 : resM mRowsA8 (run (env [98, 165] [(32, 39)] [mSch, mNeedA] [] [] [] []) 20000 (.call (.fn (.func mRowsA8.k) [] []) mRowsA8.as ⟨mkHp mRowsA8.inp .nil, mRowsA8.nx, []⟩)) = true := by kernel_rfl
theorem fit_mRun8 : fitM mRun8 = true := by kernel_rfl
theorem run_mRun8 : resM mRun8 (run (env [98, 165] [(32, 39)] [mSch, mPchk, mRowsP8, mRowsA8] [] [] [] []) 20000 (.call (.fn (.func mRun8.k) [] []) mRun8.as ⟨mkHp mRun8.inp .nil, mRun8.nx, []⟩)) = true := by kernel_rfl
theorem fit_mPol : fitM mPol = true := by kernel_rfl
theorem run_mPol : resM mPol (run (env [98, 165] [(32, 39)] [mSch] [] [] [] []) 20000 (.call (.fn (.func mPol.k) [] []) mPol.as ⟨mkHp mPol.inp .nil, mPol.nx, []⟩)) = true := by kernel_rfl
theorem fit_mChk8 : fitM mChk8 = true := by kernel_rfl
theorem run_mChk8 : resM mChk8 (run (env [98, 165] [(32, 39)] [mSch, mPchk, mPol] [] [] [] []) 20000 (.call (.fn (.func mChk8.k) [] []) mChk8.as ⟨mkHp mChk8.inp .nil, mChk8.nx, []⟩)) = true := by kernel_rfl
theorem fit_mView8 : fitM mView8 = true := by kernel_rfl
theorem run_mView8 : resM mView8 (run (env [98, 165] [(32, 39)] [mSch, mPol, mChk8] [] [] [] []) 20000 (.call (.fn (.func mView8.k) [] []) mView8.as ⟨mkHp mView8.inp .nil, mView8.nx, []⟩)) = true := by kernel_rfl

end Go.Proofs.YtjeenahnkcgfcaaGreatDoor
