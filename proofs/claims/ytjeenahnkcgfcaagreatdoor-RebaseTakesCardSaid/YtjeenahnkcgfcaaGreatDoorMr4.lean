/- Runs of the machine: what known calls return and lay. No condition but the lists of facts. -/
import Derived.Test.YtjeenahnkcgfcaaGreatDoorMos
import Derived.KernelRfl
set_option maxRecDepth 1000000
set_option linter.all false
namespace Go.Proofs.YtjeenahnkcgfcaaGreatDoor
open Go.Sim

theorem fit_tPL : fitM tPL = true := by kernel_rfl
theorem run_tPL : resM tPL (run (env [98, 165] [(32, 39)] [mSch, mNeedP] [] [((.conv .i64 (.var 0)), .lit 5, true), (.lit 5, (.conv .i64 (.var 0)), false)] [((.conv .i64 (.var 0)), .lit 5, false), (.lit 5, (.conv .i64 (.var 0)), false)] []) 20000 (.call (.fn (.func tPL.k) [] []) tPL.as ⟨mkHp tPL.inp .nil, tPL.nx, []⟩)) = true := by kernel_rfl
theorem fit_tPE : fitM tPE = true := by kernel_rfl
theorem run_tPE : resM tPE (run (env [98, 165] [(32, 39)] [mSch, mNeedP] [] [((.conv .i64 (.var 0)), .lit 5, false), (.lit 5, (.conv .i64 (.var 0)), false)] [((.conv .i64 (.var 0)), .lit 5, true), (.lit 5, (.conv .i64 (.var 0)), true)] []) 20000 (.call (.fn (.func tPE.k) [] []) tPE.as ⟨mkHp tPE.inp .nil, tPE.nx, []⟩)) = true := by kernel_rfl
theorem fit_tPG : fitM tPG = true := by kernel_rfl
theorem run_tPG : resM tPG (run (env [98, 165] [(32, 39)] [mSch, mNeedP] [] [((.conv .i64 (.var 0)), .lit 5, false), (.lit 5, (.conv .i64 (.var 0)), true)] [((.conv .i64 (.var 0)), .lit 5, false), (.lit 5, (.conv .i64 (.var 0)), false)] []) 20000 (.call (.fn (.func tPG.k) [] []) tPG.as ⟨mkHp tPG.inp .nil, tPG.nx, []⟩)) = true := by kernel_rfl
theorem fit_tA : fitM tA = true := by kernel_rfl
theorem run_tA : resM tA (run (env [98, 165] [(32, 39)] [mSch, mNeedA] [] [] [] []) 20000 (.call (.fn (.func tA.k) [] []) tA.as ⟨mkHp tA.inp .nil, tA.nx, []⟩)) = true := by kernel_rfl
theorem fit_tRunL : fitM tRunL = true := by kernel_rfl
theorem run_tRunL : resM tRunL (run (env [98, 165] [(32, 39)] [mSch, mPchk, tPL] [] [((.conv .i64 (.var 0)), .lit 5, true), (.lit 5, (.conv .i64 (.var 0)), false)] [((.conv .i64 (.var 0)), .lit 5, false), (.lit 5, (.conv .i64 (.var 0)), false)] []) 20000 (.call (.fn (.func tRunL.k) [] []) tRunL.as ⟨mkHp tRunL.inp .nil, tRunL.nx, []⟩)) = true := by kernel_rfl
theorem fit_tRunE : fitM tRunE = true := by kernel_rfl
theorem run_tRunE : resM tRunE (run (env [98, 165] [(32, 39)] [mSch, mPchk, tPE, tA] [] [((.conv .i64 (.var 0)), .lit 5, false), (.lit 5, (.conv .i64 (.var 0)), false), ((.conv .i64 (.var 0)), .lit (-9223372036854775803), false)] [((.conv .i64 (.var 0)), .lit 5, true), (.lit 5, (.conv .i64 (.var 0)), true)] []) 20000 (.call (.fn (.func tRunE.k) [] []) tRunE.as ⟨mkHp tRunE.inp .nil, tRunE.nx, []⟩)) = true := by kernel_rfl
theorem fit_tRunG : fitM tRunG = true := by kernel_rfl
theorem run_tRunG : resM tRunG (run (env [98, 165] [(32, 39)] [mSch, mPchk, tPG, tA] [] [((.conv .i64 (.var 0)), .lit 5, false), (.lit 5, (.conv .i64 (.var 0)), true), ((.conv .i64 (.var 0)), .lit (-9223372036854775803), false)] [((.conv .i64 (.var 0)), .lit 5, false), (.lit 5, (.conv .i64 (.var 0)), false)] []) 20000 (.call (.fn (.func tRunG.k) [] []) tRunG.as ⟨mkHp tRunG.inp .nil, tRunG.nx, []⟩)) = true := by kernel_rfl
theorem fit_lChk : fitM lChk = true := by kernel_rfl
theorem run_lChk : resM lChk (run (env [98, 165] [(32, 39)] [mSch, mPchk, mPol] [] [] [] []) 20000 (.call (.fn (.func lChk.k) [] []) lChk.as ⟨mkHp lChk.inp .nil, lChk.nx, []⟩)) = true := by kernel_rfl
theorem fit_lView : fitM lView = true := by kernel_rfl
theorem run_lView : resM lView (run (env [98, 165] [(32, 39)] [mSch, mPol, lChk] [] [] [] []) 20000 (.call (.fn (.func lView.k) [] []) lView.as ⟨mkHp lView.inp .nil, lView.nx, []⟩)) = true := by kernel_rfl
theorem fit_repG : fitM repG = true := by kernel_rfl
theorem run_repG : resM repG (run (env [98, 165] [(32, 39)] [mSch, mPchk] [] [((.conv .i64 (.var 0)), .lit (-9223372036854775803), false)] [] []) 20000 (.call (.fn (.func repG.k) [] []) repG.as ⟨mkHp repG.inp .nil, repG.nx, []⟩)) = true := by kernel_rfl

end Go.Proofs.YtjeenahnkcgfcaaGreatDoor
