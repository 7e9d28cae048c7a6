/- Runs of the machine: what known calls return and lay. No condition but the lists of facts. -/
import Derived.Test.YtjeenahnkcgfcaaGreatDoorMos
import Derived.KernelRfl
set_option maxRecDepth 1000000
set_option linter.all false
namespace Go.Proofs.YtjeenahnkcgfcaaGreatDoor
open Go.Sim

theorem fit_vRunL : fitM vRunL = true := by kernel_rfl
theorem run_vRunL : resM vRunL (run (env [98, 165] [(32, 39)] [mSch, mPchk, vPL] [] [((.conv .i64 (.var 1)), .lit 5, true), (.lit 5, (.conv .i64 (.var 1)), false)] [((.conv .i64 (.var 1)), .lit 5, false), (.lit 5, (.conv .i64 (.var 1)), false)] []) 20000 (.call (.fn (.func vRunL.k) [] []) vRunL.as ⟨mkHp vRunL.inp .nil, vRunL.nx, []⟩)) = true := by kernel_rfl
theorem fit_vRunE : fitM vRunE = true := by kernel_rfl
theorem run_vRunE : resM vRunE (run (env [98, 165] [(32, 39)] [mSch, mPchk, vPE, vA] [] [((.conv .i64 (.var 1)), .lit 5, false), (.lit 5, (.conv .i64 (.var 1)), false), ((.conv .i64 (.var 1)), .lit (-9223372036854775803), false)] [((.conv .i64 (.var 1)), .lit 5, true), (.lit 5, (.conv .i64 (.var 1)), true)] []) 20000 (.call (.fn (.func vRunE.k) [] []) vRunE.as ⟨mkHp vRunE.inp .nil, vRunE.nx, []⟩)) = true := by kernel_rfl
theorem fit_vRunG : fitM vRunG = true := by kernel_rfl
theorem run_vRunG : resM vRunG (run (env [98, 165] [(32, 39)] [mSch, mPchk, vPG, vA] [] [((.conv .i64 (.var 1)), .lit 5, false), (.lit 5, (.conv .i64 (.var 1)), true), ((.conv .i64 (.var 1)), .lit (-9223372036854775803), false)] [((.conv .i64 (.var 1)), .lit 5, false), (.lit 5, (.conv .i64 (.var 1)), false)] []) 20000 (.call (.fn (.func vRunG.k) [] []) vRunG.as ⟨mkHp vRunG.inp .nil, vRunG.nx, []⟩)) = true := by kernel_rfl
theorem fit_vExR : fitM vExR = true := by kernel_rfl
theorem run_vExR : resM vExR (run (env [98, 165] [(32, 39)] [mSch, mPol] [] [((.conv .i64 (.var 1)), (.sub .i64 (.conv .i64 (.var 1)) (.lit 5)), false), ((.sub .i64 (.conv .i64 (.var 1)) (.lit 5)), (.conv .i64 (.var 1)), true)] [((.conv .i64 (.var 1)), (.sub .i64 (.conv .i64 (.var 1)) (.lit 5)), false), ((.sub .i64 (.conv .i64 (.var 1)) (.lit 5)), (.conv .i64 (.var 1)), false)] []) 20000 (.call (.fn (.func vExR.k) [] []) vExR.as ⟨mkHp vExR.inp .nil, vExR.nx, []⟩)) = true := by kernel_rfl
theorem fit_vExK : fitM vExK = true := by kernel_rfl
theorem run_vExK : resM vExK (run (env [98, 165] [(32, 39)] [mSch, mPol] [] [((.conv .i64 (.var 1)), (.sub .i64 (.conv .i64 (.var 0)) (.lit 5)), false), ((.sub .i64 (.conv .i64 (.var 0)) (.lit 5)), (.conv .i64 (.var 1)), true)] [((.conv .i64 (.var 1)), (.sub .i64 (.conv .i64 (.var 0)) (.lit 5)), false), ((.sub .i64 (.conv .i64 (.var 0)) (.lit 5)), (.conv .i64 (.var 1)), false)] []) 20000 (.call (.fn (.func vExK.k) [] []) vExK.as ⟨mkHp vExK.inp .nil, vExK.nx, []⟩)) = true := by kernel_rfl

end Go.Proofs.YtjeenahnkcgfcaaGreatDoor
