/- Runs of the machine: what known calls return and lay. No condition but the lists of facts. -/
import Derived.Test.YtjeenahnkcgfcaaGreatDoorMos
import Derived.KernelRfl
set_option maxRecDepth 1000000
set_option linter.all false
namespace Go.Proofs.YtjeenahnkcgfcaaGreatDoor
open Go.Sim

theorem fit_repL : fitM repL = true := by kernel_rfl
theorem run_repL : resM repL (run (env [98, 165] [(32, 39)] [mSch, mPchk] [] [] [] []) 20000 (.call (.fn (.func repL.k) [] []) repL.as ⟨mkHp repL.inp .nil, repL.nx, []⟩)) = true := by kernel_rfl
theorem fit_vPL : fitM vPL = true := by kernel_rfl
theorem run_vPL : resM vPL (run (env [98, 165] [(32, 39)] [mSch, mNeedP] [] [((.conv .i64 (.var 1)), .lit 5, true), (.lit 5, (.conv .i64 (.var 1)), false)] [((.conv .i64 (.var 1)), .lit 5, false), (.lit 5, (.conv .i64 (.var 1)), false)] []) 20000 (.call (.fn (.func vPL.k) [] []) vPL.as ⟨mkHp vPL.inp .nil, vPL.nx, []⟩)) = true := by kernel_rfl
theorem fit_vPE : fitM vPE = true := by kernel_rfl
theorem run_vPE : resM vPE (run (env [98, 165] [(32, 39)] [mSch, mNeedP] [] [((.conv .i64 (.var 1)), .lit 5, false), (.lit 5, (.conv .i64 (.var 1)), false)] [((.conv .i64 (.var 1)), .lit 5, true), (.lit 5, (.conv .i64 (.var 1)), true)] []) 20000 (.call (.fn (.func vPE.k) [] []) vPE.as ⟨mkHp vPE.inp .nil, vPE.nx, []⟩)) = true := by kernel_rfl
theorem fit_vPG : fitM vPG = true := by kernel_rfl
theorem run_vPG : resM vPG (run (env [98, 165] [(32, 39)] [mSch, mNeedP] [] [((.conv .i64 (.var 1)), .lit 5, false), (.lit 5, (.conv .i64 (.var 1)), true)] [((.conv .i64 (.var 1)), .lit 5, false), (.lit 5, (.conv .i64 (.var 1)), false)] []) 20000 (.call (.fn (.func vPG.k) [] []) vPG.as ⟨mkHp vPG.inp .nil, vPG.nx, []⟩)) = true := by kernel_rfl
theorem fit_vA : fitM vA = true := by kernel_rfl
theorem run_vA : resM vA (run (env [98, 165] [(32, 39)] [mSch, mNeedA] [] [] [] []) 20000 (.call (.fn (.func vA.k) [] []) vA.as ⟨mkHp vA.inp .nil, vA.nx, []⟩)) = true := by kernel_rfl

end Go.Proofs.YtjeenahnkcgfcaaGreatDoor
