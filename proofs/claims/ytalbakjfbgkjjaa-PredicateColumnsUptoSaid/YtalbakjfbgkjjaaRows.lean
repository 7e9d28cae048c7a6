/-
  NARROWER THAN 'FOR EVERY INPUT', by the rows' own cells (each row's printed sentence says how): PredicateChecks: loops · PredicateHolds: loops · PredicateColumns: loops · PredicateBinds: loops · PredicateEquals: loops.
  DERIVED. THE GIVEN ROWS OF THIS SEAT. 7 by the template 'for every input the law returns true; each argument reads behind the call as it read before'; 0 by the template 'total and deterministic' (their statements: YtalbakjfbgkjjaaTotals.lean).
  GIVEN WITH THE SEED: the statements are not yours to turn. If you find one false, say at which input.
  Laid BY PROGRAM, IN A SANDBOX (cutbox-rows.mjs): the forced cells as the released guide's own fill.sh prints them over the translation 5bc97b6db6d26268… (all of the seat's roots in one cut). By AI agents, Wed Nov 11 2026. No macro, syntax, notation, axiom, sorry.
-/
import Derived.Test.YtalbakjfbgkjjaaChecked
import GoSem.Claim
import GoSem.ClaimJoined
import GoSem.ClaimMapViews
import Derived.JoinedTies
import Derived.KernelRfl
namespace Go.Proofs.Ytalbakjfbgkjjaa
/- THE CELL 'sum', in the pinned program and in every row, IS THE sha256 OF THE DUMP (.gsa) THAT YtalbakjfbgkjjaaProg.lean LOADS. Nothing in Lean hashes anything: it is a label: what it is worth is what the hold of that sum in a sandbox is worth. -/
noncomputable def Try.pinned : Pinned := { name := "ytalbakjfbgkjjaa", sum := "5bc97b6db6d262684b6f69b6bb6ddcfc3c7be8c39cb62d65d31d79b989185818", checked := Try.checked }
namespace Rows
def none {H : Type} : Left H := { results := [], args := [] }

/-- 'partsynclaw05.PredicateChecks': WHATEVER THE INPUT: true; the input reads as it did. -/
def predicateChecksSpec : ChangeSpec := { name := "predicateChecks", fn := fun _ => fun
  | [d1, d2, d3] => { results := [.lit (.bool true)], args := [d1, d2, d3] }
  | _ => none }
def predicateChecksRow : OpenClaim := { program := "ytalbakjfbgkjjaa", sum := "5bc97b6db6d262684b6f69b6bb6ddcfc3c7be8c39cb62d65d31d79b989185818", func := "partsync/partsynclaw05.PredicateChecks", spec := "predicateChecks", inPlace := ["internal/bytealg.abigen_runtime_cmpstring"], unfollowed := true, recurses := true, loops := true, apart := false }
def PredicateChecksSaid : Prop := predicateChecksRow.holds Try.pinned (OpenSpec.ofChange predicateChecksSpec)

/-- ITS FALSE NEIGHBOUR: 'it returns false'. Refute it at one input. -/
def predicateChecksWrong : ChangeSpec := { name := "predicateChecks", fn := fun _ => fun
  | [d1, d2, d3] => { results := [.lit (.bool false)], args := [d1, d2, d3] }
  | _ => none }
def PredicateChecksWrongFalsely : Prop := predicateChecksRow.holds Try.pinned (OpenSpec.ofChange predicateChecksWrong)

/-- 'partsynclaw05.PredicateHolds': WHATEVER THE INPUT: true; the input reads as it did. -/
def predicateHoldsSpec : ChangeSpec := { name := "predicateHolds", fn := fun _ => fun
  | [d1, d2, d3, d4] => { results := [.lit (.bool true)], args := [d1, d2, d3, d4] }
  | _ => none }
def predicateHoldsRow : OpenClaim := { program := "ytalbakjfbgkjjaa", sum := "5bc97b6db6d262684b6f69b6bb6ddcfc3c7be8c39cb62d65d31d79b989185818", func := "partsync/partsynclaw05.PredicateHolds", spec := "predicateHolds", inPlace := ["internal/bytealg.abigen_runtime_cmpstring"], unfollowed := true, recurses := true, loops := true, apart := false }
def PredicateHoldsSaid : Prop := predicateHoldsRow.holds Try.pinned (OpenSpec.ofChange predicateHoldsSpec)

/-- ITS FALSE NEIGHBOUR: 'it returns false'. Refute it at one input. -/
def predicateHoldsWrong : ChangeSpec := { name := "predicateHolds", fn := fun _ => fun
  | [d1, d2, d3, d4] => { results := [.lit (.bool false)], args := [d1, d2, d3, d4] }
  | _ => none }
def PredicateHoldsWrongFalsely : Prop := predicateHoldsRow.holds Try.pinned (OpenSpec.ofChange predicateHoldsWrong)

/-- 'partsynclaw05.PredicateNegates': WHATEVER THE INPUT: true; the input reads as it did. -/
def predicateNegatesSpec : ChangeSpec := { name := "predicateNegates", fn := fun _ => fun
  | [d] => { results := [.lit (.bool true)], args := [d] }
  | _ => none }
def predicateNegatesRow : OpenClaim := { program := "ytalbakjfbgkjjaa", sum := "5bc97b6db6d262684b6f69b6bb6ddcfc3c7be8c39cb62d65d31d79b989185818", func := "partsync/partsynclaw05.PredicateNegates", spec := "predicateNegates", inPlace := ["internal/bytealg.abigen_runtime_cmpstring"], unfollowed := true, recurses := true, apart := false }
def PredicateNegatesSaid : Prop := predicateNegatesRow.holds Try.pinned (OpenSpec.ofChange predicateNegatesSpec)

/-- ITS FALSE NEIGHBOUR: 'it returns false'. Refute it at one input. -/
def predicateNegatesWrong : ChangeSpec := { name := "predicateNegates", fn := fun _ => fun
  | [d] => { results := [.lit (.bool false)], args := [d] }
  | _ => none }
def PredicateNegatesWrongFalsely : Prop := predicateNegatesRow.holds Try.pinned (OpenSpec.ofChange predicateNegatesWrong)

/-- 'partsynclaw05.PredicateCompares': WHATEVER THE INPUT: true; the input reads as it did. -/
def predicateComparesSpec : ChangeSpec := { name := "predicateCompares", fn := fun _ => fun
  | [d] => { results := [.lit (.bool true)], args := [d] }
  | _ => none }
def predicateComparesRow : OpenClaim := { program := "ytalbakjfbgkjjaa", sum := "5bc97b6db6d262684b6f69b6bb6ddcfc3c7be8c39cb62d65d31d79b989185818", func := "partsync/partsynclaw05.PredicateCompares", spec := "predicateCompares", inPlace := ["internal/bytealg.abigen_runtime_cmpstring"], unfollowed := true, recurses := true, apart := false }
def PredicateComparesSaid : Prop := predicateComparesRow.holds Try.pinned (OpenSpec.ofChange predicateComparesSpec)

/-- ITS FALSE NEIGHBOUR: 'it returns false'. Refute it at one input. -/
def predicateComparesWrong : ChangeSpec := { name := "predicateCompares", fn := fun _ => fun
  | [d] => { results := [.lit (.bool false)], args := [d] }
  | _ => none }
def PredicateComparesWrongFalsely : Prop := predicateComparesRow.holds Try.pinned (OpenSpec.ofChange predicateComparesWrong)

/-- 'partsynclaw05.PredicateColumns': WHATEVER THE INPUT: true; the input reads as it did. -/
def predicateColumnsSpec : ChangeSpec := { name := "predicateColumns", fn := fun _ => fun
  | [d1, d2] => { results := [.lit (.bool true)], args := [d1, d2] }
  | _ => none }
def predicateColumnsRow : OpenClaim := { program := "ytalbakjfbgkjjaa", sum := "5bc97b6db6d262684b6f69b6bb6ddcfc3c7be8c39cb62d65d31d79b989185818", func := "partsync/partsynclaw05.PredicateColumns", spec := "predicateColumns", inPlace := ["internal/bytealg.abigen_runtime_cmpstring"], unfollowed := true, recurses := true, loops := true, apart := false }
def PredicateColumnsSaid : Prop := predicateColumnsRow.holds Try.pinned (OpenSpec.ofChange predicateColumnsSpec)

/-- ITS FALSE NEIGHBOUR: 'it returns false'. Refute it at one input. -/
def predicateColumnsWrong : ChangeSpec := { name := "predicateColumns", fn := fun _ => fun
  | [d1, d2] => { results := [.lit (.bool false)], args := [d1, d2] }
  | _ => none }
def PredicateColumnsWrongFalsely : Prop := predicateColumnsRow.holds Try.pinned (OpenSpec.ofChange predicateColumnsWrong)

/-- 'partsynclaw05.PredicateBinds': WHATEVER THE INPUT: true; the input reads as it did. -/
def predicateBindsSpec : ChangeSpec := { name := "predicateBinds", fn := fun _ => fun
  | [d1, d2, d3, d4] => { results := [.lit (.bool true)], args := [d1, d2, d3, d4] }
  | _ => none }
def predicateBindsRow : OpenClaim := { program := "ytalbakjfbgkjjaa", sum := "5bc97b6db6d262684b6f69b6bb6ddcfc3c7be8c39cb62d65d31d79b989185818", func := "partsync/partsynclaw05.PredicateBinds", spec := "predicateBinds", inPlace := ["internal/bytealg.abigen_runtime_cmpstring"], unfollowed := true, recurses := true, loops := true, apart := false }
def PredicateBindsSaid : Prop := predicateBindsRow.holds Try.pinned (OpenSpec.ofChange predicateBindsSpec)

/-- ITS FALSE NEIGHBOUR: 'it returns false'. Refute it at one input. -/
def predicateBindsWrong : ChangeSpec := { name := "predicateBinds", fn := fun _ => fun
  | [d1, d2, d3, d4] => { results := [.lit (.bool false)], args := [d1, d2, d3, d4] }
  | _ => none }
def PredicateBindsWrongFalsely : Prop := predicateBindsRow.holds Try.pinned (OpenSpec.ofChange predicateBindsWrong)

/-- 'partsynclaw05.PredicateEquals': WHATEVER THE INPUT: true; the input reads as it did. -/
def predicateEqualsSpec : ChangeSpec := { name := "predicateEquals", fn := fun _ => fun
  | [d1, d2] => { results := [.lit (.bool true)], args := [d1, d2] }
  | _ => none }
def predicateEqualsRow : OpenClaim := { program := "ytalbakjfbgkjjaa", sum := "5bc97b6db6d262684b6f69b6bb6ddcfc3c7be8c39cb62d65d31d79b989185818", func := "partsync/partsynclaw05.PredicateEquals", spec := "predicateEquals", inPlace := ["internal/bytealg.abigen_runtime_cmpstring"], unfollowed := true, recurses := true, loops := true, apart := false }
def PredicateEqualsSaid : Prop := predicateEqualsRow.holds Try.pinned (OpenSpec.ofChange predicateEqualsSpec)

/-- ITS FALSE NEIGHBOUR: 'it returns false'. Refute it at one input. -/
def predicateEqualsWrong : ChangeSpec := { name := "predicateEquals", fn := fun _ => fun
  | [d1, d2] => { results := [.lit (.bool false)], args := [d1, d2] }
  | _ => none }
def PredicateEqualsWrongFalsely : Prop := predicateEqualsRow.holds Try.pinned (OpenSpec.ofChange predicateEqualsWrong)

/- THE SECOND FORM. 'bulk': how many values and letters a reading holds, each counted each time it is reached (what is shared counts as often as it is met; a slice's spare places count too). A statement '..UptoSaid' is the law's where the arguments, and the package variables that the reading takes, are together of bulk at most 1048576: NARROWER than '..Said'. Prove '..Said' where nothing that the law and all that it calls make is longer than what came in: it says more and counts as full. Else prove '..UptoSaid'. A law counts once. -/
mutual
def uptoBulk {H : Type} : DataW H → Nat
  | .lit (.string bytes) => bytes.length + 1
  | .lit _ => 1
  | .nil => 1
  | .ptr d => uptoBulk d + 1
  | .slice elems spare => uptoBulkAll elems + uptoBulkAll spare + 1
  | .agg parts => uptoBulkAll parts + 1
  | .iface _ d => uptoBulk d + 1
  | .map entries => uptoBulkEntries entries + 1
  | .held _ => 1
def uptoBulkAll {H : Type} : List (DataW H) → Nat
  | [] => 0
  | d :: r => uptoBulk d + uptoBulkAll r
def uptoBulkEntries {H : Type} : List (Lit × DataW H) → Nat
  | [] => 0
  | x :: r => uptoBulkEntry x + uptoBulkEntries r
def uptoBulkEntry {H : Type} : Lit × DataW H → Nat
  | (.string bytes, d) => bytes.length + uptoBulk d + 1
  | (_, d) => uptoBulk d + 1
 end
def uptoSmall : (H : Type) → List (DataW H) → Bool := fun _ ds => decide (uptoBulkAll ds ≤ 1048576)
def OpenSpec.upto (s : _root_.Go.ChangeSpec) : _root_.Go.OpenSpec := { _root_.Go.OpenSpec.ofChange s with cond := some uptoSmall }

/-- 'partsynclaw05.PredicateChecks', WHERE WHAT IT READS IS OF BULK AT MOST 1048576: true; the input reads as it did. -/
def predicateChecksUptoRow : OpenClaim := { program := "ytalbakjfbgkjjaa", sum := "5bc97b6db6d262684b6f69b6bb6ddcfc3c7be8c39cb62d65d31d79b989185818", func := "partsync/partsynclaw05.PredicateChecks", spec := "predicateChecks", inPlace := ["internal/bytealg.abigen_runtime_cmpstring"], unfollowed := true, recurses := true, loops := true, apart := false, narrowed := true }
def PredicateChecksUptoSaid : Prop := predicateChecksUptoRow.holds Try.pinned (OpenSpec.upto predicateChecksSpec)

/-- 'partsynclaw05.PredicateHolds', WHERE WHAT IT READS IS OF BULK AT MOST 1048576: true; the input reads as it did. -/
def predicateHoldsUptoRow : OpenClaim := { program := "ytalbakjfbgkjjaa", sum := "5bc97b6db6d262684b6f69b6bb6ddcfc3c7be8c39cb62d65d31d79b989185818", func := "partsync/partsynclaw05.PredicateHolds", spec := "predicateHolds", inPlace := ["internal/bytealg.abigen_runtime_cmpstring"], unfollowed := true, recurses := true, loops := true, apart := false, narrowed := true }
def PredicateHoldsUptoSaid : Prop := predicateHoldsUptoRow.holds Try.pinned (OpenSpec.upto predicateHoldsSpec)

/-- 'partsynclaw05.PredicateNegates', WHERE WHAT IT READS IS OF BULK AT MOST 1048576: true; the input reads as it did. -/
def predicateNegatesUptoRow : OpenClaim := { program := "ytalbakjfbgkjjaa", sum := "5bc97b6db6d262684b6f69b6bb6ddcfc3c7be8c39cb62d65d31d79b989185818", func := "partsync/partsynclaw05.PredicateNegates", spec := "predicateNegates", inPlace := ["internal/bytealg.abigen_runtime_cmpstring"], unfollowed := true, recurses := true, apart := false, narrowed := true }
def PredicateNegatesUptoSaid : Prop := predicateNegatesUptoRow.holds Try.pinned (OpenSpec.upto predicateNegatesSpec)

/-- 'partsynclaw05.PredicateCompares', WHERE WHAT IT READS IS OF BULK AT MOST 1048576: true; the input reads as it did. -/
def predicateComparesUptoRow : OpenClaim := { program := "ytalbakjfbgkjjaa", sum := "5bc97b6db6d262684b6f69b6bb6ddcfc3c7be8c39cb62d65d31d79b989185818", func := "partsync/partsynclaw05.PredicateCompares", spec := "predicateCompares", inPlace := ["internal/bytealg.abigen_runtime_cmpstring"], unfollowed := true, recurses := true, apart := false, narrowed := true }
def PredicateComparesUptoSaid : Prop := predicateComparesUptoRow.holds Try.pinned (OpenSpec.upto predicateComparesSpec)

/-- 'partsynclaw05.PredicateColumns', WHERE WHAT IT READS IS OF BULK AT MOST 1048576: true; the input reads as it did. -/
def predicateColumnsUptoRow : OpenClaim := { program := "ytalbakjfbgkjjaa", sum := "5bc97b6db6d262684b6f69b6bb6ddcfc3c7be8c39cb62d65d31d79b989185818", func := "partsync/partsynclaw05.PredicateColumns", spec := "predicateColumns", inPlace := ["internal/bytealg.abigen_runtime_cmpstring"], unfollowed := true, recurses := true, loops := true, apart := false, narrowed := true }
def PredicateColumnsUptoSaid : Prop := predicateColumnsUptoRow.holds Try.pinned (OpenSpec.upto predicateColumnsSpec)

/-- 'partsynclaw05.PredicateBinds', WHERE WHAT IT READS IS OF BULK AT MOST 1048576: true; the input reads as it did. -/
def predicateBindsUptoRow : OpenClaim := { program := "ytalbakjfbgkjjaa", sum := "5bc97b6db6d262684b6f69b6bb6ddcfc3c7be8c39cb62d65d31d79b989185818", func := "partsync/partsynclaw05.PredicateBinds", spec := "predicateBinds", inPlace := ["internal/bytealg.abigen_runtime_cmpstring"], unfollowed := true, recurses := true, loops := true, apart := false, narrowed := true }
def PredicateBindsUptoSaid : Prop := predicateBindsUptoRow.holds Try.pinned (OpenSpec.upto predicateBindsSpec)

/-- 'partsynclaw05.PredicateEquals', WHERE WHAT IT READS IS OF BULK AT MOST 1048576: true; the input reads as it did. -/
def predicateEqualsUptoRow : OpenClaim := { program := "ytalbakjfbgkjjaa", sum := "5bc97b6db6d262684b6f69b6bb6ddcfc3c7be8c39cb62d65d31d79b989185818", func := "partsync/partsynclaw05.PredicateEquals", spec := "predicateEquals", inPlace := ["internal/bytealg.abigen_runtime_cmpstring"], unfollowed := true, recurses := true, loops := true, apart := false, narrowed := true }
def PredicateEqualsUptoSaid : Prop := predicateEqualsUptoRow.holds Try.pinned (OpenSpec.upto predicateEqualsSpec)

end Rows
end Go.Proofs.Ytalbakjfbgkjjaa
