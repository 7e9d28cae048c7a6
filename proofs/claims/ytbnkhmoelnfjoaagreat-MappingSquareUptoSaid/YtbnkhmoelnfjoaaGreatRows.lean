/-
  NARROWER THAN 'FOR EVERY INPUT', by the rows' own cells (each row's printed sentence says how): MappingDowns: loops · MappingTraces: loops.
  DERIVED. THE GIVEN ROWS OF THIS SEAT. 9 by the template 'for every input the law returns true; each argument reads behind the call as it read before'; 0 by the template 'total and deterministic' (their statements: YtbnkhmoelnfjoaaGreatTotals.lean).
  GIVEN WITH THE SEED: the statements are not yours to turn. If you find one false, say at which input.
  Laid BY PROGRAM, IN A SANDBOX (cutbox-rows.mjs): the forced cells as the released guide's own fill.sh prints them over the translation fa7484ad8135541f… (all of the seat's roots in one cut). By AI agents, Wed Nov 11 2026. No macro, syntax, notation, axiom, sorry.
-/
import Derived.Test.YtbnkhmoelnfjoaaGreatChecked
import GoSem.Claim
import GoSem.ClaimJoined
import GoSem.ClaimMapViews
import Derived.JoinedTies
import Derived.KernelRfl
namespace Go.Proofs.YtbnkhmoelnfjoaaGreat
/- THE CELL 'sum', in the pinned program and in every row, IS THE sha256 OF THE DUMP (.gsa) THAT YtbnkhmoelnfjoaaGreatProg.lean LOADS. Nothing in Lean hashes anything: it is a label: what it is worth is what the hold of that sum in a sandbox is worth. -/
noncomputable def Tryz.pinned : Pinned := { name := "ytbnkhmoelnfjoaagreat", sum := "fa7484ad8135541f0fbe35416d72c8b279a70e09e78ced93ba3323661ab3264b", checked := Tryz.checked }
namespace Rows
def none {H : Type} : Left H := { results := [], args := [] }

/-- 'partsynclaw28.MappingValid': WHATEVER THE INPUT: true; the input reads as it did. -/
def mappingValidSpec : ChangeSpec := { name := "mappingValid", fn := fun _ => fun
  | [d] => { results := [.lit (.bool true)], args := [d] }
  | _ => none }
def mappingValidRow : OpenClaim := { program := "ytbnkhmoelnfjoaagreat", sum := "fa7484ad8135541f0fbe35416d72c8b279a70e09e78ced93ba3323661ab3264b", func := "partsync/partsynclaw28.MappingValid", spec := "mappingValid", inPlace := ["slices.overlaps[partsync/api.Column]", "internal/bytealg.abigen_runtime_cmpstring"], unfollowed := true, recurses := true, apart := false }
def MappingValidSaid : Prop := mappingValidRow.holds Tryz.pinned (OpenSpec.ofChange mappingValidSpec)

/-- ITS FALSE NEIGHBOUR: 'it returns false'. Refute it at one input. -/
def mappingValidWrong : ChangeSpec := { name := "mappingValid", fn := fun _ => fun
  | [d] => { results := [.lit (.bool false)], args := [d] }
  | _ => none }
def MappingValidWrongFalsely : Prop := mappingValidRow.holds Tryz.pinned (OpenSpec.ofChange mappingValidWrong)

/-- 'partsynclaw28.MappingDowns': WHATEVER THE INPUT: true; the input reads as it did. -/
def mappingDownsSpec : ChangeSpec := { name := "mappingDowns", fn := fun _ => fun
  | [d1, d2, d3, d4, d5] => { results := [.lit (.bool true)], args := [d1, d2, d3, d4, d5] }
  | _ => none }
def mappingDownsRow : OpenClaim := { program := "ytbnkhmoelnfjoaagreat", sum := "fa7484ad8135541f0fbe35416d72c8b279a70e09e78ced93ba3323661ab3264b", func := "partsync/partsynclaw28.MappingDowns", spec := "mappingDowns", inPlace := ["slices.overlaps[partsync/api.Column]", "internal/bytealg.abigen_runtime_cmpstring"], unfollowed := true, recurses := true, loops := true, apart := false }
def MappingDownsSaid : Prop := mappingDownsRow.holds Tryz.pinned (OpenSpec.ofChange mappingDownsSpec)

/-- ITS FALSE NEIGHBOUR: 'it returns false'. Refute it at one input. -/
def mappingDownsWrong : ChangeSpec := { name := "mappingDowns", fn := fun _ => fun
  | [d1, d2, d3, d4, d5] => { results := [.lit (.bool false)], args := [d1, d2, d3, d4, d5] }
  | _ => none }
def MappingDownsWrongFalsely : Prop := mappingDownsRow.holds Tryz.pinned (OpenSpec.ofChange mappingDownsWrong)

/-- 'partsynclaw28.MappingTraces': WHATEVER THE INPUT: true; the input reads as it did. -/
def mappingTracesSpec : ChangeSpec := { name := "mappingTraces", fn := fun _ => fun
  | [d1, d2, d3, d4, d5] => { results := [.lit (.bool true)], args := [d1, d2, d3, d4, d5] }
  | _ => none }
def mappingTracesRow : OpenClaim := { program := "ytbnkhmoelnfjoaagreat", sum := "fa7484ad8135541f0fbe35416d72c8b279a70e09e78ced93ba3323661ab3264b", func := "partsync/partsynclaw28.MappingTraces", spec := "mappingTraces", inPlace := ["slices.overlaps[partsync/api.Column]", "internal/bytealg.abigen_runtime_cmpstring"], unfollowed := true, recurses := true, loops := true, apart := false }
def MappingTracesSaid : Prop := mappingTracesRow.holds Tryz.pinned (OpenSpec.ofChange mappingTracesSpec)

/-- ITS FALSE NEIGHBOUR: 'it returns false'. Refute it at one input. -/
def mappingTracesWrong : ChangeSpec := { name := "mappingTraces", fn := fun _ => fun
  | [d1, d2, d3, d4, d5] => { results := [.lit (.bool false)], args := [d1, d2, d3, d4, d5] }
  | _ => none }
def MappingTracesWrongFalsely : Prop := mappingTracesRow.holds Tryz.pinned (OpenSpec.ofChange mappingTracesWrong)

/-- 'partsynclaw28.MappingKeeps': WHATEVER THE INPUT: true; the input reads as it did. -/
def mappingKeepsSpec : ChangeSpec := { name := "mappingKeeps", fn := fun _ => fun
  | [d] => { results := [.lit (.bool true)], args := [d] }
  | _ => none }
def mappingKeepsRow : OpenClaim := { program := "ytbnkhmoelnfjoaagreat", sum := "fa7484ad8135541f0fbe35416d72c8b279a70e09e78ced93ba3323661ab3264b", func := "partsync/partsynclaw28.MappingKeeps", spec := "mappingKeeps", inPlace := ["slices.overlaps[partsync/api.Column]", "internal/bytealg.abigen_runtime_cmpstring"], unfollowed := true, recurses := true, apart := false }
def MappingKeepsSaid : Prop := mappingKeepsRow.holds Tryz.pinned (OpenSpec.ofChange mappingKeepsSpec)

/-- ITS FALSE NEIGHBOUR: 'it returns false'. Refute it at one input. -/
def mappingKeepsWrong : ChangeSpec := { name := "mappingKeeps", fn := fun _ => fun
  | [d] => { results := [.lit (.bool false)], args := [d] }
  | _ => none }
def MappingKeepsWrongFalsely : Prop := mappingKeepsRow.holds Tryz.pinned (OpenSpec.ofChange mappingKeepsWrong)

/-- 'partsynclaw28.MappingHides': WHATEVER THE INPUT: true; the input reads as it did. -/
def mappingHidesSpec : ChangeSpec := { name := "mappingHides", fn := fun _ => fun
  | [d] => { results := [.lit (.bool true)], args := [d] }
  | _ => none }
def mappingHidesRow : OpenClaim := { program := "ytbnkhmoelnfjoaagreat", sum := "fa7484ad8135541f0fbe35416d72c8b279a70e09e78ced93ba3323661ab3264b", func := "partsync/partsynclaw28.MappingHides", spec := "mappingHides", inPlace := ["slices.overlaps[partsync/api.Column]", "internal/bytealg.abigen_runtime_cmpstring"], unfollowed := true, recurses := true, apart := false }
def MappingHidesSaid : Prop := mappingHidesRow.holds Tryz.pinned (OpenSpec.ofChange mappingHidesSpec)

/-- ITS FALSE NEIGHBOUR: 'it returns false'. Refute it at one input. -/
def mappingHidesWrong : ChangeSpec := { name := "mappingHides", fn := fun _ => fun
  | [d] => { results := [.lit (.bool false)], args := [d] }
  | _ => none }
def MappingHidesWrongFalsely : Prop := mappingHidesRow.holds Tryz.pinned (OpenSpec.ofChange mappingHidesWrong)

/-- 'partsynclaw28.MappingSquare': WHATEVER THE INPUT: true; the input reads as it did. -/
def mappingSquareSpec : ChangeSpec := { name := "mappingSquare", fn := fun _ => fun
  | [d] => { results := [.lit (.bool true)], args := [d] }
  | _ => none }
def mappingSquareRow : OpenClaim := { program := "ytbnkhmoelnfjoaagreat", sum := "fa7484ad8135541f0fbe35416d72c8b279a70e09e78ced93ba3323661ab3264b", func := "partsync/partsynclaw28.MappingSquare", spec := "mappingSquare", inPlace := ["slices.overlaps[partsync/api.Column]", "internal/bytealg.abigen_runtime_cmpstring"], unfollowed := true, recurses := true, apart := false }
def MappingSquareSaid : Prop := mappingSquareRow.holds Tryz.pinned (OpenSpec.ofChange mappingSquareSpec)

/-- ITS FALSE NEIGHBOUR: 'it returns false'. Refute it at one input. -/
def mappingSquareWrong : ChangeSpec := { name := "mappingSquare", fn := fun _ => fun
  | [d] => { results := [.lit (.bool false)], args := [d] }
  | _ => none }
def MappingSquareWrongFalsely : Prop := mappingSquareRow.holds Tryz.pinned (OpenSpec.ofChange mappingSquareWrong)

/-- 'partsynclaw28.MappingChanges': WHATEVER THE INPUT: true; the input reads as it did. -/
def mappingChangesSpec : ChangeSpec := { name := "mappingChanges", fn := fun _ => fun
  | [d1, d2, d3, d4] => { results := [.lit (.bool true)], args := [d1, d2, d3, d4] }
  | _ => none }
def mappingChangesRow : OpenClaim := { program := "ytbnkhmoelnfjoaagreat", sum := "fa7484ad8135541f0fbe35416d72c8b279a70e09e78ced93ba3323661ab3264b", func := "partsync/partsynclaw28.MappingChanges", spec := "mappingChanges", inPlace := ["slices.overlaps[partsync/api.Column]", "internal/bytealg.abigen_runtime_cmpstring"], unfollowed := true, recurses := true, apart := false }
def MappingChangesSaid : Prop := mappingChangesRow.holds Tryz.pinned (OpenSpec.ofChange mappingChangesSpec)

/-- ITS FALSE NEIGHBOUR: 'it returns false'. Refute it at one input. -/
def mappingChangesWrong : ChangeSpec := { name := "mappingChanges", fn := fun _ => fun
  | [d1, d2, d3, d4] => { results := [.lit (.bool false)], args := [d1, d2, d3, d4] }
  | _ => none }
def MappingChangesWrongFalsely : Prop := mappingChangesRow.holds Tryz.pinned (OpenSpec.ofChange mappingChangesWrong)

/-- 'partsynclaw28.MappingSteps': WHATEVER THE INPUT: true; the input reads as it did. -/
def mappingStepsSpec : ChangeSpec := { name := "mappingSteps", fn := fun _ => fun
  | [d] => { results := [.lit (.bool true)], args := [d] }
  | _ => none }
def mappingStepsRow : OpenClaim := { program := "ytbnkhmoelnfjoaagreat", sum := "fa7484ad8135541f0fbe35416d72c8b279a70e09e78ced93ba3323661ab3264b", func := "partsync/partsynclaw28.MappingSteps", spec := "mappingSteps", inPlace := ["slices.overlaps[partsync/api.Column]", "internal/bytealg.abigen_runtime_cmpstring"], unfollowed := true, recurses := true, apart := false }
def MappingStepsSaid : Prop := mappingStepsRow.holds Tryz.pinned (OpenSpec.ofChange mappingStepsSpec)

/-- ITS FALSE NEIGHBOUR: 'it returns false'. Refute it at one input. -/
def mappingStepsWrong : ChangeSpec := { name := "mappingSteps", fn := fun _ => fun
  | [d] => { results := [.lit (.bool false)], args := [d] }
  | _ => none }
def MappingStepsWrongFalsely : Prop := mappingStepsRow.holds Tryz.pinned (OpenSpec.ofChange mappingStepsWrong)

/-- 'partsynclaw28.MappingFollows': WHATEVER THE INPUT: true; the input reads as it did. -/
def mappingFollowsSpec : ChangeSpec := { name := "mappingFollows", fn := fun _ => fun
  | [d] => { results := [.lit (.bool true)], args := [d] }
  | _ => none }
def mappingFollowsRow : OpenClaim := { program := "ytbnkhmoelnfjoaagreat", sum := "fa7484ad8135541f0fbe35416d72c8b279a70e09e78ced93ba3323661ab3264b", func := "partsync/partsynclaw28.MappingFollows", spec := "mappingFollows", inPlace := ["slices.overlaps[partsync/api.Column]", "internal/bytealg.abigen_runtime_cmpstring"], unfollowed := true, recurses := true, apart := false }
def MappingFollowsSaid : Prop := mappingFollowsRow.holds Tryz.pinned (OpenSpec.ofChange mappingFollowsSpec)

/-- ITS FALSE NEIGHBOUR: 'it returns false'. Refute it at one input. -/
def mappingFollowsWrong : ChangeSpec := { name := "mappingFollows", fn := fun _ => fun
  | [d] => { results := [.lit (.bool false)], args := [d] }
  | _ => none }
def MappingFollowsWrongFalsely : Prop := mappingFollowsRow.holds Tryz.pinned (OpenSpec.ofChange mappingFollowsWrong)

/- THE SECOND FORM. 'bulk': how many values and letters a reading holds, each counted each time it is reached (what is shared counts as often as it is met; a slice's spare places count too). A statement '..UptoSaid' is the law's where the arguments, and the package variables that the reading takes, are together of bulk at most 1048576: NARROWER than '..Said'. Prove '..Said' where nothing that the law and all that it calls make is longer than what came in: it says more and counts as full. Else prove '..UptoSaid'. A law counts once. -/
mutual
def uptoBulk {H : Type} : DataW H → Nat
  | .lit (.string bytes) => bytes.length + 1
  | .lit _ => 1
  | .nil => 1
  | .ptr d => uptoBulk d + 1
  | .slice elems spare => uptoBulkAll elems + uptoBulkAll spare + 1
  | .agg parts => uptoBulkAll parts + 1
  | .iface _ d => uptoBulk d + 1
  | .map entries => uptoBulkEntries entries + 1
  | .held _ => 1
def uptoBulkAll {H : Type} : List (DataW H) → Nat
  | [] => 0
  | d :: r => uptoBulk d + uptoBulkAll r
def uptoBulkEntries {H : Type} : List (Lit × DataW H) → Nat
  | [] => 0
  | x :: r => uptoBulkEntry x + uptoBulkEntries r
def uptoBulkEntry {H : Type} : Lit × DataW H → Nat
  | (.string bytes, d) => bytes.length + uptoBulk d + 1
  | (_, d) => uptoBulk d + 1
 end
def uptoSmall : (H : Type) → List (DataW H) → Bool := fun _ ds => decide (uptoBulkAll ds ≤ 1048576)
def OpenSpec.upto (s : _root_.Go.ChangeSpec) : _root_.Go.OpenSpec := { _root_.Go.OpenSpec.ofChange s with cond := some uptoSmall }

/-- 'partsynclaw28.MappingValid', WHERE WHAT IT READS IS OF BULK AT MOST 1048576: true; the input reads as it did. -/
def mappingValidUptoRow : OpenClaim := { program := "ytbnkhmoelnfjoaagreat", sum := "fa7484ad8135541f0fbe35416d72c8b279a70e09e78ced93ba3323661ab3264b", func := "partsync/partsynclaw28.MappingValid", spec := "mappingValid", inPlace := ["slices.overlaps[partsync/api.Column]", "internal/bytealg.abigen_runtime_cmpstring"], unfollowed := true, recurses := true, apart := false, narrowed := true }
def MappingValidUptoSaid : Prop := mappingValidUptoRow.holds Tryz.pinned (OpenSpec.upto mappingValidSpec)

/-- 'partsynclaw28.MappingDowns', WHERE WHAT IT READS IS OF BULK AT MOST 1048576: true; the input reads as it did. -/
def mappingDownsUptoRow : OpenClaim := { program := "ytbnkhmoelnfjoaagreat", sum := "fa7484ad8135541f0fbe35416d72c8b279a70e09e78ced93ba3323661ab3264b", func := "partsync/partsynclaw28.MappingDowns", spec := "mappingDowns", inPlace := ["slices.overlaps[partsync/api.Column]", "internal/bytealg.abigen_runtime_cmpstring"], unfollowed := true, recurses := true, loops := true, apart := false, narrowed := true }
def MappingDownsUptoSaid : Prop := mappingDownsUptoRow.holds Tryz.pinned (OpenSpec.upto mappingDownsSpec)

/-- 'partsynclaw28.MappingTraces', WHERE WHAT IT READS IS OF BULK AT MOST 1048576: true; the input reads as it did. -/
def mappingTracesUptoRow : OpenClaim := { program := "ytbnkhmoelnfjoaagreat", sum := "fa7484ad8135541f0fbe35416d72c8b279a70e09e78ced93ba3323661ab3264b", func := "partsync/partsynclaw28.MappingTraces", spec := "mappingTraces", inPlace := ["slices.overlaps[partsync/api.Column]", "internal/bytealg.abigen_runtime_cmpstring"], unfollowed := true, recurses := true, loops := true, apart := false, narrowed := true }
def MappingTracesUptoSaid : Prop := mappingTracesUptoRow.holds Tryz.pinned (OpenSpec.upto mappingTracesSpec)

/-- 'partsynclaw28.MappingKeeps', WHERE WHAT IT READS IS OF BULK AT MOST 1048576: true; the input reads as it did. -/
def mappingKeepsUptoRow : OpenClaim := { program := "ytbnkhmoelnfjoaagreat", sum := "fa7484ad8135541f0fbe35416d72c8b279a70e09e78ced93ba3323661ab3264b", func := "partsync/partsynclaw28.MappingKeeps", spec := "mappingKeeps", inPlace := ["slices.overlaps[partsync/api.Column]", "internal/bytealg.abigen_runtime_cmpstring"], unfollowed := true, recurses := true, apart := false, narrowed := true }
def MappingKeepsUptoSaid : Prop := mappingKeepsUptoRow.holds Tryz.pinned (OpenSpec.upto mappingKeepsSpec)

/-- 'partsynclaw28.MappingHides', WHERE WHAT IT READS IS OF BULK AT MOST 1048576: true; the input reads as it did. -/
def mappingHidesUptoRow : OpenClaim := { program := "ytbnkhmoelnfjoaagreat", sum := "fa7484ad8135541f0fbe35416d72c8b279a70e09e78ced93ba3323661ab3264b", func := "partsync/partsynclaw28.MappingHides", spec := "mappingHides", inPlace := ["slices.overlaps[partsync/api.Column]", "internal/bytealg.abigen_runtime_cmpstring"], unfollowed := true, recurses := true, apart := false, narrowed := true }
def MappingHidesUptoSaid : Prop := mappingHidesUptoRow.holds Tryz.pinned (OpenSpec.upto mappingHidesSpec)

/-- 'partsynclaw28.MappingSquare', WHERE WHAT IT READS IS OF BULK AT MOST 1048576: true; the input reads as it did. -/
def mappingSquareUptoRow : OpenClaim := { program := "ytbnkhmoelnfjoaagreat", sum := "fa7484ad8135541f0fbe35416d72c8b279a70e09e78ced93ba3323661ab3264b", func := "partsync/partsynclaw28.MappingSquare", spec := "mappingSquare", inPlace := ["slices.overlaps[partsync/api.Column]", "internal/bytealg.abigen_runtime_cmpstring"], unfollowed := true, recurses := true, apart := false, narrowed := true }
def MappingSquareUptoSaid : Prop := mappingSquareUptoRow.holds Tryz.pinned (OpenSpec.upto mappingSquareSpec)

/-- 'partsynclaw28.MappingChanges', WHERE WHAT IT READS IS OF BULK AT MOST 1048576: true; the input reads as it did. -/
def mappingChangesUptoRow : OpenClaim := { program := "ytbnkhmoelnfjoaagreat", sum := "fa7484ad8135541f0fbe35416d72c8b279a70e09e78ced93ba3323661ab3264b", func := "partsync/partsynclaw28.MappingChanges", spec := "mappingChanges", inPlace := ["slices.overlaps[partsync/api.Column]", "internal/bytealg.abigen_runtime_cmpstring"], unfollowed := true, recurses := true, apart := false, narrowed := true }
def MappingChangesUptoSaid : Prop := mappingChangesUptoRow.holds Tryz.pinned (OpenSpec.upto mappingChangesSpec)

/-- 'partsynclaw28.MappingSteps', WHERE WHAT IT READS IS OF BULK AT MOST 1048576: true; the input reads as it did. -/
def mappingStepsUptoRow : OpenClaim := { program := "ytbnkhmoelnfjoaagreat", sum := "fa7484ad8135541f0fbe35416d72c8b279a70e09e78ced93ba3323661ab3264b", func := "partsync/partsynclaw28.MappingSteps", spec := "mappingSteps", inPlace := ["slices.overlaps[partsync/api.Column]", "internal/bytealg.abigen_runtime_cmpstring"], unfollowed := true, recurses := true, apart := false, narrowed := true }
def MappingStepsUptoSaid : Prop := mappingStepsUptoRow.holds Tryz.pinned (OpenSpec.upto mappingStepsSpec)

/-- 'partsynclaw28.MappingFollows', WHERE WHAT IT READS IS OF BULK AT MOST 1048576: true; the input reads as it did. -/
def mappingFollowsUptoRow : OpenClaim := { program := "ytbnkhmoelnfjoaagreat", sum := "fa7484ad8135541f0fbe35416d72c8b279a70e09e78ced93ba3323661ab3264b", func := "partsync/partsynclaw28.MappingFollows", spec := "mappingFollows", inPlace := ["slices.overlaps[partsync/api.Column]", "internal/bytealg.abigen_runtime_cmpstring"], unfollowed := true, recurses := true, apart := false, narrowed := true }
def MappingFollowsUptoSaid : Prop := mappingFollowsUptoRow.holds Tryz.pinned (OpenSpec.upto mappingFollowsSpec)

end Rows
end Go.Proofs.YtbnkhmoelnfjoaaGreat
