/-
  NARROWER THAN 'FOR EVERY INPUT', by the rows' own cells (each row's printed sentence says how): TransactionChecks: loops, laid · TransactionChanges: laid · TransactionEffects: laid · TransactionOverlays: laid · TransactionShows: laid.
  DERIVED. THE GIVEN ROWS OF THIS SEAT. 5 by the template 'for every input the law returns true; each argument reads behind the call as it read before'; 0 by the template 'total and deterministic' (their statements: YtmealahmjddpcaaGreatDoorTotals.lean).
  GIVEN WITH THE SEED: the statements are not yours to turn. If you find one false, say at which input.
  Laid BY PROGRAM, IN A SANDBOX (cutbox-rows.mjs): the forced cells as the released guide's own fill.sh prints them over the translation b1f4faaf9720ca45… (all of the seat's roots in one cut). By AI agents, Wed Nov 11 2026. No macro, syntax, notation, axiom, sorry.
-/
import Derived.Test.YtmealahmjddpcaaGreatDoorChecked
import GoSem.Claim
import GoSem.ClaimJoined
import GoSem.ClaimMapViews
import Derived.JoinedTies
import Derived.KernelRfl
namespace Go.Proofs.YtmealahmjddpcaaGreatDoor
/- THE CELL 'sum', in the pinned program and in every row, IS THE sha256 OF THE DUMP (.gsa) THAT YtmealahmjddpcaaGreatDoorProg.lean LOADS. Nothing in Lean hashes anything: it is a label: what it is worth is what the hold of that sum in a sandbox is worth. -/
noncomputable def Tryz.pinned : Pinned := { name := "ytmealahmjddpcaagreatdoor", sum := "b1f4faaf9720ca45485cfe9fff5402a0e3b76f023597959aae0ec4ffbea98f91", checked := Tryz.checked }
namespace Rows
def none {H : Type} : Left H := { results := [], args := [] }

/- WHAT THE LISTED PACKAGE-LEVEL VARIABLES READ AS WHEN THE CALL BEGINS. Each datum BY PROGRAM (the guide's laid-datum.mjs) off the statement by which the dump's own 'gosem.cut.vars' lays the variable. In a bare row this is a premise. The card (YtmealahmjddpcaaGreatDoorCards.lean) ties it to the program's text. -/
def laid_math_bits_deBruijn32tab {H : Type} : DataW H := .agg [.lit (.int .u8 0), .lit (.int .u8 1), .lit (.int .u8 28), .lit (.int .u8 2), .lit (.int .u8 29), .lit (.int .u8 14), .lit (.int .u8 24), .lit (.int .u8 3), .lit (.int .u8 30), .lit (.int .u8 22), .lit (.int .u8 20), .lit (.int .u8 15), .lit (.int .u8 25), .lit (.int .u8 17), .lit (.int .u8 4), .lit (.int .u8 8), .lit (.int .u8 31), .lit (.int .u8 27), .lit (.int .u8 13), .lit (.int .u8 23), .lit (.int .u8 21), .lit (.int .u8 19), .lit (.int .u8 16), .lit (.int .u8 7), .lit (.int .u8 26), .lit (.int .u8 12), .lit (.int .u8 18), .lit (.int .u8 6), .lit (.int .u8 11), .lit (.int .u8 5), .lit (.int .u8 10), .lit (.int .u8 9)]
def laid_math_bits_deBruijn64tab {H : Type} : DataW H := .agg [.lit (.int .u8 0), .lit (.int .u8 1), .lit (.int .u8 56), .lit (.int .u8 2), .lit (.int .u8 57), .lit (.int .u8 49), .lit (.int .u8 28), .lit (.int .u8 3), .lit (.int .u8 61), .lit (.int .u8 58), .lit (.int .u8 42), .lit (.int .u8 50), .lit (.int .u8 38), .lit (.int .u8 29), .lit (.int .u8 17), .lit (.int .u8 4), .lit (.int .u8 62), .lit (.int .u8 47), .lit (.int .u8 59), .lit (.int .u8 36), .lit (.int .u8 45), .lit (.int .u8 43), .lit (.int .u8 51), .lit (.int .u8 22), .lit (.int .u8 53), .lit (.int .u8 39), .lit (.int .u8 33), .lit (.int .u8 30), .lit (.int .u8 24), .lit (.int .u8 18), .lit (.int .u8 12), .lit (.int .u8 5), .lit (.int .u8 63), .lit (.int .u8 55), .lit (.int .u8 48), .lit (.int .u8 27), .lit (.int .u8 60), .lit (.int .u8 41), .lit (.int .u8 37), .lit (.int .u8 16), .lit (.int .u8 46), .lit (.int .u8 35), .lit (.int .u8 44), .lit (.int .u8 21), .lit (.int .u8 52), .lit (.int .u8 32), .lit (.int .u8 23), .lit (.int .u8 11), .lit (.int .u8 54), .lit (.int .u8 26), .lit (.int .u8 40), .lit (.int .u8 15), .lit (.int .u8 34), .lit (.int .u8 20), .lit (.int .u8 31), .lit (.int .u8 10), .lit (.int .u8 25), .lit (.int .u8 14), .lit (.int .u8 19), .lit (.int .u8 9), .lit (.int .u8 13), .lit (.int .u8 8), .lit (.int .u8 7), .lit (.int .u8 6)]
def laid_internal_strconv_uint64pow10 {H : Type} : DataW H := .agg [.lit (.int .u64 1), .lit (.int .u64 10), .lit (.int .u64 100), .lit (.int .u64 1000), .lit (.int .u64 10000), .lit (.int .u64 100000), .lit (.int .u64 1000000), .lit (.int .u64 10000000), .lit (.int .u64 100000000), .lit (.int .u64 1000000000), .lit (.int .u64 10000000000), .lit (.int .u64 100000000000), .lit (.int .u64 1000000000000), .lit (.int .u64 10000000000000), .lit (.int .u64 100000000000000), .lit (.int .u64 1000000000000000), .lit (.int .u64 10000000000000000), .lit (.int .u64 100000000000000000), .lit (.int .u64 1000000000000000000), .lit (.int .u64 10000000000000000000)]

/-- 'partsynclaw27.TransactionChecks': WHATEVER THE INPUT: true; the input reads as it did. -/
def transactionChecksSpec : ChangeSpec := { name := "transactionChecks", fn := fun _ => fun
  | [d1, d2, d3] => { results := [.lit (.bool true)], args := [d1, d2, d3] }
  | _ => none }
def transactionChecksRow : OpenClaim := { program := "ytmealahmjddpcaagreatdoor", sum := "b1f4faaf9720ca45485cfe9fff5402a0e3b76f023597959aae0ec4ffbea98f91", func := "partsync/partsynclaw27.TransactionChecks", spec := "transactionChecks", inPlace := ["internal/bytealg.abigen_runtime_cmpstring"], unfollowed := true, recurses := true, named := ["internal/strconv.uint64pow10", "math/bits.deBruijn32tab", "math/bits.deBruijn64tab"], loops := true, apart := false, laid := [("math/bits.deBruijn32tab", laid_math_bits_deBruijn32tab), ("math/bits.deBruijn64tab", laid_math_bits_deBruijn64tab), ("internal/strconv.uint64pow10", laid_internal_strconv_uint64pow10)] }
def TransactionChecksSaid : Prop := transactionChecksRow.holds Tryz.pinned (OpenSpec.ofChange transactionChecksSpec)

/-- ITS FALSE NEIGHBOUR: 'it returns false'. Refute it at one input. -/
def transactionChecksWrong : ChangeSpec := { name := "transactionChecks", fn := fun _ => fun
  | [d1, d2, d3] => { results := [.lit (.bool false)], args := [d1, d2, d3] }
  | _ => none }
def TransactionChecksWrongFalsely : Prop := transactionChecksRow.holds Tryz.pinned (OpenSpec.ofChange transactionChecksWrong)

/-- 'partsynclaw27.TransactionChanges': WHATEVER THE INPUT: true; the input reads as it did. -/
def transactionChangesSpec : ChangeSpec := { name := "transactionChanges", fn := fun _ => fun
  | [d1, d2, d3] => { results := [.lit (.bool true)], args := [d1, d2, d3] }
  | _ => none }
def transactionChangesRow : OpenClaim := { program := "ytmealahmjddpcaagreatdoor", sum := "b1f4faaf9720ca45485cfe9fff5402a0e3b76f023597959aae0ec4ffbea98f91", func := "partsync/partsynclaw27.TransactionChanges", spec := "transactionChanges", inPlace := ["internal/bytealg.abigen_runtime_cmpstring"], unfollowed := true, recurses := true, named := ["internal/strconv.uint64pow10", "math/bits.deBruijn32tab", "math/bits.deBruijn64tab"], apart := false, laid := [("math/bits.deBruijn32tab", laid_math_bits_deBruijn32tab), ("math/bits.deBruijn64tab", laid_math_bits_deBruijn64tab), ("internal/strconv.uint64pow10", laid_internal_strconv_uint64pow10)] }
def TransactionChangesSaid : Prop := transactionChangesRow.holds Tryz.pinned (OpenSpec.ofChange transactionChangesSpec)

/-- ITS FALSE NEIGHBOUR: 'it returns false'. Refute it at one input. -/
def transactionChangesWrong : ChangeSpec := { name := "transactionChanges", fn := fun _ => fun
  | [d1, d2, d3] => { results := [.lit (.bool false)], args := [d1, d2, d3] }
  | _ => none }
def TransactionChangesWrongFalsely : Prop := transactionChangesRow.holds Tryz.pinned (OpenSpec.ofChange transactionChangesWrong)

/-- 'partsynclaw27.TransactionEffects': WHATEVER THE INPUT: true; the input reads as it did. -/
def transactionEffectsSpec : ChangeSpec := { name := "transactionEffects", fn := fun _ => fun
  | [d] => { results := [.lit (.bool true)], args := [d] }
  | _ => none }
def transactionEffectsRow : OpenClaim := { program := "ytmealahmjddpcaagreatdoor", sum := "b1f4faaf9720ca45485cfe9fff5402a0e3b76f023597959aae0ec4ffbea98f91", func := "partsync/partsynclaw27.TransactionEffects", spec := "transactionEffects", inPlace := ["internal/bytealg.abigen_runtime_cmpstring"], unfollowed := true, recurses := true, named := ["internal/strconv.uint64pow10", "math/bits.deBruijn32tab", "math/bits.deBruijn64tab"], apart := false, laid := [("math/bits.deBruijn32tab", laid_math_bits_deBruijn32tab), ("math/bits.deBruijn64tab", laid_math_bits_deBruijn64tab), ("internal/strconv.uint64pow10", laid_internal_strconv_uint64pow10)] }
def TransactionEffectsSaid : Prop := transactionEffectsRow.holds Tryz.pinned (OpenSpec.ofChange transactionEffectsSpec)

/-- ITS FALSE NEIGHBOUR: 'it returns false'. Refute it at one input. -/
def transactionEffectsWrong : ChangeSpec := { name := "transactionEffects", fn := fun _ => fun
  | [d] => { results := [.lit (.bool false)], args := [d] }
  | _ => none }
def TransactionEffectsWrongFalsely : Prop := transactionEffectsRow.holds Tryz.pinned (OpenSpec.ofChange transactionEffectsWrong)

/-- 'partsynclaw27.TransactionOverlays': WHATEVER THE INPUT: true; the input reads as it did. -/
def transactionOverlaysSpec : ChangeSpec := { name := "transactionOverlays", fn := fun _ => fun
  | [d1, d2, d3] => { results := [.lit (.bool true)], args := [d1, d2, d3] }
  | _ => none }
def transactionOverlaysRow : OpenClaim := { program := "ytmealahmjddpcaagreatdoor", sum := "b1f4faaf9720ca45485cfe9fff5402a0e3b76f023597959aae0ec4ffbea98f91", func := "partsync/partsynclaw27.TransactionOverlays", spec := "transactionOverlays", inPlace := ["internal/bytealg.abigen_runtime_cmpstring"], unfollowed := true, recurses := true, named := ["internal/strconv.uint64pow10", "math/bits.deBruijn32tab", "math/bits.deBruijn64tab"], apart := false, laid := [("math/bits.deBruijn32tab", laid_math_bits_deBruijn32tab), ("math/bits.deBruijn64tab", laid_math_bits_deBruijn64tab), ("internal/strconv.uint64pow10", laid_internal_strconv_uint64pow10)] }
def TransactionOverlaysSaid : Prop := transactionOverlaysRow.holds Tryz.pinned (OpenSpec.ofChange transactionOverlaysSpec)

/-- ITS FALSE NEIGHBOUR: 'it returns false'. Refute it at one input. -/
def transactionOverlaysWrong : ChangeSpec := { name := "transactionOverlays", fn := fun _ => fun
  | [d1, d2, d3] => { results := [.lit (.bool false)], args := [d1, d2, d3] }
  | _ => none }
def TransactionOverlaysWrongFalsely : Prop := transactionOverlaysRow.holds Tryz.pinned (OpenSpec.ofChange transactionOverlaysWrong)

/-- 'partsynclaw27.TransactionShows': WHATEVER THE INPUT: true; the input reads as it did. -/
def transactionShowsSpec : ChangeSpec := { name := "transactionShows", fn := fun _ => fun
  | [d] => { results := [.lit (.bool true)], args := [d] }
  | _ => none }
def transactionShowsRow : OpenClaim := { program := "ytmealahmjddpcaagreatdoor", sum := "b1f4faaf9720ca45485cfe9fff5402a0e3b76f023597959aae0ec4ffbea98f91", func := "partsync/partsynclaw27.TransactionShows", spec := "transactionShows", inPlace := ["internal/bytealg.abigen_runtime_cmpstring"], unfollowed := true, recurses := true, named := ["internal/strconv.uint64pow10", "math/bits.deBruijn32tab", "math/bits.deBruijn64tab"], apart := false, laid := [("math/bits.deBruijn32tab", laid_math_bits_deBruijn32tab), ("math/bits.deBruijn64tab", laid_math_bits_deBruijn64tab), ("internal/strconv.uint64pow10", laid_internal_strconv_uint64pow10)] }
def TransactionShowsSaid : Prop := transactionShowsRow.holds Tryz.pinned (OpenSpec.ofChange transactionShowsSpec)

/-- ITS FALSE NEIGHBOUR: 'it returns false'. Refute it at one input. -/
def transactionShowsWrong : ChangeSpec := { name := "transactionShows", fn := fun _ => fun
  | [d] => { results := [.lit (.bool false)], args := [d] }
  | _ => none }
def TransactionShowsWrongFalsely : Prop := transactionShowsRow.holds Tryz.pinned (OpenSpec.ofChange transactionShowsWrong)

/- THE SECOND FORM. 'bulk': how many values and letters a reading holds, each counted each time it is reached (what is shared counts as often as it is met; a slice's spare places count too). A statement '..UptoSaid' is the law's where the arguments, and the package variables that the reading takes, are together of bulk at most 1048576: NARROWER than '..Said'. Prove '..Said' where nothing that the law and all that it calls make is longer than what came in: it says more and counts as full. Else prove '..UptoSaid'. A law counts once. -/
mutual
def uptoBulk {H : Type} : DataW H → Nat
  | .lit (.string bytes) => bytes.length + 1
  | .lit _ => 1
  | .nil => 1
  | .ptr d => uptoBulk d + 1
  | .slice elems spare => uptoBulkAll elems + uptoBulkAll spare + 1
  | .agg parts => uptoBulkAll parts + 1
  | .iface _ d => uptoBulk d + 1
  | .map entries => uptoBulkEntries entries + 1
  | .held _ => 1
def uptoBulkAll {H : Type} : List (DataW H) → Nat
  | [] => 0
  | d :: r => uptoBulk d + uptoBulkAll r
def uptoBulkEntries {H : Type} : List (Lit × DataW H) → Nat
  | [] => 0
  | x :: r => uptoBulkEntry x + uptoBulkEntries r
def uptoBulkEntry {H : Type} : Lit × DataW H → Nat
  | (.string bytes, d) => bytes.length + uptoBulk d + 1
  | (_, d) => uptoBulk d + 1
 end
def uptoSmall : (H : Type) → List (DataW H) → Bool := fun _ ds => decide (uptoBulkAll ds ≤ 1048576)
def OpenSpec.upto (s : _root_.Go.ChangeSpec) : _root_.Go.OpenSpec := { _root_.Go.OpenSpec.ofChange s with cond := some uptoSmall }

/-- 'partsynclaw27.TransactionChecks', WHERE WHAT IT READS IS OF BULK AT MOST 1048576: true; the input reads as it did. -/
def transactionChecksUptoRow : OpenClaim := { program := "ytmealahmjddpcaagreatdoor", sum := "b1f4faaf9720ca45485cfe9fff5402a0e3b76f023597959aae0ec4ffbea98f91", func := "partsync/partsynclaw27.TransactionChecks", spec := "transactionChecks", inPlace := ["internal/bytealg.abigen_runtime_cmpstring"], unfollowed := true, recurses := true, named := ["internal/strconv.uint64pow10", "math/bits.deBruijn32tab", "math/bits.deBruijn64tab"], loops := true, apart := false, laid := [("math/bits.deBruijn32tab", laid_math_bits_deBruijn32tab), ("math/bits.deBruijn64tab", laid_math_bits_deBruijn64tab), ("internal/strconv.uint64pow10", laid_internal_strconv_uint64pow10)], narrowed := true }
def TransactionChecksUptoSaid : Prop := transactionChecksUptoRow.holds Tryz.pinned (OpenSpec.upto transactionChecksSpec)

/-- 'partsynclaw27.TransactionChanges', WHERE WHAT IT READS IS OF BULK AT MOST 1048576: true; the input reads as it did. -/
def transactionChangesUptoRow : OpenClaim := { program := "ytmealahmjddpcaagreatdoor", sum := "b1f4faaf9720ca45485cfe9fff5402a0e3b76f023597959aae0ec4ffbea98f91", func := "partsync/partsynclaw27.TransactionChanges", spec := "transactionChanges", inPlace := ["internal/bytealg.abigen_runtime_cmpstring"], unfollowed := true, recurses := true, named := ["internal/strconv.uint64pow10", "math/bits.deBruijn32tab", "math/bits.deBruijn64tab"], apart := false, laid := [("math/bits.deBruijn32tab", laid_math_bits_deBruijn32tab), ("math/bits.deBruijn64tab", laid_math_bits_deBruijn64tab), ("internal/strconv.uint64pow10", laid_internal_strconv_uint64pow10)], narrowed := true }
def TransactionChangesUptoSaid : Prop := transactionChangesUptoRow.holds Tryz.pinned (OpenSpec.upto transactionChangesSpec)

/-- 'partsynclaw27.TransactionEffects', WHERE WHAT IT READS IS OF BULK AT MOST 1048576: true; the input reads as it did. -/
def transactionEffectsUptoRow : OpenClaim := { program := "ytmealahmjddpcaagreatdoor", sum := "b1f4faaf9720ca45485cfe9fff5402a0e3b76f023597959aae0ec4ffbea98f91", func := "partsync/partsynclaw27.TransactionEffects", spec := "transactionEffects", inPlace := ["internal/bytealg.abigen_runtime_cmpstring"], unfollowed := true, recurses := true, named := ["internal/strconv.uint64pow10", "math/bits.deBruijn32tab", "math/bits.deBruijn64tab"], apart := false, laid := [("math/bits.deBruijn32tab", laid_math_bits_deBruijn32tab), ("math/bits.deBruijn64tab", laid_math_bits_deBruijn64tab), ("internal/strconv.uint64pow10", laid_internal_strconv_uint64pow10)], narrowed := true }
def TransactionEffectsUptoSaid : Prop := transactionEffectsUptoRow.holds Tryz.pinned (OpenSpec.upto transactionEffectsSpec)

/-- 'partsynclaw27.TransactionOverlays', WHERE WHAT IT READS IS OF BULK AT MOST 1048576: true; the input reads as it did. -/
def transactionOverlaysUptoRow : OpenClaim := { program := "ytmealahmjddpcaagreatdoor", sum := "b1f4faaf9720ca45485cfe9fff5402a0e3b76f023597959aae0ec4ffbea98f91", func := "partsync/partsynclaw27.TransactionOverlays", spec := "transactionOverlays", inPlace := ["internal/bytealg.abigen_runtime_cmpstring"], unfollowed := true, recurses := true, named := ["internal/strconv.uint64pow10", "math/bits.deBruijn32tab", "math/bits.deBruijn64tab"], apart := false, laid := [("math/bits.deBruijn32tab", laid_math_bits_deBruijn32tab), ("math/bits.deBruijn64tab", laid_math_bits_deBruijn64tab), ("internal/strconv.uint64pow10", laid_internal_strconv_uint64pow10)], narrowed := true }
def TransactionOverlaysUptoSaid : Prop := transactionOverlaysUptoRow.holds Tryz.pinned (OpenSpec.upto transactionOverlaysSpec)

/-- 'partsynclaw27.TransactionShows', WHERE WHAT IT READS IS OF BULK AT MOST 1048576: true; the input reads as it did. -/
def transactionShowsUptoRow : OpenClaim := { program := "ytmealahmjddpcaagreatdoor", sum := "b1f4faaf9720ca45485cfe9fff5402a0e3b76f023597959aae0ec4ffbea98f91", func := "partsync/partsynclaw27.TransactionShows", spec := "transactionShows", inPlace := ["internal/bytealg.abigen_runtime_cmpstring"], unfollowed := true, recurses := true, named := ["internal/strconv.uint64pow10", "math/bits.deBruijn32tab", "math/bits.deBruijn64tab"], apart := false, laid := [("math/bits.deBruijn32tab", laid_math_bits_deBruijn32tab), ("math/bits.deBruijn64tab", laid_math_bits_deBruijn64tab), ("internal/strconv.uint64pow10", laid_internal_strconv_uint64pow10)], narrowed := true }
def TransactionShowsUptoSaid : Prop := transactionShowsUptoRow.holds Tryz.pinned (OpenSpec.upto transactionShowsSpec)

end Rows
end Go.Proofs.YtmealahmjddpcaaGreatDoor
