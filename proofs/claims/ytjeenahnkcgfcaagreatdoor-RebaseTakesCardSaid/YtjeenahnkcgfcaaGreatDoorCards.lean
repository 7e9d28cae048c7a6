/-
  DERIVED. GIVEN WITH THE SEED: THE CARDS: each row of YtjeenahnkcgfcaaGreatDoorRows.lean that lists a variable, with what it lists TIED to the program's text (the seventh form; the later family's looks); each row that meets fmt, with fmt's text TOLD by the authors' own Lean function (tested against real Go, not proved from fmt's source: count such statements apart). THE CARD IS WHAT COUNTS. Prove the row's statement (the work); the ties are given (YtjeenahnkcgfcaaGreatDoorTie.lean); close each card by the builder's one call (the guide's Derived/Test/ToyasCard.lean, 'card_holds'). Laid BY PROGRAM, IN A SANDBOX (cutbox-door.mjs). By AI agents, Wed Nov 11 2026. No macro, syntax, notation, axiom, sorry.
-/
import Derived.Test.YtjeenahnkcgfcaaGreatDoorRows
import GoSem.ClaimSeven
namespace Go.Proofs.YtjeenahnkcgfcaaGreatDoor
namespace Rows

/-- THE TIED CARD OF 'partsynclaw34.RebaseTakes'. -/
def rebaseTakesCard : Claim7 := { stood := { row := rebaseTakesRow, standIns := [], harness := (true, "942b381781158da034a16fde1addd81b375cf0d000025c986aa9f49566c3aad7"), looks := true }, kinds := [], alts := [], laidByText := true, laidKinds := [.data, .data, .data], laidTests := true, laidLooks := .later }
def RebaseTakesCardSaid : Prop := Claim7.holds Tryz.pinned (.plain (OpenSpec.ofChange rebaseTakesSpec)) rebaseTakesCard

/-- THE SECOND FORM's CARD OF 'partsynclaw34.RebaseTakes'. -/
def rebaseTakesUptoCard : Claim7 := { stood := { row := rebaseTakesUptoRow, standIns := [], harness := (true, "942b381781158da034a16fde1addd81b375cf0d000025c986aa9f49566c3aad7"), looks := true }, kinds := [], alts := [], laidByText := true, laidKinds := [.data, .data, .data], laidTests := true, laidLooks := .later }
def RebaseTakesUptoCardSaid : Prop := Claim7.holds Tryz.pinned (.plain (OpenSpec.upto rebaseTakesSpec)) rebaseTakesUptoCard
end Rows
end Go.Proofs.YtjeenahnkcgfcaaGreatDoor
