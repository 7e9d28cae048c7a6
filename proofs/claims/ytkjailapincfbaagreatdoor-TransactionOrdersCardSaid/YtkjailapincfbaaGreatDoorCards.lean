/-
  DERIVED. GIVEN WITH THE SEED: THE CARDS: each row of YtkjailapincfbaaGreatDoorRows.lean that lists a variable, with what it lists TIED to the program's text (the seventh form; the later family's looks); each row that meets fmt, with fmt's text TOLD by the authors' own Lean function (tested against real Go, not proved from fmt's source: count such statements apart). THE CARD IS WHAT COUNTS. Prove the row's statement (the work); the ties are given (YtkjailapincfbaaGreatDoorTie.lean); close each card by the builder's one call (the guide's Derived/Test/ToyasCard.lean, 'card_holds'). Laid BY PROGRAM, IN A SANDBOX (cutbox-door.mjs). By AI agents, Wed Nov 11 2026. No macro, syntax, notation, axiom, sorry.
-/
import Derived.Test.YtkjailapincfbaaGreatDoorRows
import GoSem.ClaimSeven
namespace Go.Proofs.YtkjailapincfbaaGreatDoor
namespace Rows

/-- THE TIED CARD OF 'partsynclaw27.TransactionOrders'. -/
def transactionOrdersCard : Claim7 := { stood := { row := transactionOrdersRow, standIns := [], harness := (true, "4648b44f72a68febf39b5f845ca9786857c5cecdd0880b5b38737a3b3fde5b1d"), looks := true }, kinds := [], alts := [], laidByText := true, laidKinds := [.data, .data, .data], laidTests := true, laidLooks := .later }
def TransactionOrdersCardSaid : Prop := Claim7.holds Tryz.pinned (.plain (OpenSpec.ofChange transactionOrdersSpec)) transactionOrdersCard

/-- THE SECOND FORM's CARD OF 'partsynclaw27.TransactionOrders'. -/
def transactionOrdersUptoCard : Claim7 := { stood := { row := transactionOrdersUptoRow, standIns := [], harness := (true, "4648b44f72a68febf39b5f845ca9786857c5cecdd0880b5b38737a3b3fde5b1d"), looks := true }, kinds := [], alts := [], laidByText := true, laidKinds := [.data, .data, .data], laidTests := true, laidLooks := .later }
def TransactionOrdersUptoCardSaid : Prop := Claim7.holds Tryz.pinned (.plain (OpenSpec.upto transactionOrdersSpec)) transactionOrdersUptoCard
end Rows
end Go.Proofs.YtkjailapincfbaaGreatDoor
