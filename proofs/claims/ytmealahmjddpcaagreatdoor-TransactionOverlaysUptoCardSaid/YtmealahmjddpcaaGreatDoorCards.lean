/-
  DERIVED. GIVEN WITH THE SEED: THE CARDS: each row of YtmealahmjddpcaaGreatDoorRows.lean that lists a variable, with what it lists TIED to the program's text (the seventh form; the later family's looks); each row that meets fmt, with fmt's text TOLD by the authors' own Lean function (tested against real Go, not proved from fmt's source: count such statements apart). THE CARD IS WHAT COUNTS. Prove the row's statement (the work); the ties are given (YtmealahmjddpcaaGreatDoorTie.lean); close each card by the builder's one call (the guide's Derived/Test/ToyasCard.lean, 'card_holds'). Laid BY PROGRAM, IN A SANDBOX (cutbox-door.mjs). By AI agents, Wed Nov 11 2026. No macro, syntax, notation, axiom, sorry.
-/
import Derived.Test.YtmealahmjddpcaaGreatDoorRows
import GoSem.ClaimSeven
namespace Go.Proofs.YtmealahmjddpcaaGreatDoor
namespace Rows

/-- THE TIED CARD OF 'partsynclaw27.TransactionChecks'. -/
def transactionChecksCard : Claim7 := { stood := { row := transactionChecksRow, standIns := [], harness := (true, "9f9e446209565be05fbfded25ba00adeb9b46f0594afa120e5da009511192794"), looks := true }, kinds := [], alts := [], laidByText := true, laidKinds := [.data, .data, .data], laidTests := true, laidLooks := .later }
def TransactionChecksCardSaid : Prop := Claim7.holds Tryz.pinned (.plain (OpenSpec.ofChange transactionChecksSpec)) transactionChecksCard

/-- THE TIED CARD OF 'partsynclaw27.TransactionChanges'. -/
def transactionChangesCard : Claim7 := { stood := { row := transactionChangesRow, standIns := [], harness := (true, "9f9e446209565be05fbfded25ba00adeb9b46f0594afa120e5da009511192794"), looks := true }, kinds := [], alts := [], laidByText := true, laidKinds := [.data, .data, .data], laidTests := true, laidLooks := .later }
def TransactionChangesCardSaid : Prop := Claim7.holds Tryz.pinned (.plain (OpenSpec.ofChange transactionChangesSpec)) transactionChangesCard

/-- THE TIED CARD OF 'partsynclaw27.TransactionEffects'. -/
def transactionEffectsCard : Claim7 := { stood := { row := transactionEffectsRow, standIns := [], harness := (true, "9f9e446209565be05fbfded25ba00adeb9b46f0594afa120e5da009511192794"), looks := true }, kinds := [], alts := [], laidByText := true, laidKinds := [.data, .data, .data], laidTests := true, laidLooks := .later }
def TransactionEffectsCardSaid : Prop := Claim7.holds Tryz.pinned (.plain (OpenSpec.ofChange transactionEffectsSpec)) transactionEffectsCard

/-- THE TIED CARD OF 'partsynclaw27.TransactionOverlays'. -/
def transactionOverlaysCard : Claim7 := { stood := { row := transactionOverlaysRow, standIns := [], harness := (true, "9f9e446209565be05fbfded25ba00adeb9b46f0594afa120e5da009511192794"), looks := true }, kinds := [], alts := [], laidByText := true, laidKinds := [.data, .data, .data], laidTests := true, laidLooks := .later }
def TransactionOverlaysCardSaid : Prop := Claim7.holds Tryz.pinned (.plain (OpenSpec.ofChange transactionOverlaysSpec)) transactionOverlaysCard

/-- THE TIED CARD OF 'partsynclaw27.TransactionShows'. -/
def transactionShowsCard : Claim7 := { stood := { row := transactionShowsRow, standIns := [], harness := (true, "9f9e446209565be05fbfded25ba00adeb9b46f0594afa120e5da009511192794"), looks := true }, kinds := [], alts := [], laidByText := true, laidKinds := [.data, .data, .data], laidTests := true, laidLooks := .later }
def TransactionShowsCardSaid : Prop := Claim7.holds Tryz.pinned (.plain (OpenSpec.ofChange transactionShowsSpec)) transactionShowsCard

/-- THE SECOND FORM's CARD OF 'partsynclaw27.TransactionChecks'. -/
def transactionChecksUptoCard : Claim7 := { stood := { row := transactionChecksUptoRow, standIns := [], harness := (true, "9f9e446209565be05fbfded25ba00adeb9b46f0594afa120e5da009511192794"), looks := true }, kinds := [], alts := [], laidByText := true, laidKinds := [.data, .data, .data], laidTests := true, laidLooks := .later }
def TransactionChecksUptoCardSaid : Prop := Claim7.holds Tryz.pinned (.plain (OpenSpec.upto transactionChecksSpec)) transactionChecksUptoCard

/-- THE SECOND FORM's CARD OF 'partsynclaw27.TransactionChanges'. -/
def transactionChangesUptoCard : Claim7 := { stood := { row := transactionChangesUptoRow, standIns := [], harness := (true, "9f9e446209565be05fbfded25ba00adeb9b46f0594afa120e5da009511192794"), looks := true }, kinds := [], alts := [], laidByText := true, laidKinds := [.data, .data, .data], laidTests := true, laidLooks := .later }
def TransactionChangesUptoCardSaid : Prop := Claim7.holds Tryz.pinned (.plain (OpenSpec.upto transactionChangesSpec)) transactionChangesUptoCard

/-- THE SECOND FORM's CARD OF 'partsynclaw27.TransactionEffects'. -/
def transactionEffectsUptoCard : Claim7 := { stood := { row := transactionEffectsUptoRow, standIns := [], harness := (true, "9f9e446209565be05fbfded25ba00adeb9b46f0594afa120e5da009511192794"), looks := true }, kinds := [], alts := [], laidByText := true, laidKinds := [.data, .data, .data], laidTests := true, laidLooks := .later }
def TransactionEffectsUptoCardSaid : Prop := Claim7.holds Tryz.pinned (.plain (OpenSpec.upto transactionEffectsSpec)) transactionEffectsUptoCard

/-- THE SECOND FORM's CARD OF 'partsynclaw27.TransactionOverlays'. -/
def transactionOverlaysUptoCard : Claim7 := { stood := { row := transactionOverlaysUptoRow, standIns := [], harness := (true, "9f9e446209565be05fbfded25ba00adeb9b46f0594afa120e5da009511192794"), looks := true }, kinds := [], alts := [], laidByText := true, laidKinds := [.data, .data, .data], laidTests := true, laidLooks := .later }
def TransactionOverlaysUptoCardSaid : Prop := Claim7.holds Tryz.pinned (.plain (OpenSpec.upto transactionOverlaysSpec)) transactionOverlaysUptoCard

/-- THE SECOND FORM's CARD OF 'partsynclaw27.TransactionShows'. -/
def transactionShowsUptoCard : Claim7 := { stood := { row := transactionShowsUptoRow, standIns := [], harness := (true, "9f9e446209565be05fbfded25ba00adeb9b46f0594afa120e5da009511192794"), looks := true }, kinds := [], alts := [], laidByText := true, laidKinds := [.data, .data, .data], laidTests := true, laidLooks := .later }
def TransactionShowsUptoCardSaid : Prop := Claim7.holds Tryz.pinned (.plain (OpenSpec.upto transactionShowsSpec)) transactionShowsUptoCard
end Rows
end Go.Proofs.YtmealahmjddpcaaGreatDoor
