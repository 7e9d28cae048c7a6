/-
  DERIVED. GIVEN WITH THE SEED: THE CARDS: each row of YtkjailapincfbabGreatDoorRows.lean that lists a variable, with what it lists TIED to the program's text (the seventh form; the later family's looks); each row that meets fmt, with fmt's text TOLD by the authors' own Lean function (tested against real Go, not proved from fmt's source: count such statements apart). THE CARD IS WHAT COUNTS. Prove the row's statement (the work); the ties are given (YtkjailapincfbabGreatDoorTie.lean); close each card by the builder's one call (the guide's Derived/Test/ToyasCard.lean, 'card_holds'). Laid BY PROGRAM, IN A SANDBOX (cutbox-door.mjs). By AI agents, Wed Nov 11 2026. No macro, syntax, notation, axiom, sorry.
-/
import Derived.Test.YtkjailapincfbabGreatDoorRows
import GoSem.ClaimSeven
namespace Go.Proofs.YtkjailapincfbabGreatDoor
namespace Rows

/-- THE TIED CARD OF 'partsynclaw26.ProcedureSums'. -/
def procedureSumsCard : Claim7 := { stood := { row := procedureSumsRow, standIns := [], harness := (true, "b4565480f5e6e5abd8bd1153d012a1dbf0a68cb06ee0380875122d8986896da2"), looks := true }, kinds := [], alts := [], laidByText := true, laidKinds := [.data, .data, .data], laidTests := true, laidLooks := .later }
def ProcedureSumsCardSaid : Prop := Claim7.holds Tryz.pinned (.plain (OpenSpec.ofChange procedureSumsSpec)) procedureSumsCard

/-- THE SECOND FORM's CARD OF 'partsynclaw26.ProcedureSums'. -/
def procedureSumsUptoCard : Claim7 := { stood := { row := procedureSumsUptoRow, standIns := [], harness := (true, "b4565480f5e6e5abd8bd1153d012a1dbf0a68cb06ee0380875122d8986896da2"), looks := true }, kinds := [], alts := [], laidByText := true, laidKinds := [.data, .data, .data], laidTests := true, laidLooks := .later }
def ProcedureSumsUptoCardSaid : Prop := Claim7.holds Tryz.pinned (.plain (OpenSpec.upto procedureSumsSpec)) procedureSumsUptoCard
end Rows
end Go.Proofs.YtkjailapincfbabGreatDoor
