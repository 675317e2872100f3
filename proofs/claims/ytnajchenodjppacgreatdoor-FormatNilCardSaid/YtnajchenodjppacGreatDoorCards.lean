/-
  DERIVED. GIVEN WITH THE SEED: THE CARDS: each row of YtnajchenodjppacGreatDoorRows.lean that lists a variable, with what it lists TIED to the program's text (the seventh form; the later family's looks); each row that meets fmt, with fmt's text TOLD by the authors' own Lean function (tested against real Go, not proved from fmt's source: count such statements apart). THE CARD IS WHAT COUNTS. Prove the row's statement (the work); the ties are given (YtnajchenodjppacGreatDoorTie.lean); close each card by the builder's one call (the guide's Derived/Test/ToyasCard.lean, 'card_holds'). Laid BY PROGRAM, IN A SANDBOX (cutbox-door.mjs). By AI agents, Wed Nov 11 2026. No macro, syntax, notation, axiom, sorry.
-/
import Derived.Test.YtnajchenodjppacGreatDoorRows
import GoSem.ClaimSeven
namespace Go.Proofs.YtnajchenodjppacGreatDoor
namespace Rows

/-- THE TIED CARD OF 'calamuslaw20.FormatNil'. -/
def formatNilCard : Claim7 := { stood := { row := formatNilRow, standIns := [], harness := (true, "f31ea9f2fcd05a52cec8b1eaad9a9eb3a0ab99dfdf0af59d95d19c9f6a7d6036"), looks := true }, kinds := [], alts := [], laidByText := true, laidKinds := [.data, .data, .data, .data, .sentinel, .sentinel, .data, .data, .data, .data, .data, .pinned], laidTests := true, laidLooks := .later }
def FormatNilCardSaid : Prop := Claim7.holds Tryz.pinned (.plain (OpenSpec.ofChange formatNilSpec)) formatNilCard

/-- THE SECOND FORM's CARD OF 'calamuslaw20.FormatNil'. -/
def formatNilUptoCard : Claim7 := { stood := { row := formatNilUptoRow, standIns := [], harness := (true, "f31ea9f2fcd05a52cec8b1eaad9a9eb3a0ab99dfdf0af59d95d19c9f6a7d6036"), looks := true }, kinds := [], alts := [], laidByText := true, laidKinds := [.data, .data, .data, .data, .sentinel, .sentinel, .data, .data, .data, .data, .data, .pinned], laidTests := true, laidLooks := .later }
def FormatNilUptoCardSaid : Prop := Claim7.holds Tryz.pinned (.plain (OpenSpec.upto formatNilSpec)) formatNilUptoCard
end Rows
end Go.Proofs.YtnajchenodjppacGreatDoor
