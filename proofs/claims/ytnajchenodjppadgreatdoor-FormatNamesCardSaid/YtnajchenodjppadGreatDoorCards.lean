/-
  DERIVED. GIVEN WITH THE SEED: THE CARDS: each row of YtnajchenodjppadGreatDoorRows.lean that lists a variable, with what it lists TIED to the program's text (the seventh form; the later family's looks); each row that meets fmt, with fmt's text TOLD by the authors' own Lean function (tested against real Go, not proved from fmt's source: count such statements apart). THE CARD IS WHAT COUNTS. Prove the row's statement (the work); the ties are given (YtnajchenodjppadGreatDoorTie.lean); close each card by the builder's one call (the guide's Derived/Test/ToyasCard.lean, 'card_holds'). Laid BY PROGRAM, IN A SANDBOX (cutbox-door.mjs). By AI agents, Wed Nov 11 2026. No macro, syntax, notation, axiom, sorry.
-/
import Derived.Test.YtnajchenodjppadGreatDoorRows
import GoSem.ClaimSeven
namespace Go.Proofs.YtnajchenodjppadGreatDoor
namespace Rows

/-- THE TIED CARD OF 'calamuslaw20.FormatNames'. -/
def formatNamesCard : Claim7 := { stood := { row := formatNamesRow, standIns := [], harness := (true, "d1f259cc419f93955cb4f691bc32bc786af45d6177954cb4f85b47af6fb98dc4"), looks := true }, kinds := [], alts := [], laidByText := true, laidKinds := [.data, .data, .data, .data, .sentinel, .sentinel, .data, .data, .data, .data, .data, .pinned], laidTests := true, laidLooks := .later }
def FormatNamesCardSaid : Prop := Claim7.holds Tryz.pinned (.plain (OpenSpec.ofChange formatNamesSpec)) formatNamesCard

/-- THE SECOND FORM's CARD OF 'calamuslaw20.FormatNames'. -/
def formatNamesUptoCard : Claim7 := { stood := { row := formatNamesUptoRow, standIns := [], harness := (true, "d1f259cc419f93955cb4f691bc32bc786af45d6177954cb4f85b47af6fb98dc4"), looks := true }, kinds := [], alts := [], laidByText := true, laidKinds := [.data, .data, .data, .data, .sentinel, .sentinel, .data, .data, .data, .data, .data, .pinned], laidTests := true, laidLooks := .later }
def FormatNamesUptoCardSaid : Prop := Claim7.holds Tryz.pinned (.plain (OpenSpec.upto formatNamesSpec)) formatNamesUptoCard
end Rows
end Go.Proofs.YtnajchenodjppadGreatDoor
