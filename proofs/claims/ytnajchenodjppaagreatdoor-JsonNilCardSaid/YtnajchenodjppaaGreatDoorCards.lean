/-
  DERIVED. GIVEN WITH THE SEED: THE CARDS: each row of YtnajchenodjppaaGreatDoorRows.lean that lists a variable, with what it lists TIED to the program's text (the seventh form; the later family's looks); each row that meets fmt, with fmt's text TOLD by the authors' own Lean function (tested against real Go, not proved from fmt's source: count such statements apart). THE CARD IS WHAT COUNTS. Prove the row's statement (the work); the ties are given (YtnajchenodjppaaGreatDoorTie.lean); close each card by the builder's one call (the guide's Derived/Test/ToyasCard.lean, 'card_holds'). Laid BY PROGRAM, IN A SANDBOX (cutbox-door.mjs). By AI agents, Wed Nov 11 2026. No macro, syntax, notation, axiom, sorry.
-/
import Derived.Test.YtnajchenodjppaaGreatDoorRows
import GoSem.ClaimSeven
namespace Go.Proofs.YtnajchenodjppaaGreatDoor
namespace Rows

/-- THE TIED CARD OF 'calamuslaw07.JsonNil'. -/
def jsonNilCard : Claim7 := { stood := { row := jsonNilRow, standIns := [], harness := (true, "7f5fae69b45f52a803b38e5fdf477d838438838f37b8a81e148cb03b47764ddc"), looks := true }, kinds := [], alts := [], laidByText := true, laidKinds := [.data, .data, .data, .data, .sentinel, .sentinel, .pinned], laidTests := true, laidLooks := .later }
def JsonNilCardSaid : Prop := Claim7.holds Tryz.pinned (.plain (OpenSpec.ofChange jsonNilSpec)) jsonNilCard

/-- THE SECOND FORM's CARD OF 'calamuslaw07.JsonNil'. -/
def jsonNilUptoCard : Claim7 := { stood := { row := jsonNilUptoRow, standIns := [], harness := (true, "7f5fae69b45f52a803b38e5fdf477d838438838f37b8a81e148cb03b47764ddc"), looks := true }, kinds := [], alts := [], laidByText := true, laidKinds := [.data, .data, .data, .data, .sentinel, .sentinel, .pinned], laidTests := true, laidLooks := .later }
def JsonNilUptoCardSaid : Prop := Claim7.holds Tryz.pinned (.plain (OpenSpec.upto jsonNilSpec)) jsonNilUptoCard
end Rows
end Go.Proofs.YtnajchenodjppaaGreatDoor
