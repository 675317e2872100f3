/-
  DERIVED. GIVEN WITH THE SEED: THE CARDS: each row of YtnajchenodjppabGreatDoorRows.lean that lists a variable, with what it lists TIED to the program's text (the seventh form; the later family's looks); each row that meets fmt, with fmt's text TOLD by the authors' own Lean function (tested against real Go, not proved from fmt's source: count such statements apart). THE CARD IS WHAT COUNTS. Prove the row's statement (the work); the ties are given (YtnajchenodjppabGreatDoorTie.lean); close each card by the builder's one call (the guide's Derived/Test/ToyasCard.lean, 'card_holds'). Laid BY PROGRAM, IN A SANDBOX (cutbox-door.mjs). By AI agents, Wed Nov 11 2026. No macro, syntax, notation, axiom, sorry.
-/
import Derived.Test.YtnajchenodjppabGreatDoorRows
import GoSem.ClaimSeven
namespace Go.Proofs.YtnajchenodjppabGreatDoor
namespace Rows

/-- THE TIED CARD OF 'calamuslaw10.XmlNil'. -/
def xmlNilCard : Claim7 := { stood := { row := xmlNilRow, standIns := [], harness := (true, "1a5c2de757d51915b992f6277f8e749d2d8387a1d87a9d3712caa4f1a6c3e601"), looks := true }, kinds := [], alts := [], laidByText := true, laidKinds := [.data, .data, .data, .data, .sentinel, .sentinel, .pinned], laidTests := true, laidLooks := .later }
def XmlNilCardSaid : Prop := Claim7.holds Tryz.pinned (.plain (OpenSpec.ofChange xmlNilSpec)) xmlNilCard

/-- THE SECOND FORM's CARD OF 'calamuslaw10.XmlNil'. -/
def xmlNilUptoCard : Claim7 := { stood := { row := xmlNilUptoRow, standIns := [], harness := (true, "1a5c2de757d51915b992f6277f8e749d2d8387a1d87a9d3712caa4f1a6c3e601"), looks := true }, kinds := [], alts := [], laidByText := true, laidKinds := [.data, .data, .data, .data, .sentinel, .sentinel, .pinned], laidTests := true, laidLooks := .later }
def XmlNilUptoCardSaid : Prop := Claim7.holds Tryz.pinned (.plain (OpenSpec.upto xmlNilSpec)) xmlNilUptoCard
end Rows
end Go.Proofs.YtnajchenodjppabGreatDoor
