/-
  DERIVED. GIVEN WITH THE SEED: THE CARDS: each row of YtfjlcjaokoahkaaGreatDoorRows.lean that lists a variable, with what it lists TIED to the program's text (the seventh form; the later family's looks); each row that meets fmt, with fmt's text TOLD by the authors' own Lean function (tested against real Go, not proved from fmt's source: count such statements apart). THE CARD IS WHAT COUNTS. Prove the row's statement (the work); the ties are given (YtfjlcjaokoahkaaGreatDoorTie.lean); close each card by the builder's one call (the guide's Derived/Test/ToyasCard.lean, 'card_holds'). Laid BY PROGRAM, IN A SANDBOX (cutbox-door.mjs). By AI agents, Wed Nov 11 2026. No macro, syntax, notation, axiom, sorry.
-/
import Derived.Test.YtfjlcjaokoahkaaGreatDoorRows
import GoSem.ClaimSeven
namespace Go.Proofs.YtfjlcjaokoahkaaGreatDoor
namespace Rows

/-- THE TIED CARD OF 'calamuslaw08.CborNil'. -/
def cborNilCard : Claim7 := { stood := { row := cborNilRow, standIns := [], harness := (true, "8751a346c6e9dd3419daf049dd5fb58a478c585f9c38fd37f54950aed7b0a95b"), looks := true }, kinds := [], alts := [], laidByText := true, laidKinds := [.data, .data, .data, .data, .data, .pinned], laidTests := true, laidLooks := .later }
def CborNilCardSaid : Prop := Claim7.holds Tryz.pinned (.plain (OpenSpec.ofChange cborNilSpec)) cborNilCard

/-- THE SECOND FORM's CARD OF 'calamuslaw08.CborNil'. -/
def cborNilUptoCard : Claim7 := { stood := { row := cborNilUptoRow, standIns := [], harness := (true, "8751a346c6e9dd3419daf049dd5fb58a478c585f9c38fd37f54950aed7b0a95b"), looks := true }, kinds := [], alts := [], laidByText := true, laidKinds := [.data, .data, .data, .data, .data, .pinned], laidTests := true, laidLooks := .later }
def CborNilUptoCardSaid : Prop := Claim7.holds Tryz.pinned (.plain (OpenSpec.upto cborNilSpec)) cborNilUptoCard
end Rows
end Go.Proofs.YtfjlcjaokoahkaaGreatDoor
