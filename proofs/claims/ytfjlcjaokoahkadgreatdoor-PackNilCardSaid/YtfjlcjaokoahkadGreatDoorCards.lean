/-
  DERIVED. GIVEN WITH THE SEED: THE CARDS: each row of YtfjlcjaokoahkadGreatDoorRows.lean that lists a variable, with what it lists TIED to the program's text (the seventh form; the later family's looks); each row that meets fmt, with fmt's text TOLD by the authors' own Lean function (tested against real Go, not proved from fmt's source: count such statements apart). THE CARD IS WHAT COUNTS. Prove the row's statement (the work); the ties are given (YtfjlcjaokoahkadGreatDoorTie.lean); close each card by the builder's one call (the guide's Derived/Test/ToyasCard.lean, 'card_holds'). Laid BY PROGRAM, IN A SANDBOX (cutbox-door.mjs). By AI agents, Wed Nov 11 2026. No macro, syntax, notation, axiom, sorry.
-/
import Derived.Test.YtfjlcjaokoahkadGreatDoorRows
import GoSem.ClaimSeven
namespace Go.Proofs.YtfjlcjaokoahkadGreatDoor
namespace Rows

/-- THE TIED CARD OF 'calamuslaw09.PackNil'. -/
def packNilCard : Claim7 := { stood := { row := packNilRow, standIns := [], harness := (true, "f6a92cf5c8694dc00c73ef84183ef5dbbf587da141f0b92114ad8def0a1736ae"), looks := true }, kinds := [], alts := [], laidByText := true, laidKinds := [.data, .data, .data, .data, .sentinel, .sentinel, .data, .data, .pinned], laidTests := true, laidLooks := .later }
def PackNilCardSaid : Prop := Claim7.holds Tryz.pinned (.plain (OpenSpec.ofChange packNilSpec)) packNilCard

/-- THE SECOND FORM's CARD OF 'calamuslaw09.PackNil'. -/
def packNilUptoCard : Claim7 := { stood := { row := packNilUptoRow, standIns := [], harness := (true, "f6a92cf5c8694dc00c73ef84183ef5dbbf587da141f0b92114ad8def0a1736ae"), looks := true }, kinds := [], alts := [], laidByText := true, laidKinds := [.data, .data, .data, .data, .sentinel, .sentinel, .data, .data, .pinned], laidTests := true, laidLooks := .later }
def PackNilUptoCardSaid : Prop := Claim7.holds Tryz.pinned (.plain (OpenSpec.upto packNilSpec)) packNilUptoCard
end Rows
end Go.Proofs.YtfjlcjaokoahkadGreatDoor
