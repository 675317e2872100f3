/-
  DERIVED. GIVEN WITH THE SEED: THE CARDS: each row of YtgihdhpcleambabDoorRows.lean that lists a variable, with what it lists TIED to the program's text (the seventh form; the later family's looks); each row that meets fmt, with fmt's text TOLD by the authors' own Lean function (tested against real Go, not proved from fmt's source: count such statements apart). THE CARD IS WHAT COUNTS. Prove the row's statement (the work); the ties are given (YtgihdhpcleambabDoorTie.lean); close each card by the builder's one call (the guide's Derived/Test/ToyasCard.lean, 'card_holds'). Laid BY PROGRAM, IN A SANDBOX (cutbox-door.mjs). By AI agents, Wed Nov 11 2026. No macro, syntax, notation, axiom, sorry.
-/
import Derived.Test.YtgihdhpcleambabDoorRows
import GoSem.ClaimSeven
namespace Go.Proofs.YtgihdhpcleambabDoor
namespace Rows

/-- THE TIED CARD OF 'calamuslaw01.NumSmall'. -/
def numSmallCard : Claim7 := { stood := { row := numSmallRow, standIns := [], harness := (true, "3268de5aa7d2de7cb5cc0f6217e1bcdd925fb5223db9739d8c846f31afbf79e7"), looks := true }, kinds := [], alts := [], laidByText := true, laidKinds := [.data, .data, .data, .data, .sentinel, .sentinel, .pinned], laidTests := true, laidLooks := .later }
def NumSmallCardSaid : Prop := Claim7.holds Tryd.pinned (.plain (OpenSpec.ofChange numSmallSpec)) numSmallCard

/-- THE SECOND FORM's CARD OF 'calamuslaw01.NumSmall'. -/
def numSmallUptoCard : Claim7 := { stood := { row := numSmallUptoRow, standIns := [], harness := (true, "3268de5aa7d2de7cb5cc0f6217e1bcdd925fb5223db9739d8c846f31afbf79e7"), looks := true }, kinds := [], alts := [], laidByText := true, laidKinds := [.data, .data, .data, .data, .sentinel, .sentinel, .pinned], laidTests := true, laidLooks := .later }
def NumSmallUptoCardSaid : Prop := Claim7.holds Tryd.pinned (.plain (OpenSpec.upto numSmallSpec)) numSmallUptoCard
end Rows
end Go.Proofs.YtgihdhpcleambabDoor
