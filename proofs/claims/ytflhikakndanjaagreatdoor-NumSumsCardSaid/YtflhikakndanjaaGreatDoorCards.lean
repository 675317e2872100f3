/-
  DERIVED. GIVEN WITH THE SEED: THE CARDS: each row of YtflhikakndanjaaGreatDoorRows.lean that lists a variable, with what it lists TIED to the program's text (the seventh form; the later family's looks); each row that meets fmt, with fmt's text TOLD by the authors' own Lean function (tested against real Go, not proved from fmt's source: count such statements apart). THE CARD IS WHAT COUNTS. Prove the row's statement (the work); the ties are given (YtflhikakndanjaaGreatDoorTie.lean); close each card by the builder's one call (the guide's Derived/Test/ToyasCard.lean, 'card_holds'). Laid BY PROGRAM, IN A SANDBOX (cutbox-door.mjs). By AI agents, Wed Nov 11 2026. No macro, syntax, notation, axiom, sorry.
-/
import Derived.Test.YtflhikakndanjaaGreatDoorRows
import GoSem.ClaimSeven
namespace Go.Proofs.YtflhikakndanjaaGreatDoor
namespace Rows

/-- THE TIED CARD OF 'calamuslaw01.NumSums'. -/
def numSumsCard : Claim7 := { stood := { row := numSumsRow, standIns := [], harness := (true, "19a7999e070e207c02f52a0e927377418aa137bbc13a67acc14450fbb7126c6b"), looks := true }, kinds := [], alts := [], laidByText := true, laidKinds := [.data, .data, .data, .data, .sentinel, .sentinel, .pinned], laidTests := true, laidLooks := .later }
def NumSumsCardSaid : Prop := Claim7.holds Tryz.pinned (.plain (OpenSpec.ofChange numSumsSpec)) numSumsCard

/-- THE SECOND FORM's CARD OF 'calamuslaw01.NumSums'. -/
def numSumsUptoCard : Claim7 := { stood := { row := numSumsUptoRow, standIns := [], harness := (true, "19a7999e070e207c02f52a0e927377418aa137bbc13a67acc14450fbb7126c6b"), looks := true }, kinds := [], alts := [], laidByText := true, laidKinds := [.data, .data, .data, .data, .sentinel, .sentinel, .pinned], laidTests := true, laidLooks := .later }
def NumSumsUptoCardSaid : Prop := Claim7.holds Tryz.pinned (.plain (OpenSpec.upto numSumsSpec)) numSumsUptoCard
end Rows
end Go.Proofs.YtflhikakndanjaaGreatDoor
