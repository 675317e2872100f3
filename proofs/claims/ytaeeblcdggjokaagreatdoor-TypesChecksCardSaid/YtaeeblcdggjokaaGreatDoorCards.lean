/-
  DERIVED. GIVEN WITH THE SEED: THE CARDS: each row of YtaeeblcdggjokaaGreatDoorRows.lean that lists a variable, with what it lists TIED to the program's text (the seventh form; the later family's looks); each row that meets fmt, with fmt's text TOLD by the authors' own Lean function (tested against real Go, not proved from fmt's source: count such statements apart). THE CARD IS WHAT COUNTS. Prove the row's statement (the work); the ties are given (YtaeeblcdggjokaaGreatDoorTie.lean); close each card by the builder's one call (the guide's Derived/Test/ToyasCard.lean, 'card_holds'). Laid BY PROGRAM, IN A SANDBOX (cutbox-door.mjs). By AI agents, Wed Nov 11 2026. No macro, syntax, notation, axiom, sorry.
-/
import Derived.Test.YtaeeblcdggjokaaGreatDoorRows
import GoSem.ClaimSeven
namespace Go.Proofs.YtaeeblcdggjokaaGreatDoor
namespace Rows

/-- THE TIED CARD OF 'calamuslaw11.TypesChecks'. -/
def typesChecksCard : Claim7 := { stood := { row := typesChecksRow, standIns := [], harness := (true, "1583514001a73b37037827bee5e07e0f09fcb60664c377c2d0358f560ef74381"), looks := false }, kinds := [], alts := [], laidByText := true, laidKinds := [.data, .data, .pinned], laidTests := true, laidLooks := .later }
def TypesChecksCardSaid : Prop := Claim7.holds Tryz.pinned (.plain (OpenSpec.ofChange typesChecksSpec)) typesChecksCard

/-- THE TIED CARD OF 'calamuslaw04.ValueChecks'. -/
def valueChecksCard : Claim7 := { stood := { row := valueChecksRow, standIns := [], harness := (true, "1583514001a73b37037827bee5e07e0f09fcb60664c377c2d0358f560ef74381"), looks := false }, kinds := [], alts := [], laidByText := true, laidKinds := [.data, .pinned], laidTests := true, laidLooks := .later }
def ValueChecksCardSaid : Prop := Claim7.holds Tryz.pinned (.plain (OpenSpec.ofChange valueChecksSpec)) valueChecksCard

/-- THE TIED CARD OF 'calamuslaw04.ValueOrders'. -/
def valueOrdersCard : Claim7 := { stood := { row := valueOrdersRow, standIns := [], harness := (true, "1583514001a73b37037827bee5e07e0f09fcb60664c377c2d0358f560ef74381"), looks := false }, kinds := [], alts := [], laidByText := true, laidKinds := [.data, .pinned], laidTests := true, laidLooks := .later }
def ValueOrdersCardSaid : Prop := Claim7.holds Tryz.pinned (.plain (OpenSpec.ofChange valueOrdersSpec)) valueOrdersCard

/-- THE SECOND FORM's CARD OF 'calamuslaw11.TypesChecks'. -/
def typesChecksUptoCard : Claim7 := { stood := { row := typesChecksUptoRow, standIns := [], harness := (true, "1583514001a73b37037827bee5e07e0f09fcb60664c377c2d0358f560ef74381"), looks := false }, kinds := [], alts := [], laidByText := true, laidKinds := [.data, .data, .pinned], laidTests := true, laidLooks := .later }
def TypesChecksUptoCardSaid : Prop := Claim7.holds Tryz.pinned (.plain (OpenSpec.upto typesChecksSpec)) typesChecksUptoCard

/-- THE SECOND FORM's CARD OF 'calamuslaw04.ValueChecks'. -/
def valueChecksUptoCard : Claim7 := { stood := { row := valueChecksUptoRow, standIns := [], harness := (true, "1583514001a73b37037827bee5e07e0f09fcb60664c377c2d0358f560ef74381"), looks := false }, kinds := [], alts := [], laidByText := true, laidKinds := [.data, .pinned], laidTests := true, laidLooks := .later }
def ValueChecksUptoCardSaid : Prop := Claim7.holds Tryz.pinned (.plain (OpenSpec.upto valueChecksSpec)) valueChecksUptoCard

/-- THE SECOND FORM's CARD OF 'calamuslaw04.ValueOrders'. -/
def valueOrdersUptoCard : Claim7 := { stood := { row := valueOrdersUptoRow, standIns := [], harness := (true, "1583514001a73b37037827bee5e07e0f09fcb60664c377c2d0358f560ef74381"), looks := false }, kinds := [], alts := [], laidByText := true, laidKinds := [.data, .pinned], laidTests := true, laidLooks := .later }
def ValueOrdersUptoCardSaid : Prop := Claim7.holds Tryz.pinned (.plain (OpenSpec.upto valueOrdersSpec)) valueOrdersUptoCard
end Rows
end Go.Proofs.YtaeeblcdggjokaaGreatDoor
