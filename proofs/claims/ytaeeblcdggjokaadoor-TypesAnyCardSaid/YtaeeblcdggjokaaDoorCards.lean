/-
  DERIVED. GIVEN WITH THE SEED: THE CARDS: each row of YtaeeblcdggjokaaDoorRows.lean that lists a variable, with what it lists TIED to the program's text (the seventh form; the later family's looks); each row that meets fmt, with fmt's text TOLD by the authors' own Lean function (tested against real Go, not proved from fmt's source: count such statements apart). THE CARD IS WHAT COUNTS. Prove the row's statement (the work); the ties are given (YtaeeblcdggjokaaDoorTie.lean); close each card by the builder's one call (the guide's Derived/Test/ToyasCard.lean, 'card_holds'). Laid BY PROGRAM, IN A SANDBOX (cutbox-door.mjs). By AI agents, Wed Nov 11 2026. No macro, syntax, notation, axiom, sorry.
-/
import Derived.Test.YtaeeblcdggjokaaDoorRows
import GoSem.ClaimSeven
namespace Go.Proofs.YtaeeblcdggjokaaDoor
namespace Rows

/-- THE TIED CARD OF 'calamuslaw11.TypesOrders'. -/
def typesOrdersCard : Claim7 := { stood := { row := typesOrdersRow, standIns := [], harness := (true, "f63fd40b2473479ee999650c7709d8b371ba5b355b98d0d32fe7b6c344fb86dc"), looks := false }, kinds := [], alts := [], laidByText := true, laidKinds := [.data, .data, .pinned], laidTests := true, laidLooks := .later }
def TypesOrdersCardSaid : Prop := Claim7.holds Tryd.pinned (.plain (OpenSpec.ofChange typesOrdersSpec)) typesOrdersCard

/-- THE TIED CARD OF 'calamuslaw11.TypesParts'. -/
def typesPartsCard : Claim7 := { stood := { row := typesPartsRow, standIns := [], harness := (true, "f63fd40b2473479ee999650c7709d8b371ba5b355b98d0d32fe7b6c344fb86dc"), looks := false }, kinds := [], alts := [], laidByText := true, laidKinds := [.data, .data, .pinned], laidTests := true, laidLooks := .later }
def TypesPartsCardSaid : Prop := Claim7.holds Tryd.pinned (.plain (OpenSpec.ofChange typesPartsSpec)) typesPartsCard

/-- THE TIED CARD OF 'calamuslaw11.TypesThree'. -/
def typesThreeCard : Claim7 := { stood := { row := typesThreeRow, standIns := [], harness := (true, "f63fd40b2473479ee999650c7709d8b371ba5b355b98d0d32fe7b6c344fb86dc"), looks := false }, kinds := [], alts := [], laidByText := true, laidKinds := [.data, .data, .pinned], laidTests := true, laidLooks := .later }
def TypesThreeCardSaid : Prop := Claim7.holds Tryd.pinned (.plain (OpenSpec.ofChange typesThreeSpec)) typesThreeCard

/-- THE TIED CARD OF 'calamuslaw11.TypesAny'. -/
def typesAnyCard : Claim7 := { stood := { row := typesAnyRow, standIns := [], harness := (true, "f63fd40b2473479ee999650c7709d8b371ba5b355b98d0d32fe7b6c344fb86dc"), looks := false }, kinds := [], alts := [], laidByText := true, laidKinds := [.data, .data, .pinned], laidTests := true, laidLooks := .later }
def TypesAnyCardSaid : Prop := Claim7.holds Tryd.pinned (.plain (OpenSpec.ofChange typesAnySpec)) typesAnyCard

/-- THE TIED CARD OF 'calamuslaw04.ValueGrows'. -/
def valueGrowsCard : Claim7 := { stood := { row := valueGrowsRow, standIns := [], harness := (true, "f63fd40b2473479ee999650c7709d8b371ba5b355b98d0d32fe7b6c344fb86dc"), looks := false }, kinds := [], alts := [], laidByText := true, laidKinds := [.data, .pinned], laidTests := true, laidLooks := .later }
def ValueGrowsCardSaid : Prop := Claim7.holds Tryd.pinned (.plain (OpenSpec.ofChange valueGrowsSpec)) valueGrowsCard

/-- THE TIED CARD OF 'calamuslaw04.ValueThree'. -/
def valueThreeCard : Claim7 := { stood := { row := valueThreeRow, standIns := [], harness := (true, "f63fd40b2473479ee999650c7709d8b371ba5b355b98d0d32fe7b6c344fb86dc"), looks := false }, kinds := [], alts := [], laidByText := true, laidKinds := [.data, .pinned], laidTests := true, laidLooks := .later }
def ValueThreeCardSaid : Prop := Claim7.holds Tryd.pinned (.plain (OpenSpec.ofChange valueThreeSpec)) valueThreeCard

/-- THE TIED CARD OF 'calamuslaw04.ValueLists'. -/
def valueListsCard : Claim7 := { stood := { row := valueListsRow, standIns := [], harness := (true, "f63fd40b2473479ee999650c7709d8b371ba5b355b98d0d32fe7b6c344fb86dc"), looks := false }, kinds := [], alts := [], laidByText := true, laidKinds := [.data, .pinned], laidTests := true, laidLooks := .later }
def ValueListsCardSaid : Prop := Claim7.holds Tryd.pinned (.plain (OpenSpec.ofChange valueListsSpec)) valueListsCard

/-- THE SECOND FORM's CARD OF 'calamuslaw11.TypesOrders'. -/
def typesOrdersUptoCard : Claim7 := { stood := { row := typesOrdersUptoRow, standIns := [], harness := (true, "f63fd40b2473479ee999650c7709d8b371ba5b355b98d0d32fe7b6c344fb86dc"), looks := false }, kinds := [], alts := [], laidByText := true, laidKinds := [.data, .data, .pinned], laidTests := true, laidLooks := .later }
def TypesOrdersUptoCardSaid : Prop := Claim7.holds Tryd.pinned (.plain (OpenSpec.upto typesOrdersSpec)) typesOrdersUptoCard

/-- THE SECOND FORM's CARD OF 'calamuslaw11.TypesParts'. -/
def typesPartsUptoCard : Claim7 := { stood := { row := typesPartsUptoRow, standIns := [], harness := (true, "f63fd40b2473479ee999650c7709d8b371ba5b355b98d0d32fe7b6c344fb86dc"), looks := false }, kinds := [], alts := [], laidByText := true, laidKinds := [.data, .data, .pinned], laidTests := true, laidLooks := .later }
def TypesPartsUptoCardSaid : Prop := Claim7.holds Tryd.pinned (.plain (OpenSpec.upto typesPartsSpec)) typesPartsUptoCard

/-- THE SECOND FORM's CARD OF 'calamuslaw11.TypesThree'. -/
def typesThreeUptoCard : Claim7 := { stood := { row := typesThreeUptoRow, standIns := [], harness := (true, "f63fd40b2473479ee999650c7709d8b371ba5b355b98d0d32fe7b6c344fb86dc"), looks := false }, kinds := [], alts := [], laidByText := true, laidKinds := [.data, .data, .pinned], laidTests := true, laidLooks := .later }
def TypesThreeUptoCardSaid : Prop := Claim7.holds Tryd.pinned (.plain (OpenSpec.upto typesThreeSpec)) typesThreeUptoCard

/-- THE SECOND FORM's CARD OF 'calamuslaw11.TypesAny'. -/
def typesAnyUptoCard : Claim7 := { stood := { row := typesAnyUptoRow, standIns := [], harness := (true, "f63fd40b2473479ee999650c7709d8b371ba5b355b98d0d32fe7b6c344fb86dc"), looks := false }, kinds := [], alts := [], laidByText := true, laidKinds := [.data, .data, .pinned], laidTests := true, laidLooks := .later }
def TypesAnyUptoCardSaid : Prop := Claim7.holds Tryd.pinned (.plain (OpenSpec.upto typesAnySpec)) typesAnyUptoCard

/-- THE SECOND FORM's CARD OF 'calamuslaw04.ValueGrows'. -/
def valueGrowsUptoCard : Claim7 := { stood := { row := valueGrowsUptoRow, standIns := [], harness := (true, "f63fd40b2473479ee999650c7709d8b371ba5b355b98d0d32fe7b6c344fb86dc"), looks := false }, kinds := [], alts := [], laidByText := true, laidKinds := [.data, .pinned], laidTests := true, laidLooks := .later }
def ValueGrowsUptoCardSaid : Prop := Claim7.holds Tryd.pinned (.plain (OpenSpec.upto valueGrowsSpec)) valueGrowsUptoCard

/-- THE SECOND FORM's CARD OF 'calamuslaw04.ValueThree'. -/
def valueThreeUptoCard : Claim7 := { stood := { row := valueThreeUptoRow, standIns := [], harness := (true, "f63fd40b2473479ee999650c7709d8b371ba5b355b98d0d32fe7b6c344fb86dc"), looks := false }, kinds := [], alts := [], laidByText := true, laidKinds := [.data, .pinned], laidTests := true, laidLooks := .later }
def ValueThreeUptoCardSaid : Prop := Claim7.holds Tryd.pinned (.plain (OpenSpec.upto valueThreeSpec)) valueThreeUptoCard

/-- THE SECOND FORM's CARD OF 'calamuslaw04.ValueLists'. -/
def valueListsUptoCard : Claim7 := { stood := { row := valueListsUptoRow, standIns := [], harness := (true, "f63fd40b2473479ee999650c7709d8b371ba5b355b98d0d32fe7b6c344fb86dc"), looks := false }, kinds := [], alts := [], laidByText := true, laidKinds := [.data, .pinned], laidTests := true, laidLooks := .later }
def ValueListsUptoCardSaid : Prop := Claim7.holds Tryd.pinned (.plain (OpenSpec.upto valueListsSpec)) valueListsUptoCard
end Rows
end Go.Proofs.YtaeeblcdggjokaaDoor
