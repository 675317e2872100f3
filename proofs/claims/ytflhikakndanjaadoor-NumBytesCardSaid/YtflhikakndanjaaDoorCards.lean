/-
  DERIVED. GIVEN WITH THE SEED: THE CARDS: each row of YtflhikakndanjaaDoorRows.lean that lists a variable, with what it lists TIED to the program's text (the seventh form; the later family's looks); each row that meets fmt, with fmt's text TOLD by the authors' own Lean function (tested against real Go, not proved from fmt's source: count such statements apart). THE CARD IS WHAT COUNTS. Prove the row's statement (the work); the ties are given (YtflhikakndanjaaDoorTie.lean); close each card by the builder's one call (the guide's Derived/Test/ToyasCard.lean, 'card_holds'). Laid BY PROGRAM, IN A SANDBOX (cutbox-door.mjs). By AI agents, Wed Nov 11 2026. No macro, syntax, notation, axiom, sorry.
-/
import Derived.Test.YtflhikakndanjaaDoorRows
import GoSem.ClaimSeven
namespace Go.Proofs.YtflhikakndanjaaDoor
namespace Rows

/-- THE TIED CARD OF 'calamuslaw05.EventFlattens'. -/
def eventFlattensCard : Claim7 := { stood := { row := eventFlattensRow, standIns := [], harness := (true, "8f2d9f78f2de97233e80844e41084fa6d139a57881c36b8fa56500844901c8a9"), looks := true }, kinds := [], alts := [], laidByText := true, laidKinds := [.data, .pinned], laidTests := true, laidLooks := .later }
def EventFlattensCardSaid : Prop := Claim7.holds Tryd.pinned (.plain (OpenSpec.ofChange eventFlattensSpec)) eventFlattensCard

/-- THE TIED CARD OF 'calamuslaw05.EventBuilds'. -/
def eventBuildsCard : Claim7 := { stood := { row := eventBuildsRow, standIns := [], harness := (true, "8f2d9f78f2de97233e80844e41084fa6d139a57881c36b8fa56500844901c8a9"), looks := true }, kinds := [], alts := [], laidByText := true, laidKinds := [.data, .pinned], laidTests := true, laidLooks := .later }
def EventBuildsCardSaid : Prop := Claim7.holds Tryd.pinned (.plain (OpenSpec.ofChange eventBuildsSpec)) eventBuildsCard

/-- THE TIED CARD OF 'calamuslaw05.EventChecks'. -/
def eventChecksCard : Claim7 := { stood := { row := eventChecksRow, standIns := [], harness := (true, "8f2d9f78f2de97233e80844e41084fa6d139a57881c36b8fa56500844901c8a9"), looks := true }, kinds := [], alts := [], laidByText := true, laidKinds := [.data, .pinned], laidTests := true, laidLooks := .later }
def EventChecksCardSaid : Prop := Claim7.holds Tryd.pinned (.plain (OpenSpec.ofChange eventChecksSpec)) eventChecksCard

/-- THE TIED CARD OF 'calamuslaw05.EventRound'. -/
def eventRoundCard : Claim7 := { stood := { row := eventRoundRow, standIns := [], harness := (true, "8f2d9f78f2de97233e80844e41084fa6d139a57881c36b8fa56500844901c8a9"), looks := true }, kinds := [], alts := [], laidByText := true, laidKinds := [.data, .pinned], laidTests := true, laidLooks := .later }
def EventRoundCardSaid : Prop := Claim7.holds Tryd.pinned (.plain (OpenSpec.ofChange eventRoundSpec)) eventRoundCard

/-- THE TIED CARD OF 'calamuslaw05.EventLists'. -/
def eventListsCard : Claim7 := { stood := { row := eventListsRow, standIns := [], harness := (true, "8f2d9f78f2de97233e80844e41084fa6d139a57881c36b8fa56500844901c8a9"), looks := true }, kinds := [], alts := [], laidByText := true, laidKinds := [.data, .pinned], laidTests := true, laidLooks := .later }
def EventListsCardSaid : Prop := Claim7.holds Tryd.pinned (.plain (OpenSpec.ofChange eventListsSpec)) eventListsCard

/-- THE TIED CARD OF 'calamuslaw11.TypesOrders'. -/
def typesOrdersCard : Claim7 := { stood := { row := typesOrdersRow, standIns := [], harness := (true, "8f2d9f78f2de97233e80844e41084fa6d139a57881c36b8fa56500844901c8a9"), looks := true }, kinds := [], alts := [], laidByText := true, laidKinds := [.data, .data, .pinned], laidTests := true, laidLooks := .later }
def TypesOrdersCardSaid : Prop := Claim7.holds Tryd.pinned (.plain (OpenSpec.ofChange typesOrdersSpec)) typesOrdersCard

/-- THE TIED CARD OF 'calamuslaw11.TypesThree'. -/
def typesThreeCard : Claim7 := { stood := { row := typesThreeRow, standIns := [], harness := (true, "8f2d9f78f2de97233e80844e41084fa6d139a57881c36b8fa56500844901c8a9"), looks := true }, kinds := [], alts := [], laidByText := true, laidKinds := [.data, .data, .pinned], laidTests := true, laidLooks := .later }
def TypesThreeCardSaid : Prop := Claim7.holds Tryd.pinned (.plain (OpenSpec.ofChange typesThreeSpec)) typesThreeCard

/-- THE TIED CARD OF 'calamuslaw01.NumTexts'. -/
def numTextsCard : Claim7 := { stood := { row := numTextsRow, standIns := [], harness := (true, "8f2d9f78f2de97233e80844e41084fa6d139a57881c36b8fa56500844901c8a9"), looks := true }, kinds := [], alts := [], laidByText := true, laidKinds := [.data, .data, .data, .data, .sentinel, .sentinel, .pinned], laidTests := true, laidLooks := .later }
def NumTextsCardSaid : Prop := Claim7.holds Tryd.pinned (.plain (OpenSpec.ofChange numTextsSpec)) numTextsCard

/-- THE TIED CARD OF 'calamuslaw01.NumRound'. -/
def numRoundCard : Claim7 := { stood := { row := numRoundRow, standIns := [], harness := (true, "8f2d9f78f2de97233e80844e41084fa6d139a57881c36b8fa56500844901c8a9"), looks := true }, kinds := [], alts := [], laidByText := true, laidKinds := [.data, .data, .data, .data, .sentinel, .sentinel, .pinned], laidTests := true, laidLooks := .later }
def NumRoundCardSaid : Prop := Claim7.holds Tryd.pinned (.plain (OpenSpec.ofChange numRoundSpec)) numRoundCard

/-- THE TIED CARD OF 'calamuslaw01.NumBytes'. -/
def numBytesCard : Claim7 := { stood := { row := numBytesRow, standIns := [], harness := (true, "8f2d9f78f2de97233e80844e41084fa6d139a57881c36b8fa56500844901c8a9"), looks := true }, kinds := [], alts := [], laidByText := true, laidKinds := [.data, .data, .data, .data, .sentinel, .sentinel, .pinned], laidTests := true, laidLooks := .later }
def NumBytesCardSaid : Prop := Claim7.holds Tryd.pinned (.plain (OpenSpec.ofChange numBytesSpec)) numBytesCard

/-- THE SECOND FORM's CARD OF 'calamuslaw05.EventFlattens'. -/
def eventFlattensUptoCard : Claim7 := { stood := { row := eventFlattensUptoRow, standIns := [], harness := (true, "8f2d9f78f2de97233e80844e41084fa6d139a57881c36b8fa56500844901c8a9"), looks := true }, kinds := [], alts := [], laidByText := true, laidKinds := [.data, .pinned], laidTests := true, laidLooks := .later }
def EventFlattensUptoCardSaid : Prop := Claim7.holds Tryd.pinned (.plain (OpenSpec.upto eventFlattensSpec)) eventFlattensUptoCard

/-- THE SECOND FORM's CARD OF 'calamuslaw05.EventBuilds'. -/
def eventBuildsUptoCard : Claim7 := { stood := { row := eventBuildsUptoRow, standIns := [], harness := (true, "8f2d9f78f2de97233e80844e41084fa6d139a57881c36b8fa56500844901c8a9"), looks := true }, kinds := [], alts := [], laidByText := true, laidKinds := [.data, .pinned], laidTests := true, laidLooks := .later }
def EventBuildsUptoCardSaid : Prop := Claim7.holds Tryd.pinned (.plain (OpenSpec.upto eventBuildsSpec)) eventBuildsUptoCard

/-- THE SECOND FORM's CARD OF 'calamuslaw05.EventChecks'. -/
def eventChecksUptoCard : Claim7 := { stood := { row := eventChecksUptoRow, standIns := [], harness := (true, "8f2d9f78f2de97233e80844e41084fa6d139a57881c36b8fa56500844901c8a9"), looks := true }, kinds := [], alts := [], laidByText := true, laidKinds := [.data, .pinned], laidTests := true, laidLooks := .later }
def EventChecksUptoCardSaid : Prop := Claim7.holds Tryd.pinned (.plain (OpenSpec.upto eventChecksSpec)) eventChecksUptoCard

/-- THE SECOND FORM's CARD OF 'calamuslaw05.EventRound'. -/
def eventRoundUptoCard : Claim7 := { stood := { row := eventRoundUptoRow, standIns := [], harness := (true, "8f2d9f78f2de97233e80844e41084fa6d139a57881c36b8fa56500844901c8a9"), looks := true }, kinds := [], alts := [], laidByText := true, laidKinds := [.data, .pinned], laidTests := true, laidLooks := .later }
def EventRoundUptoCardSaid : Prop := Claim7.holds Tryd.pinned (.plain (OpenSpec.upto eventRoundSpec)) eventRoundUptoCard

/-- THE SECOND FORM's CARD OF 'calamuslaw05.EventLists'. -/
def eventListsUptoCard : Claim7 := { stood := { row := eventListsUptoRow, standIns := [], harness := (true, "8f2d9f78f2de97233e80844e41084fa6d139a57881c36b8fa56500844901c8a9"), looks := true }, kinds := [], alts := [], laidByText := true, laidKinds := [.data, .pinned], laidTests := true, laidLooks := .later }
def EventListsUptoCardSaid : Prop := Claim7.holds Tryd.pinned (.plain (OpenSpec.upto eventListsSpec)) eventListsUptoCard

/-- THE SECOND FORM's CARD OF 'calamuslaw11.TypesOrders'. -/
def typesOrdersUptoCard : Claim7 := { stood := { row := typesOrdersUptoRow, standIns := [], harness := (true, "8f2d9f78f2de97233e80844e41084fa6d139a57881c36b8fa56500844901c8a9"), looks := true }, kinds := [], alts := [], laidByText := true, laidKinds := [.data, .data, .pinned], laidTests := true, laidLooks := .later }
def TypesOrdersUptoCardSaid : Prop := Claim7.holds Tryd.pinned (.plain (OpenSpec.upto typesOrdersSpec)) typesOrdersUptoCard

/-- THE SECOND FORM's CARD OF 'calamuslaw11.TypesThree'. -/
def typesThreeUptoCard : Claim7 := { stood := { row := typesThreeUptoRow, standIns := [], harness := (true, "8f2d9f78f2de97233e80844e41084fa6d139a57881c36b8fa56500844901c8a9"), looks := true }, kinds := [], alts := [], laidByText := true, laidKinds := [.data, .data, .pinned], laidTests := true, laidLooks := .later }
def TypesThreeUptoCardSaid : Prop := Claim7.holds Tryd.pinned (.plain (OpenSpec.upto typesThreeSpec)) typesThreeUptoCard

/-- THE SECOND FORM's CARD OF 'calamuslaw01.NumTexts'. -/
def numTextsUptoCard : Claim7 := { stood := { row := numTextsUptoRow, standIns := [], harness := (true, "8f2d9f78f2de97233e80844e41084fa6d139a57881c36b8fa56500844901c8a9"), looks := true }, kinds := [], alts := [], laidByText := true, laidKinds := [.data, .data, .data, .data, .sentinel, .sentinel, .pinned], laidTests := true, laidLooks := .later }
def NumTextsUptoCardSaid : Prop := Claim7.holds Tryd.pinned (.plain (OpenSpec.upto numTextsSpec)) numTextsUptoCard

/-- THE SECOND FORM's CARD OF 'calamuslaw01.NumRound'. -/
def numRoundUptoCard : Claim7 := { stood := { row := numRoundUptoRow, standIns := [], harness := (true, "8f2d9f78f2de97233e80844e41084fa6d139a57881c36b8fa56500844901c8a9"), looks := true }, kinds := [], alts := [], laidByText := true, laidKinds := [.data, .data, .data, .data, .sentinel, .sentinel, .pinned], laidTests := true, laidLooks := .later }
def NumRoundUptoCardSaid : Prop := Claim7.holds Tryd.pinned (.plain (OpenSpec.upto numRoundSpec)) numRoundUptoCard

/-- THE SECOND FORM's CARD OF 'calamuslaw01.NumBytes'. -/
def numBytesUptoCard : Claim7 := { stood := { row := numBytesUptoRow, standIns := [], harness := (true, "8f2d9f78f2de97233e80844e41084fa6d139a57881c36b8fa56500844901c8a9"), looks := true }, kinds := [], alts := [], laidByText := true, laidKinds := [.data, .data, .data, .data, .sentinel, .sentinel, .pinned], laidTests := true, laidLooks := .later }
def NumBytesUptoCardSaid : Prop := Claim7.holds Tryd.pinned (.plain (OpenSpec.upto numBytesSpec)) numBytesUptoCard
end Rows
end Go.Proofs.YtflhikakndanjaaDoor
