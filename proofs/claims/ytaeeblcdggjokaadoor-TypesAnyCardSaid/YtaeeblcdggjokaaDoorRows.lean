/-
  NARROWER THAN 'FOR EVERY INPUT', by the rows' own cells (each row's printed sentence says how): TypesOrders: loops, laid · TypesParts: loops, laid · TypesThree: loops, laid · TypesAny: loops, laid · ValueGrows: loops, laid · ValueThree: loops, laid · ValueLists: loops, laid.
  DERIVED. THE GIVEN ROWS OF THIS SEAT. 7 by the template 'for every input the law returns true; each argument reads behind the call as it read before'; 0 by the template 'total and deterministic' (their statements: YtaeeblcdggjokaaDoorTotals.lean).
  GIVEN WITH THE SEED: the statements are not yours to turn. If you find one false, say at which input.
  Laid BY PROGRAM, IN A SANDBOX (cutbox-rows.mjs): the forced cells as the released guide's own fill.sh prints them over the translation 12803f3cbb75816c… (all of the seat's roots in one cut). By AI agents, Wed Nov 11 2026. No macro, syntax, notation, axiom, sorry.
-/
import Derived.Test.YtaeeblcdggjokaaDoorChecked
import GoSem.PinnedTables
import GoSem.Claim
import GoSem.ClaimJoined
import GoSem.ClaimMapViews
import Derived.JoinedTies
import Derived.KernelRfl
namespace Go.Proofs.YtaeeblcdggjokaaDoor
/- THE CELL 'sum', in the pinned program and in every row, IS THE sha256 OF THE DUMP (.gsa) THAT YtaeeblcdggjokaaDoorProg.lean LOADS. Nothing in Lean hashes anything: it is a label: what it is worth is what the hold of that sum in a sandbox is worth. -/
noncomputable def Tryd.pinned : Pinned := { name := "ytaeeblcdggjokaadoor", sum := "12803f3cbb75816c4c2a84ab9c1323e21f317b47ceddcc8a65443687aab0f13b", checked := Tryd.checked }
namespace Rows
def none {H : Type} : Left H := { results := [], args := [] }

/- WHAT THE LISTED PACKAGE-LEVEL VARIABLES READ AS WHEN THE CALL BEGINS. Each datum BY PROGRAM (the guide's laid-datum.mjs) off the statement by which the dump's own 'gosem.cut.vars' lays the variable. In a bare row this is a premise. The card (YtaeeblcdggjokaaDoorCards.lean) ties it to the program's text. -/
def laid_unicode_utf8_acceptRanges {H : Type} : DataW H := .agg [.agg [.lit (.int .u8 128), .lit (.int .u8 191)], .agg [.lit (.int .u8 160), .lit (.int .u8 191)], .agg [.lit (.int .u8 128), .lit (.int .u8 159)], .agg [.lit (.int .u8 144), .lit (.int .u8 191)], .agg [.lit (.int .u8 128), .lit (.int .u8 143)], .agg [.lit (.int .u8 0), .lit (.int .u8 0)], .agg [.lit (.int .u8 0), .lit (.int .u8 0)], .agg [.lit (.int .u8 0), .lit (.int .u8 0)], .agg [.lit (.int .u8 0), .lit (.int .u8 0)], .agg [.lit (.int .u8 0), .lit (.int .u8 0)], .agg [.lit (.int .u8 0), .lit (.int .u8 0)], .agg [.lit (.int .u8 0), .lit (.int .u8 0)], .agg [.lit (.int .u8 0), .lit (.int .u8 0)], .agg [.lit (.int .u8 0), .lit (.int .u8 0)], .agg [.lit (.int .u8 0), .lit (.int .u8 0)], .agg [.lit (.int .u8 0), .lit (.int .u8 0)]]
def laid_calamus_types_kinds {H : Type} : DataW H := .agg [.lit (.int .i64 0), .lit (.int .i64 0), .lit (.int .i64 1), .lit (.int .i64 2), .lit (.int .i64 3), .lit (.int .i64 3), .lit (.int .i64 4), .lit (.int .i64 5), .lit (.int .i64 6)]
/-- One of Go's own tables, pinned by name: the form's constant. -/
def laid_unicode_utf8_first : DataW Unit := Go.Pinned.utf8First

/-- 'calamuslaw11.TypesOrders': WHATEVER THE INPUT: true; the input reads as it did. -/
def typesOrdersSpec : ChangeSpec := { name := "typesOrders", fn := fun _ => fun
  | [d1, d2] => { results := [.lit (.bool true)], args := [d1, d2] }
  | _ => none }
def typesOrdersRow : OpenClaim := { program := "ytaeeblcdggjokaadoor", sum := "12803f3cbb75816c4c2a84ab9c1323e21f317b47ceddcc8a65443687aab0f13b", func := "calamus/calamuslaw11.TypesOrders", spec := "typesOrders", inPlace := ["internal/bytealg.IndexByteString", "internal/bytealg.IndexString"], unfollowed := true, recurses := true, named := ["unicode/utf8.first", "unicode/utf8.acceptRanges", "calamus/types.kinds", "internal/bytealg.MaxLen"], loops := true, apart := false, laid := [("unicode/utf8.acceptRanges", laid_unicode_utf8_acceptRanges), ("calamus/types.kinds", laid_calamus_types_kinds), ("unicode/utf8.first", laid_unicode_utf8_first)] }
def TypesOrdersSaid : Prop := typesOrdersRow.holds Tryd.pinned (OpenSpec.ofChange typesOrdersSpec)

/-- ITS FALSE NEIGHBOUR: 'it returns false'. Refute it at one input. -/
def typesOrdersWrong : ChangeSpec := { name := "typesOrders", fn := fun _ => fun
  | [d1, d2] => { results := [.lit (.bool false)], args := [d1, d2] }
  | _ => none }
def TypesOrdersWrongFalsely : Prop := typesOrdersRow.holds Tryd.pinned (OpenSpec.ofChange typesOrdersWrong)

/-- 'calamuslaw11.TypesParts': WHATEVER THE INPUT: true; the input reads as it did. -/
def typesPartsSpec : ChangeSpec := { name := "typesParts", fn := fun _ => fun
  | [d1, d2, d3] => { results := [.lit (.bool true)], args := [d1, d2, d3] }
  | _ => none }
def typesPartsRow : OpenClaim := { program := "ytaeeblcdggjokaadoor", sum := "12803f3cbb75816c4c2a84ab9c1323e21f317b47ceddcc8a65443687aab0f13b", func := "calamus/calamuslaw11.TypesParts", spec := "typesParts", inPlace := ["internal/bytealg.IndexByteString", "internal/bytealg.IndexString"], unfollowed := true, recurses := true, named := ["unicode/utf8.first", "unicode/utf8.acceptRanges", "calamus/types.kinds", "internal/bytealg.MaxLen"], loops := true, apart := false, laid := [("unicode/utf8.acceptRanges", laid_unicode_utf8_acceptRanges), ("calamus/types.kinds", laid_calamus_types_kinds), ("unicode/utf8.first", laid_unicode_utf8_first)] }
def TypesPartsSaid : Prop := typesPartsRow.holds Tryd.pinned (OpenSpec.ofChange typesPartsSpec)

/-- ITS FALSE NEIGHBOUR: 'it returns false'. Refute it at one input. -/
def typesPartsWrong : ChangeSpec := { name := "typesParts", fn := fun _ => fun
  | [d1, d2, d3] => { results := [.lit (.bool false)], args := [d1, d2, d3] }
  | _ => none }
def TypesPartsWrongFalsely : Prop := typesPartsRow.holds Tryd.pinned (OpenSpec.ofChange typesPartsWrong)

/-- 'calamuslaw11.TypesThree': WHATEVER THE INPUT: true; the input reads as it did. -/
def typesThreeSpec : ChangeSpec := { name := "typesThree", fn := fun _ => fun
  | [d1, d2, d3] => { results := [.lit (.bool true)], args := [d1, d2, d3] }
  | _ => none }
def typesThreeRow : OpenClaim := { program := "ytaeeblcdggjokaadoor", sum := "12803f3cbb75816c4c2a84ab9c1323e21f317b47ceddcc8a65443687aab0f13b", func := "calamus/calamuslaw11.TypesThree", spec := "typesThree", inPlace := ["internal/bytealg.IndexByteString", "internal/bytealg.IndexString"], unfollowed := true, recurses := true, named := ["unicode/utf8.first", "unicode/utf8.acceptRanges", "calamus/types.kinds", "internal/bytealg.MaxLen"], loops := true, apart := false, laid := [("unicode/utf8.acceptRanges", laid_unicode_utf8_acceptRanges), ("calamus/types.kinds", laid_calamus_types_kinds), ("unicode/utf8.first", laid_unicode_utf8_first)] }
def TypesThreeSaid : Prop := typesThreeRow.holds Tryd.pinned (OpenSpec.ofChange typesThreeSpec)

/-- ITS FALSE NEIGHBOUR: 'it returns false'. Refute it at one input. -/
def typesThreeWrong : ChangeSpec := { name := "typesThree", fn := fun _ => fun
  | [d1, d2, d3] => { results := [.lit (.bool false)], args := [d1, d2, d3] }
  | _ => none }
def TypesThreeWrongFalsely : Prop := typesThreeRow.holds Tryd.pinned (OpenSpec.ofChange typesThreeWrong)

/-- 'calamuslaw11.TypesAny': WHATEVER THE INPUT: true; the input reads as it did. -/
def typesAnySpec : ChangeSpec := { name := "typesAny", fn := fun _ => fun
  | [d1, d2] => { results := [.lit (.bool true)], args := [d1, d2] }
  | _ => none }
def typesAnyRow : OpenClaim := { program := "ytaeeblcdggjokaadoor", sum := "12803f3cbb75816c4c2a84ab9c1323e21f317b47ceddcc8a65443687aab0f13b", func := "calamus/calamuslaw11.TypesAny", spec := "typesAny", inPlace := ["internal/bytealg.IndexByteString", "internal/bytealg.IndexString"], unfollowed := true, recurses := true, named := ["unicode/utf8.first", "unicode/utf8.acceptRanges", "calamus/types.kinds", "internal/bytealg.MaxLen"], loops := true, apart := false, laid := [("unicode/utf8.acceptRanges", laid_unicode_utf8_acceptRanges), ("calamus/types.kinds", laid_calamus_types_kinds), ("unicode/utf8.first", laid_unicode_utf8_first)] }
def TypesAnySaid : Prop := typesAnyRow.holds Tryd.pinned (OpenSpec.ofChange typesAnySpec)

/-- ITS FALSE NEIGHBOUR: 'it returns false'. Refute it at one input. -/
def typesAnyWrong : ChangeSpec := { name := "typesAny", fn := fun _ => fun
  | [d1, d2] => { results := [.lit (.bool false)], args := [d1, d2] }
  | _ => none }
def TypesAnyWrongFalsely : Prop := typesAnyRow.holds Tryd.pinned (OpenSpec.ofChange typesAnyWrong)

/-- 'calamuslaw04.ValueGrows': WHATEVER THE INPUT: true; the input reads as it did. -/
def valueGrowsSpec : ChangeSpec := { name := "valueGrows", fn := fun _ => fun
  | [d] => { results := [.lit (.bool true)], args := [d] }
  | _ => none }
def valueGrowsRow : OpenClaim := { program := "ytaeeblcdggjokaadoor", sum := "12803f3cbb75816c4c2a84ab9c1323e21f317b47ceddcc8a65443687aab0f13b", func := "calamus/calamuslaw04.ValueGrows", spec := "valueGrows", inPlace := ["internal/bytealg.IndexByteString", "internal/bytealg.IndexString", "internal/abi.NoEscape", "internal/bytealg.MakeNoZero", "internal/bytealg.abigen_runtime_cmpstring"], unfollowed := true, recurses := true, named := ["unicode/utf8.first", "unicode/utf8.acceptRanges", "internal/bytealg.MaxLen"], loops := true, apart := false, laid := [("unicode/utf8.acceptRanges", laid_unicode_utf8_acceptRanges), ("unicode/utf8.first", laid_unicode_utf8_first)] }
def ValueGrowsSaid : Prop := valueGrowsRow.holds Tryd.pinned (OpenSpec.ofChange valueGrowsSpec)

/-- ITS FALSE NEIGHBOUR: 'it returns false'. Refute it at one input. -/
def valueGrowsWrong : ChangeSpec := { name := "valueGrows", fn := fun _ => fun
  | [d] => { results := [.lit (.bool false)], args := [d] }
  | _ => none }
def ValueGrowsWrongFalsely : Prop := valueGrowsRow.holds Tryd.pinned (OpenSpec.ofChange valueGrowsWrong)

/-- 'calamuslaw04.ValueThree': WHATEVER THE INPUT: true; the input reads as it did. -/
def valueThreeSpec : ChangeSpec := { name := "valueThree", fn := fun _ => fun
  | [d1, d2, d3] => { results := [.lit (.bool true)], args := [d1, d2, d3] }
  | _ => none }
def valueThreeRow : OpenClaim := { program := "ytaeeblcdggjokaadoor", sum := "12803f3cbb75816c4c2a84ab9c1323e21f317b47ceddcc8a65443687aab0f13b", func := "calamus/calamuslaw04.ValueThree", spec := "valueThree", inPlace := ["internal/bytealg.IndexByteString", "internal/bytealg.IndexString", "internal/abi.NoEscape", "internal/bytealg.MakeNoZero", "internal/bytealg.abigen_runtime_cmpstring"], unfollowed := true, recurses := true, named := ["unicode/utf8.first", "unicode/utf8.acceptRanges", "internal/bytealg.MaxLen"], loops := true, apart := false, laid := [("unicode/utf8.acceptRanges", laid_unicode_utf8_acceptRanges), ("unicode/utf8.first", laid_unicode_utf8_first)] }
def ValueThreeSaid : Prop := valueThreeRow.holds Tryd.pinned (OpenSpec.ofChange valueThreeSpec)

/-- ITS FALSE NEIGHBOUR: 'it returns false'. Refute it at one input. -/
def valueThreeWrong : ChangeSpec := { name := "valueThree", fn := fun _ => fun
  | [d1, d2, d3] => { results := [.lit (.bool false)], args := [d1, d2, d3] }
  | _ => none }
def ValueThreeWrongFalsely : Prop := valueThreeRow.holds Tryd.pinned (OpenSpec.ofChange valueThreeWrong)

/-- 'calamuslaw04.ValueLists': WHATEVER THE INPUT: true; the input reads as it did. -/
def valueListsSpec : ChangeSpec := { name := "valueLists", fn := fun _ => fun
  | [d1, d2] => { results := [.lit (.bool true)], args := [d1, d2] }
  | _ => none }
def valueListsRow : OpenClaim := { program := "ytaeeblcdggjokaadoor", sum := "12803f3cbb75816c4c2a84ab9c1323e21f317b47ceddcc8a65443687aab0f13b", func := "calamus/calamuslaw04.ValueLists", spec := "valueLists", inPlace := ["internal/bytealg.IndexByteString", "internal/bytealg.IndexString", "internal/abi.NoEscape", "internal/bytealg.MakeNoZero", "internal/bytealg.abigen_runtime_cmpstring"], unfollowed := true, recurses := true, named := ["unicode/utf8.first", "unicode/utf8.acceptRanges", "internal/bytealg.MaxLen"], loops := true, apart := false, laid := [("unicode/utf8.acceptRanges", laid_unicode_utf8_acceptRanges), ("unicode/utf8.first", laid_unicode_utf8_first)] }
def ValueListsSaid : Prop := valueListsRow.holds Tryd.pinned (OpenSpec.ofChange valueListsSpec)

/-- ITS FALSE NEIGHBOUR: 'it returns false'. Refute it at one input. -/
def valueListsWrong : ChangeSpec := { name := "valueLists", fn := fun _ => fun
  | [d1, d2] => { results := [.lit (.bool false)], args := [d1, d2] }
  | _ => none }
def ValueListsWrongFalsely : Prop := valueListsRow.holds Tryd.pinned (OpenSpec.ofChange valueListsWrong)

/- THE SECOND FORM. 'bulk': how many values and letters a reading holds, each counted each time it is reached (what is shared counts as often as it is met; a slice's spare places count too). A statement '..UptoSaid' is the law's where the arguments, and the package variables that the reading takes, are together of bulk at most 1048576: NARROWER than '..Said'. Prove '..Said' where nothing that the law and all that it calls make is longer than what came in: it says more and counts as full. Else prove '..UptoSaid'. A law counts once. -/
mutual
def uptoBulk {H : Type} : DataW H → Nat
  | .lit (.string bytes) => bytes.length + 1
  | .lit _ => 1
  | .nil => 1
  | .ptr d => uptoBulk d + 1
  | .slice elems spare => uptoBulkAll elems + uptoBulkAll spare + 1
  | .agg parts => uptoBulkAll parts + 1
  | .iface _ d => uptoBulk d + 1
  | .map entries => uptoBulkEntries entries + 1
  | .held _ => 1
def uptoBulkAll {H : Type} : List (DataW H) → Nat
  | [] => 0
  | d :: r => uptoBulk d + uptoBulkAll r
def uptoBulkEntries {H : Type} : List (Lit × DataW H) → Nat
  | [] => 0
  | x :: r => uptoBulkEntry x + uptoBulkEntries r
def uptoBulkEntry {H : Type} : Lit × DataW H → Nat
  | (.string bytes, d) => bytes.length + uptoBulk d + 1
  | (_, d) => uptoBulk d + 1
 end
def uptoSmall : (H : Type) → List (DataW H) → Bool := fun _ ds => decide (uptoBulkAll ds ≤ 1048576)
def OpenSpec.upto (s : _root_.Go.ChangeSpec) : _root_.Go.OpenSpec := { _root_.Go.OpenSpec.ofChange s with cond := some uptoSmall }

/-- 'calamuslaw11.TypesOrders', WHERE WHAT IT READS IS OF BULK AT MOST 1048576: true; the input reads as it did. -/
def typesOrdersUptoRow : OpenClaim := { program := "ytaeeblcdggjokaadoor", sum := "12803f3cbb75816c4c2a84ab9c1323e21f317b47ceddcc8a65443687aab0f13b", func := "calamus/calamuslaw11.TypesOrders", spec := "typesOrders", inPlace := ["internal/bytealg.IndexByteString", "internal/bytealg.IndexString"], unfollowed := true, recurses := true, named := ["unicode/utf8.first", "unicode/utf8.acceptRanges", "calamus/types.kinds", "internal/bytealg.MaxLen"], loops := true, apart := false, laid := [("unicode/utf8.acceptRanges", laid_unicode_utf8_acceptRanges), ("calamus/types.kinds", laid_calamus_types_kinds), ("unicode/utf8.first", laid_unicode_utf8_first)], narrowed := true }
def TypesOrdersUptoSaid : Prop := typesOrdersUptoRow.holds Tryd.pinned (OpenSpec.upto typesOrdersSpec)

/-- 'calamuslaw11.TypesParts', WHERE WHAT IT READS IS OF BULK AT MOST 1048576: true; the input reads as it did. -/
def typesPartsUptoRow : OpenClaim := { program := "ytaeeblcdggjokaadoor", sum := "12803f3cbb75816c4c2a84ab9c1323e21f317b47ceddcc8a65443687aab0f13b", func := "calamus/calamuslaw11.TypesParts", spec := "typesParts", inPlace := ["internal/bytealg.IndexByteString", "internal/bytealg.IndexString"], unfollowed := true, recurses := true, named := ["unicode/utf8.first", "unicode/utf8.acceptRanges", "calamus/types.kinds", "internal/bytealg.MaxLen"], loops := true, apart := false, laid := [("unicode/utf8.acceptRanges", laid_unicode_utf8_acceptRanges), ("calamus/types.kinds", laid_calamus_types_kinds), ("unicode/utf8.first", laid_unicode_utf8_first)], narrowed := true }
def TypesPartsUptoSaid : Prop := typesPartsUptoRow.holds Tryd.pinned (OpenSpec.upto typesPartsSpec)

/-- 'calamuslaw11.TypesThree', WHERE WHAT IT READS IS OF BULK AT MOST 1048576: true; the input reads as it did. -/
def typesThreeUptoRow : OpenClaim := { program := "ytaeeblcdggjokaadoor", sum := "12803f3cbb75816c4c2a84ab9c1323e21f317b47ceddcc8a65443687aab0f13b", func := "calamus/calamuslaw11.TypesThree", spec := "typesThree", inPlace := ["internal/bytealg.IndexByteString", "internal/bytealg.IndexString"], unfollowed := true, recurses := true, named := ["unicode/utf8.first", "unicode/utf8.acceptRanges", "calamus/types.kinds", "internal/bytealg.MaxLen"], loops := true, apart := false, laid := [("unicode/utf8.acceptRanges", laid_unicode_utf8_acceptRanges), ("calamus/types.kinds", laid_calamus_types_kinds), ("unicode/utf8.first", laid_unicode_utf8_first)], narrowed := true }
def TypesThreeUptoSaid : Prop := typesThreeUptoRow.holds Tryd.pinned (OpenSpec.upto typesThreeSpec)

/-- 'calamuslaw11.TypesAny', WHERE WHAT IT READS IS OF BULK AT MOST 1048576: true; the input reads as it did. -/
def typesAnyUptoRow : OpenClaim := { program := "ytaeeblcdggjokaadoor", sum := "12803f3cbb75816c4c2a84ab9c1323e21f317b47ceddcc8a65443687aab0f13b", func := "calamus/calamuslaw11.TypesAny", spec := "typesAny", inPlace := ["internal/bytealg.IndexByteString", "internal/bytealg.IndexString"], unfollowed := true, recurses := true, named := ["unicode/utf8.first", "unicode/utf8.acceptRanges", "calamus/types.kinds", "internal/bytealg.MaxLen"], loops := true, apart := false, laid := [("unicode/utf8.acceptRanges", laid_unicode_utf8_acceptRanges), ("calamus/types.kinds", laid_calamus_types_kinds), ("unicode/utf8.first", laid_unicode_utf8_first)], narrowed := true }
def TypesAnyUptoSaid : Prop := typesAnyUptoRow.holds Tryd.pinned (OpenSpec.upto typesAnySpec)

/-- 'calamuslaw04.ValueGrows', WHERE WHAT IT READS IS OF BULK AT MOST 1048576: true; the input reads as it did. -/
def valueGrowsUptoRow : OpenClaim := { program := "ytaeeblcdggjokaadoor", sum := "12803f3cbb75816c4c2a84ab9c1323e21f317b47ceddcc8a65443687aab0f13b", func := "calamus/calamuslaw04.ValueGrows", spec := "valueGrows", inPlace := ["internal/bytealg.IndexByteString", "internal/bytealg.IndexString", "internal/abi.NoEscape", "internal/bytealg.MakeNoZero", "internal/bytealg.abigen_runtime_cmpstring"], unfollowed := true, recurses := true, named := ["unicode/utf8.first", "unicode/utf8.acceptRanges", "internal/bytealg.MaxLen"], loops := true, apart := false, laid := [("unicode/utf8.acceptRanges", laid_unicode_utf8_acceptRanges), ("unicode/utf8.first", laid_unicode_utf8_first)], narrowed := true }
def ValueGrowsUptoSaid : Prop := valueGrowsUptoRow.holds Tryd.pinned (OpenSpec.upto valueGrowsSpec)

/-- 'calamuslaw04.ValueThree', WHERE WHAT IT READS IS OF BULK AT MOST 1048576: true; the input reads as it did. -/
def valueThreeUptoRow : OpenClaim := { program := "ytaeeblcdggjokaadoor", sum := "12803f3cbb75816c4c2a84ab9c1323e21f317b47ceddcc8a65443687aab0f13b", func := "calamus/calamuslaw04.ValueThree", spec := "valueThree", inPlace := ["internal/bytealg.IndexByteString", "internal/bytealg.IndexString", "internal/abi.NoEscape", "internal/bytealg.MakeNoZero", "internal/bytealg.abigen_runtime_cmpstring"], unfollowed := true, recurses := true, named := ["unicode/utf8.first", "unicode/utf8.acceptRanges", "internal/bytealg.MaxLen"], loops := true, apart := false, laid := [("unicode/utf8.acceptRanges", laid_unicode_utf8_acceptRanges), ("unicode/utf8.first", laid_unicode_utf8_first)], narrowed := true }
def ValueThreeUptoSaid : Prop := valueThreeUptoRow.holds Tryd.pinned (OpenSpec.upto valueThreeSpec)

/-- 'calamuslaw04.ValueLists', WHERE WHAT IT READS IS OF BULK AT MOST 1048576: true; the input reads as it did. -/
def valueListsUptoRow : OpenClaim := { program := "ytaeeblcdggjokaadoor", sum := "12803f3cbb75816c4c2a84ab9c1323e21f317b47ceddcc8a65443687aab0f13b", func := "calamus/calamuslaw04.ValueLists", spec := "valueLists", inPlace := ["internal/bytealg.IndexByteString", "internal/bytealg.IndexString", "internal/abi.NoEscape", "internal/bytealg.MakeNoZero", "internal/bytealg.abigen_runtime_cmpstring"], unfollowed := true, recurses := true, named := ["unicode/utf8.first", "unicode/utf8.acceptRanges", "internal/bytealg.MaxLen"], loops := true, apart := false, laid := [("unicode/utf8.acceptRanges", laid_unicode_utf8_acceptRanges), ("unicode/utf8.first", laid_unicode_utf8_first)], narrowed := true }
def ValueListsUptoSaid : Prop := valueListsUptoRow.holds Tryd.pinned (OpenSpec.upto valueListsSpec)

end Rows
end Go.Proofs.YtaeeblcdggjokaaDoor
