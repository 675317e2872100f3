/-
  NARROWER THAN 'FOR EVERY INPUT', by the rows' own cells (each row's printed sentence says how): EventFlattens: loops, laid · EventBuilds: laid · EventChecks: laid · EventRound: loops, laid · EventNil: laid · EventLists: loops, laid.
  DERIVED. THE GIVEN ROWS OF THIS SEAT. 6 by the template 'for every input the law returns true; each argument reads behind the call as it read before'; 0 by the template 'total and deterministic' (their statements: YtgdaplfalohpbaaDoorTotals.lean).
  GIVEN WITH THE SEED: the statements are not yours to turn. If you find one false, say at which input.
  Laid BY PROGRAM, IN A SANDBOX (cutbox-rows.mjs): the forced cells as the released guide's own fill.sh prints them over the translation 2a8304eface58e87… (all of the seat's roots in one cut). By AI agents, Wed Nov 11 2026. No macro, syntax, notation, axiom, sorry.
-/
import Derived.Test.YtgdaplfalohpbaaDoorChecked
import GoSem.PinnedTables
import GoSem.Claim
import GoSem.ClaimJoined
import GoSem.ClaimMapViews
import Derived.JoinedTies
import Derived.KernelRfl
namespace Go.Proofs.YtgdaplfalohpbaaDoor
/- THE CELL 'sum', in the pinned program and in every row, IS THE sha256 OF THE DUMP (.gsa) THAT YtgdaplfalohpbaaDoorProg.lean LOADS. Nothing in Lean hashes anything: it is a label: what it is worth is what the hold of that sum in a sandbox is worth. -/
noncomputable def Tryd.pinned : Pinned := { name := "ytgdaplfalohpbaadoor", sum := "2a8304eface58e87a3c60285b47e565843b3c4c229e0fdd0dcdc2d8934a3f69f", checked := Tryd.checked }
namespace Rows
def none {H : Type} : Left H := { results := [], args := [] }

/- WHAT THE LISTED PACKAGE-LEVEL VARIABLES READ AS WHEN THE CALL BEGINS. Each datum BY PROGRAM (the guide's laid-datum.mjs) off the statement by which the dump's own 'gosem.cut.vars' lays the variable. In a bare row this is a premise. The card (YtgdaplfalohpbaaDoorCards.lean) ties it to the program's text. -/
def laid_unicode_utf8_acceptRanges {H : Type} : DataW H := .agg [.agg [.lit (.int .u8 128), .lit (.int .u8 191)], .agg [.lit (.int .u8 160), .lit (.int .u8 191)], .agg [.lit (.int .u8 128), .lit (.int .u8 159)], .agg [.lit (.int .u8 144), .lit (.int .u8 191)], .agg [.lit (.int .u8 128), .lit (.int .u8 143)], .agg [.lit (.int .u8 0), .lit (.int .u8 0)], .agg [.lit (.int .u8 0), .lit (.int .u8 0)], .agg [.lit (.int .u8 0), .lit (.int .u8 0)], .agg [.lit (.int .u8 0), .lit (.int .u8 0)], .agg [.lit (.int .u8 0), .lit (.int .u8 0)], .agg [.lit (.int .u8 0), .lit (.int .u8 0)], .agg [.lit (.int .u8 0), .lit (.int .u8 0)], .agg [.lit (.int .u8 0), .lit (.int .u8 0)], .agg [.lit (.int .u8 0), .lit (.int .u8 0)], .agg [.lit (.int .u8 0), .lit (.int .u8 0)], .agg [.lit (.int .u8 0), .lit (.int .u8 0)]]
/-- One of Go's own tables, pinned by name: the form's constant. -/
def laid_unicode_utf8_first : DataW Unit := Go.Pinned.utf8First

/-- 'calamuslaw05.EventFlattens': WHATEVER THE INPUT: true; the input reads as it did. -/
def eventFlattensSpec : ChangeSpec := { name := "eventFlattens", fn := fun _ => fun
  | [d] => { results := [.lit (.bool true)], args := [d] }
  | _ => none }
def eventFlattensRow : OpenClaim := { program := "ytgdaplfalohpbaadoor", sum := "2a8304eface58e87a3c60285b47e565843b3c4c229e0fdd0dcdc2d8934a3f69f", func := "calamus/calamuslaw05.EventFlattens", spec := "eventFlattens", inPlace := ["internal/bytealg.IndexByteString", "internal/bytealg.IndexString"], unfollowed := true, recurses := true, named := ["unicode/utf8.first", "unicode/utf8.acceptRanges", "internal/bytealg.MaxLen"], loops := true, apart := false, laid := [("unicode/utf8.acceptRanges", laid_unicode_utf8_acceptRanges), ("unicode/utf8.first", laid_unicode_utf8_first)] }
def EventFlattensSaid : Prop := eventFlattensRow.holds Tryd.pinned (OpenSpec.ofChange eventFlattensSpec)

/-- ITS FALSE NEIGHBOUR: 'it returns false'. Refute it at one input. -/
def eventFlattensWrong : ChangeSpec := { name := "eventFlattens", fn := fun _ => fun
  | [d] => { results := [.lit (.bool false)], args := [d] }
  | _ => none }
def EventFlattensWrongFalsely : Prop := eventFlattensRow.holds Tryd.pinned (OpenSpec.ofChange eventFlattensWrong)

/-- 'calamuslaw05.EventBuilds': WHATEVER THE INPUT: true; the input reads as it did. -/
def eventBuildsSpec : ChangeSpec := { name := "eventBuilds", fn := fun _ => fun
  | [d] => { results := [.lit (.bool true)], args := [d] }
  | _ => none }
def eventBuildsRow : OpenClaim := { program := "ytgdaplfalohpbaadoor", sum := "2a8304eface58e87a3c60285b47e565843b3c4c229e0fdd0dcdc2d8934a3f69f", func := "calamus/calamuslaw05.EventBuilds", spec := "eventBuilds", inPlace := ["internal/bytealg.IndexByteString", "internal/bytealg.IndexString"], unfollowed := true, recurses := true, named := ["unicode/utf8.first", "unicode/utf8.acceptRanges", "internal/bytealg.MaxLen"], apart := false, laid := [("unicode/utf8.acceptRanges", laid_unicode_utf8_acceptRanges), ("unicode/utf8.first", laid_unicode_utf8_first)] }
def EventBuildsSaid : Prop := eventBuildsRow.holds Tryd.pinned (OpenSpec.ofChange eventBuildsSpec)

/-- ITS FALSE NEIGHBOUR: 'it returns false'. Refute it at one input. -/
def eventBuildsWrong : ChangeSpec := { name := "eventBuilds", fn := fun _ => fun
  | [d] => { results := [.lit (.bool false)], args := [d] }
  | _ => none }
def EventBuildsWrongFalsely : Prop := eventBuildsRow.holds Tryd.pinned (OpenSpec.ofChange eventBuildsWrong)

/-- 'calamuslaw05.EventChecks': WHATEVER THE INPUT: true; the input reads as it did. -/
def eventChecksSpec : ChangeSpec := { name := "eventChecks", fn := fun _ => fun
  | [d] => { results := [.lit (.bool true)], args := [d] }
  | _ => none }
def eventChecksRow : OpenClaim := { program := "ytgdaplfalohpbaadoor", sum := "2a8304eface58e87a3c60285b47e565843b3c4c229e0fdd0dcdc2d8934a3f69f", func := "calamus/calamuslaw05.EventChecks", spec := "eventChecks", inPlace := ["internal/bytealg.IndexByteString", "internal/bytealg.IndexString"], unfollowed := true, recurses := true, named := ["unicode/utf8.first", "unicode/utf8.acceptRanges", "internal/bytealg.MaxLen"], apart := false, laid := [("unicode/utf8.acceptRanges", laid_unicode_utf8_acceptRanges), ("unicode/utf8.first", laid_unicode_utf8_first)] }
def EventChecksSaid : Prop := eventChecksRow.holds Tryd.pinned (OpenSpec.ofChange eventChecksSpec)

/-- ITS FALSE NEIGHBOUR: 'it returns false'. Refute it at one input. -/
def eventChecksWrong : ChangeSpec := { name := "eventChecks", fn := fun _ => fun
  | [d] => { results := [.lit (.bool false)], args := [d] }
  | _ => none }
def EventChecksWrongFalsely : Prop := eventChecksRow.holds Tryd.pinned (OpenSpec.ofChange eventChecksWrong)

/-- 'calamuslaw05.EventRound': WHATEVER THE INPUT: true; the input reads as it did. -/
def eventRoundSpec : ChangeSpec := { name := "eventRound", fn := fun _ => fun
  | [d1, d2] => { results := [.lit (.bool true)], args := [d1, d2] }
  | _ => none }
def eventRoundRow : OpenClaim := { program := "ytgdaplfalohpbaadoor", sum := "2a8304eface58e87a3c60285b47e565843b3c4c229e0fdd0dcdc2d8934a3f69f", func := "calamus/calamuslaw05.EventRound", spec := "eventRound", inPlace := ["internal/bytealg.IndexByteString", "internal/bytealg.IndexString"], unfollowed := true, recurses := true, named := ["unicode/utf8.first", "unicode/utf8.acceptRanges", "internal/bytealg.MaxLen"], loops := true, apart := false, laid := [("unicode/utf8.acceptRanges", laid_unicode_utf8_acceptRanges), ("unicode/utf8.first", laid_unicode_utf8_first)] }
def EventRoundSaid : Prop := eventRoundRow.holds Tryd.pinned (OpenSpec.ofChange eventRoundSpec)

/-- ITS FALSE NEIGHBOUR: 'it returns false'. Refute it at one input. -/
def eventRoundWrong : ChangeSpec := { name := "eventRound", fn := fun _ => fun
  | [d1, d2] => { results := [.lit (.bool false)], args := [d1, d2] }
  | _ => none }
def EventRoundWrongFalsely : Prop := eventRoundRow.holds Tryd.pinned (OpenSpec.ofChange eventRoundWrong)

/-- 'calamuslaw05.EventNil': WHATEVER THE INPUT: true; the input reads as it did. -/
def eventNilSpec : ChangeSpec := { name := "eventNil", fn := fun _ => fun
  | [d] => { results := [.lit (.bool true)], args := [d] }
  | _ => none }
def eventNilRow : OpenClaim := { program := "ytgdaplfalohpbaadoor", sum := "2a8304eface58e87a3c60285b47e565843b3c4c229e0fdd0dcdc2d8934a3f69f", func := "calamus/calamuslaw05.EventNil", spec := "eventNil", inPlace := ["internal/bytealg.IndexByteString", "internal/bytealg.IndexString"], unfollowed := true, recurses := true, named := ["unicode/utf8.first", "unicode/utf8.acceptRanges", "internal/bytealg.MaxLen"], apart := false, laid := [("unicode/utf8.acceptRanges", laid_unicode_utf8_acceptRanges), ("unicode/utf8.first", laid_unicode_utf8_first)] }
def EventNilSaid : Prop := eventNilRow.holds Tryd.pinned (OpenSpec.ofChange eventNilSpec)

/-- ITS FALSE NEIGHBOUR: 'it returns false'. Refute it at one input. -/
def eventNilWrong : ChangeSpec := { name := "eventNil", fn := fun _ => fun
  | [d] => { results := [.lit (.bool false)], args := [d] }
  | _ => none }
def EventNilWrongFalsely : Prop := eventNilRow.holds Tryd.pinned (OpenSpec.ofChange eventNilWrong)

/-- 'calamuslaw05.EventLists': WHATEVER THE INPUT: true; the input reads as it did. -/
def eventListsSpec : ChangeSpec := { name := "eventLists", fn := fun _ => fun
  | [d1, d2] => { results := [.lit (.bool true)], args := [d1, d2] }
  | _ => none }
def eventListsRow : OpenClaim := { program := "ytgdaplfalohpbaadoor", sum := "2a8304eface58e87a3c60285b47e565843b3c4c229e0fdd0dcdc2d8934a3f69f", func := "calamus/calamuslaw05.EventLists", spec := "eventLists", inPlace := ["internal/bytealg.IndexByteString", "internal/bytealg.IndexString"], unfollowed := true, recurses := true, named := ["unicode/utf8.first", "unicode/utf8.acceptRanges", "internal/bytealg.MaxLen"], loops := true, apart := false, laid := [("unicode/utf8.acceptRanges", laid_unicode_utf8_acceptRanges), ("unicode/utf8.first", laid_unicode_utf8_first)] }
def EventListsSaid : Prop := eventListsRow.holds Tryd.pinned (OpenSpec.ofChange eventListsSpec)

/-- ITS FALSE NEIGHBOUR: 'it returns false'. Refute it at one input. -/
def eventListsWrong : ChangeSpec := { name := "eventLists", fn := fun _ => fun
  | [d1, d2] => { results := [.lit (.bool false)], args := [d1, d2] }
  | _ => none }
def EventListsWrongFalsely : Prop := eventListsRow.holds Tryd.pinned (OpenSpec.ofChange eventListsWrong)

/- THE SECOND FORM. 'bulk': how many values and letters a reading holds, each counted each time it is reached (what is shared counts as often as it is met; a slice's spare places count too). A statement '..UptoSaid' is the law's where the arguments, and the package variables that the reading takes, are together of bulk at most 1048576: NARROWER than '..Said'. Prove '..Said' where nothing that the law and all that it calls make is longer than what came in: it says more and counts as full. Else prove '..UptoSaid'. A law counts once. -/
mutual
def uptoBulk {H : Type} : DataW H → Nat
  | .lit (.string bytes) => bytes.length + 1
  | .lit _ => 1
  | .nil => 1
  | .ptr d => uptoBulk d + 1
  | .slice elems spare => uptoBulkAll elems + uptoBulkAll spare + 1
  | .agg parts => uptoBulkAll parts + 1
  | .iface _ d => uptoBulk d + 1
  | .map entries => uptoBulkEntries entries + 1
  | .held _ => 1
def uptoBulkAll {H : Type} : List (DataW H) → Nat
  | [] => 0
  | d :: r => uptoBulk d + uptoBulkAll r
def uptoBulkEntries {H : Type} : List (Lit × DataW H) → Nat
  | [] => 0
  | x :: r => uptoBulkEntry x + uptoBulkEntries r
def uptoBulkEntry {H : Type} : Lit × DataW H → Nat
  | (.string bytes, d) => bytes.length + uptoBulk d + 1
  | (_, d) => uptoBulk d + 1
 end
def uptoSmall : (H : Type) → List (DataW H) → Bool := fun _ ds => decide (uptoBulkAll ds ≤ 1048576)
def OpenSpec.upto (s : _root_.Go.ChangeSpec) : _root_.Go.OpenSpec := { _root_.Go.OpenSpec.ofChange s with cond := some uptoSmall }

/-- 'calamuslaw05.EventFlattens', WHERE WHAT IT READS IS OF BULK AT MOST 1048576: true; the input reads as it did. -/
def eventFlattensUptoRow : OpenClaim := { program := "ytgdaplfalohpbaadoor", sum := "2a8304eface58e87a3c60285b47e565843b3c4c229e0fdd0dcdc2d8934a3f69f", func := "calamus/calamuslaw05.EventFlattens", spec := "eventFlattens", inPlace := ["internal/bytealg.IndexByteString", "internal/bytealg.IndexString"], unfollowed := true, recurses := true, named := ["unicode/utf8.first", "unicode/utf8.acceptRanges", "internal/bytealg.MaxLen"], loops := true, apart := false, laid := [("unicode/utf8.acceptRanges", laid_unicode_utf8_acceptRanges), ("unicode/utf8.first", laid_unicode_utf8_first)], narrowed := true }
def EventFlattensUptoSaid : Prop := eventFlattensUptoRow.holds Tryd.pinned (OpenSpec.upto eventFlattensSpec)

/-- 'calamuslaw05.EventBuilds', WHERE WHAT IT READS IS OF BULK AT MOST 1048576: true; the input reads as it did. -/
def eventBuildsUptoRow : OpenClaim := { program := "ytgdaplfalohpbaadoor", sum := "2a8304eface58e87a3c60285b47e565843b3c4c229e0fdd0dcdc2d8934a3f69f", func := "calamus/calamuslaw05.EventBuilds", spec := "eventBuilds", inPlace := ["internal/bytealg.IndexByteString", "internal/bytealg.IndexString"], unfollowed := true, recurses := true, named := ["unicode/utf8.first", "unicode/utf8.acceptRanges", "internal/bytealg.MaxLen"], apart := false, laid := [("unicode/utf8.acceptRanges", laid_unicode_utf8_acceptRanges), ("unicode/utf8.first", laid_unicode_utf8_first)], narrowed := true }
def EventBuildsUptoSaid : Prop := eventBuildsUptoRow.holds Tryd.pinned (OpenSpec.upto eventBuildsSpec)

/-- 'calamuslaw05.EventChecks', WHERE WHAT IT READS IS OF BULK AT MOST 1048576: true; the input reads as it did. -/
def eventChecksUptoRow : OpenClaim := { program := "ytgdaplfalohpbaadoor", sum := "2a8304eface58e87a3c60285b47e565843b3c4c229e0fdd0dcdc2d8934a3f69f", func := "calamus/calamuslaw05.EventChecks", spec := "eventChecks", inPlace := ["internal/bytealg.IndexByteString", "internal/bytealg.IndexString"], unfollowed := true, recurses := true, named := ["unicode/utf8.first", "unicode/utf8.acceptRanges", "internal/bytealg.MaxLen"], apart := false, laid := [("unicode/utf8.acceptRanges", laid_unicode_utf8_acceptRanges), ("unicode/utf8.first", laid_unicode_utf8_first)], narrowed := true }
def EventChecksUptoSaid : Prop := eventChecksUptoRow.holds Tryd.pinned (OpenSpec.upto eventChecksSpec)

/-- 'calamuslaw05.EventRound', WHERE WHAT IT READS IS OF BULK AT MOST 1048576: true; the input reads as it did. -/
def eventRoundUptoRow : OpenClaim := { program := "ytgdaplfalohpbaadoor", sum := "2a8304eface58e87a3c60285b47e565843b3c4c229e0fdd0dcdc2d8934a3f69f", func := "calamus/calamuslaw05.EventRound", spec := "eventRound", inPlace := ["internal/bytealg.IndexByteString", "internal/bytealg.IndexString"], unfollowed := true, recurses := true, named := ["unicode/utf8.first", "unicode/utf8.acceptRanges", "internal/bytealg.MaxLen"], loops := true, apart := false, laid := [("unicode/utf8.acceptRanges", laid_unicode_utf8_acceptRanges), ("unicode/utf8.first", laid_unicode_utf8_first)], narrowed := true }
def EventRoundUptoSaid : Prop := eventRoundUptoRow.holds Tryd.pinned (OpenSpec.upto eventRoundSpec)

/-- 'calamuslaw05.EventNil', WHERE WHAT IT READS IS OF BULK AT MOST 1048576: true; the input reads as it did. -/
def eventNilUptoRow : OpenClaim := { program := "ytgdaplfalohpbaadoor", sum := "2a8304eface58e87a3c60285b47e565843b3c4c229e0fdd0dcdc2d8934a3f69f", func := "calamus/calamuslaw05.EventNil", spec := "eventNil", inPlace := ["internal/bytealg.IndexByteString", "internal/bytealg.IndexString"], unfollowed := true, recurses := true, named := ["unicode/utf8.first", "unicode/utf8.acceptRanges", "internal/bytealg.MaxLen"], apart := false, laid := [("unicode/utf8.acceptRanges", laid_unicode_utf8_acceptRanges), ("unicode/utf8.first", laid_unicode_utf8_first)], narrowed := true }
def EventNilUptoSaid : Prop := eventNilUptoRow.holds Tryd.pinned (OpenSpec.upto eventNilSpec)

/-- 'calamuslaw05.EventLists', WHERE WHAT IT READS IS OF BULK AT MOST 1048576: true; the input reads as it did. -/
def eventListsUptoRow : OpenClaim := { program := "ytgdaplfalohpbaadoor", sum := "2a8304eface58e87a3c60285b47e565843b3c4c229e0fdd0dcdc2d8934a3f69f", func := "calamus/calamuslaw05.EventLists", spec := "eventLists", inPlace := ["internal/bytealg.IndexByteString", "internal/bytealg.IndexString"], unfollowed := true, recurses := true, named := ["unicode/utf8.first", "unicode/utf8.acceptRanges", "internal/bytealg.MaxLen"], loops := true, apart := false, laid := [("unicode/utf8.acceptRanges", laid_unicode_utf8_acceptRanges), ("unicode/utf8.first", laid_unicode_utf8_first)], narrowed := true }
def EventListsUptoSaid : Prop := eventListsUptoRow.holds Tryd.pinned (OpenSpec.upto eventListsSpec)

end Rows
end Go.Proofs.YtgdaplfalohpbaaDoor
