/- The law XmlNil: one call that its chapter's examples make, run by the evaluator: what it comes to. -/
import Derived.Test.YtnajchenodjppabGreatDoorXmlNilA0
namespace Go.Proofs.YtnajchenodjppabGreatDoor.XmlNil
open Go Go.Ab Go.RowKit
set_option maxRecDepth 100000
def m0 : Memo := { f := 9, args := [(.agg [(.v (.int Go.IntKind.i64 (5))), (.v (.bool false)), (.v (.bool false)), (.v (.string ⟨#[]⟩)), (.v (.int Go.IntKind.i64 (0))), (.v (.int Go.IntKind.u64 (0))), (.v (.string ⟨#[97, 60, 10]⟩)), (.v (.slice none 0 0)), (.v (.slice none 0 0))])], s := mkSt 0 [], r := (.tup [(.sl [(.v (.int Go.IntKind.u8 (60))), (.v (.int Go.IntKind.u8 (116))), (.v (.int Go.IntKind.u8 (101))), (.v (.int Go.IntKind.u8 (120))), (.v (.int Go.IntKind.u8 (116))), (.v (.int Go.IntKind.u8 (62))), (.v (.int Go.IntKind.u8 (97))), (.v (.int Go.IntKind.u8 (38))), (.v (.int Go.IntKind.u8 (108))), (.v (.int Go.IntKind.u8 (116))), (.v (.int Go.IntKind.u8 (59))), (.v (.int Go.IntKind.u8 (38))), (.v (.int Go.IntKind.u8 (35))), (.v (.int Go.IntKind.u8 (120))), (.v (.int Go.IntKind.u8 (97))), (.v (.int Go.IntKind.u8 (59))), (.v (.int Go.IntKind.u8 (60))), (.v (.int Go.IntKind.u8 (47))), (.v (.int Go.IntKind.u8 (116))), (.v (.int Go.IntKind.u8 (101))), (.v (.int Go.IntKind.u8 (120))), (.v (.int Go.IntKind.u8 (116))), (.v (.int Go.IntKind.u8 (62)))] 23 none), (.v (.int Go.IntKind.i64 (0)))]) }
theorem m0_ok : memoRun (below (.func m0.f) m0.args m0.s) m0 = true := by kernel_rfl
end Go.Proofs.YtnajchenodjppabGreatDoor.XmlNil
