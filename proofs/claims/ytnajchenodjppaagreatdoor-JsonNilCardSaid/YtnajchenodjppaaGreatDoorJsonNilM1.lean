/- The law JsonNil: one call that its chapter's examples make, run by the evaluator: what it comes to. -/
import Derived.Test.YtnajchenodjppaaGreatDoorJsonNilA0
namespace Go.Proofs.YtnajchenodjppaaGreatDoor.JsonNil
open Go Go.Ab Go.RowKit
set_option maxRecDepth 100000
def m1 : Memo := { f := 9, args := [(.agg [(.v (.int Go.IntKind.i64 (6))), (.v (.bool false)), (.v (.bool false)), (.v (.string ⟨#[]⟩)), (.v (.int Go.IntKind.i64 (0))), (.v (.int Go.IntKind.u64 (0))), (.v (.string ⟨#[0, 255]⟩)), (.v (.slice none 0 0)), (.v (.slice none 0 0))])], s := mkSt 3 [(0, .box [(.v (.int Go.IntKind.i64 (1))), (.v (.bool false)), (.v (.bool false)), (.v (.string ⟨#[]⟩)), (.v (.int Go.IntKind.i64 (0))), (.v (.int Go.IntKind.u64 (0))), (.v (.string ⟨#[]⟩)), (.v (.slice none 0 0)), (.v (.slice none 0 0))] 188978561024), (1, .row 1 1), (2, .row 9 9)], r := (.tup [(.sl [(.v (.int Go.IntKind.u8 (123))), (.v (.int Go.IntKind.u8 (34))), (.v (.int Go.IntKind.u8 (36))), (.v (.int Go.IntKind.u8 (98))), (.v (.int Go.IntKind.u8 (121))), (.v (.int Go.IntKind.u8 (116))), (.v (.int Go.IntKind.u8 (101))), (.v (.int Go.IntKind.u8 (115))), (.v (.int Go.IntKind.u8 (34))), (.v (.int Go.IntKind.u8 (58))), (.v (.int Go.IntKind.u8 (34))), (.v (.int Go.IntKind.u8 (48))), (.v (.int Go.IntKind.u8 (48))), (.v (.int Go.IntKind.u8 (102))), (.v (.int Go.IntKind.u8 (102))), (.v (.int Go.IntKind.u8 (34))), (.v (.int Go.IntKind.u8 (125)))] 17 none), (.v (.int Go.IntKind.i64 (0)))]) }
theorem m1_ok : memoRun (below (.func m1.f) m1.args m1.s) m1 = true := by kernel_rfl
end Go.Proofs.YtnajchenodjppaaGreatDoor.JsonNil
