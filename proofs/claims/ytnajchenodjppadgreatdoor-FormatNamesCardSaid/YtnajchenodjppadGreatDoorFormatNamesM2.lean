/- The law FormatNames: one call that its chapter's examples make, run by the evaluator: what it comes to. -/
import Derived.Test.YtnajchenodjppadGreatDoorFormatNamesA0
namespace Go.Proofs.YtnajchenodjppadGreatDoor.FormatNames
open Go Go.Ab Go.RowKit
set_option maxRecDepth 100000
def m2 : Memo := { f := 10, args := [(.v (.int Go.IntKind.i64 (2))), (.agg [(.v (.int Go.IntKind.i64 (0))), (.v (.slice none 0 0)), (.v (.slice none 0 0))]), (.agg [(.v (.int Go.IntKind.i64 (1))), (.v (.bool false)), (.v (.bool false)), (.v (.string ⟨#[]⟩)), (.v (.int Go.IntKind.i64 (0))), (.v (.int Go.IntKind.u64 (0))), (.v (.string ⟨#[]⟩)), (.v (.slice none 0 0)), (.v (.slice none 0 0))])], s := mkSt 0 [], r := (.tup [(.sl [(.v (.int Go.IntKind.u8 (246)))] 1 none), (.v (.int Go.IntKind.i64 (0)))]) }
theorem m2_ok : memoRun (below (.func m2.f) m2.args m2.s) m2 = true := by kernel_rfl
end Go.Proofs.YtnajchenodjppadGreatDoor.FormatNames
