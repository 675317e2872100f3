/- The law FormatNames: one call that its chapter's examples make, run by the evaluator: what it comes to. -/
import Derived.Test.YtnajchenodjppadGreatDoorFormatNamesA0
namespace Go.Proofs.YtnajchenodjppadGreatDoor.FormatNames
open Go Go.Ab Go.RowKit
set_option maxRecDepth 100000
def m3 : Memo := { f := 11, args := [(.v (.int Go.IntKind.i64 (5))), (.agg [(.v (.int Go.IntKind.i64 (5))), (.v (.slice none 0 0)), (.v (.slice none 0 0))])], s := mkSt 0 [], r := (.tup [(.v (.pointer none)), (.v (.int Go.IntKind.i64 (121)))]) }
theorem m3_ok : memoRun (below (.func m3.f) m3.args m3.s) m3 = true := by kernel_rfl
end Go.Proofs.YtnajchenodjppadGreatDoor.FormatNames
