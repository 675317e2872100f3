/- The law FormatNames: one call that its chapter's examples make, run by the evaluator: what it comes to. -/
import Derived.Test.YtnajchenodjppadGreatDoorFormatNamesA0
namespace Go.Proofs.YtnajchenodjppadGreatDoor.FormatNames
open Go Go.Ab Go.RowKit
set_option maxRecDepth 100000
def m0 : Memo := { f := 4, args := [(.v (.string ⟨#[120, 109, 108]⟩))], s := mkSt 0 [], r := (.tup [(.v (.int Go.IntKind.i64 (4))), (.v (.int Go.IntKind.i64 (0)))]) }
theorem m0_ok : memoRun (below (.func m0.f) m0.args m0.s) m0 = true := by kernel_rfl
end Go.Proofs.YtnajchenodjppadGreatDoor.FormatNames
