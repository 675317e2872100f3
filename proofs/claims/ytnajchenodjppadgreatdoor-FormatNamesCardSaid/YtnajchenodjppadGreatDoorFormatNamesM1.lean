/- The law FormatNames: one call that its chapter's examples make, run by the evaluator: what it comes to. -/
import Derived.Test.YtnajchenodjppadGreatDoorFormatNamesA0
namespace Go.Proofs.YtnajchenodjppadGreatDoor.FormatNames
open Go Go.Ab Go.RowKit
set_option maxRecDepth 100000
def m1 : Memo := { f := 4, args := [(.v (.string ⟨#[88, 77, 76]⟩))], s := mkSt 0 [], r := (.tup [(.v (.int Go.IntKind.i64 (0))), (.v (.int Go.IntKind.i64 (1)))]) }
theorem m1_ok : memoRun (below (.func m1.f) m1.args m1.s) m1 = true := by kernel_rfl
end Go.Proofs.YtnajchenodjppadGreatDoor.FormatNames
