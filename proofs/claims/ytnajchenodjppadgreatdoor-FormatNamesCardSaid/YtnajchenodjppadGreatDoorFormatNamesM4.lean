/- The law FormatNames: one call that its chapter's examples make, run by the evaluator: what it comes to. -/
import Derived.Test.YtnajchenodjppadGreatDoorFormatNamesA0
namespace Go.Proofs.YtnajchenodjppadGreatDoor.FormatNames
open Go Go.Ab Go.RowKit
set_option maxRecDepth 100000
def m4 : Memo := { f := 12, args := [], s := mkSt 0 [], r := (.agg [(.v (.int Go.IntKind.i64 (10))), (.sl [(.v (.string ⟨#[97]⟩))] 1 none), (.sl [(.v (.int Go.IntKind.i64 (5))), (.v (.slice none 0 0)), (.v (.slice none 0 0))] 1 none)]) }
theorem m4_ok : memoRun (below (.func m4.f) m4.args m4.s) m4 = true := by kernel_rfl
end Go.Proofs.YtnajchenodjppadGreatDoor.FormatNames
