/- The law FormatNames, run at the text of one format, whatever the number. -/
import Derived.Test.YtnajchenodjppadGreatDoorFormatNamesC
namespace Go.Proofs.YtnajchenodjppadGreatDoor.FormatNames
open Go Go.Ab Go.RowKit
set_option maxRecDepth 100000

theorem run1 (z : Int) : ((fs z).all fun f => runs f (.v (.string ⟨#[99, 98, 111, 114]⟩))) = true := by kernel_rfl
end Go.Proofs.YtnajchenodjppadGreatDoor.FormatNames
