/- The law FormatNames, run at a text that is no format's, whatever the number. -/
import Derived.Test.YtnajchenodjppadGreatDoorFormatNamesC
namespace Go.Proofs.YtnajchenodjppadGreatDoor.FormatNames
open Go Go.Ab Go.RowKit
set_option maxRecDepth 100000

theorem run5 (z : Int) (n : ByteArray) : ((fs z).all fun f => runs f (nNo n)) = true := by kernel_rfl
end Go.Proofs.YtnajchenodjppadGreatDoor.FormatNames
