/- The law FormatNames: the tables that its row lists, and the evaluator over them. -/
import Derived.Test.YtnajchenodjppadGreatDoorAbMemo
import Derived.Test.YtnajchenodjppadGreatDoorRows
import Derived.KernelRfl
namespace Go.Proofs.YtnajchenodjppadGreatDoor.FormatNames
open Go Go.Ab Go.RowKit
set_option maxRecDepth 100000

theorem noNum : NoNum Tryz.prog := by
  have h : (Tryz.prog.funcs.all fun fn => !(fn.name == "runtime.NumGoroutine")) = true := by kernel_rfl
  intro f fn hf
  have := Array.all_eq_true_iff_forall_mem.1 h fn (Array.mem_of_getElem? hf)
  simpa using this
/-- The tables that the row lists, as far as they hold plain data. -/
noncomputable def tabs : List (Nat × List Value) := laidTabs Tryz.prog Rows.formatNamesRow.laid
theorem tabs_nodup : (tabs.map (·.1)).Nodup := of_decide_eq_true (by kernel_rfl)
theorem tabs_plain : (tabs.all fun x => x.2.all scalar) = true := by kernel_rfl
/-- The functions that write into what they append to. -/
def mu (f : Nat) : Bool := match f with | 59 | 65 | 99 | 134 | 135 => true | _ => false
/-- The evaluator, without anything known ahead. -/
noncomputable def below : Ab.Call := evFn Tryz.prog (tabsG tabs) mu (evDrawnX Tryz.prog (tabsG tabs)) 100000 noOrc 200
end Go.Proofs.YtnajchenodjppadGreatDoor.FormatNames
