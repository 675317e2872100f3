/- The law CborNil, its chapter's examples: the evaluator runs them to true, in every world that holds the listed tables. Conditions: none. -/
import Derived.Test.YtfjlcjaokoahkaaGreatDoorAbRow
import Derived.Test.YtfjlcjaokoahkaaGreatDoorRows
import Derived.KernelRfl
namespace Go.Proofs.YtfjlcjaokoahkaaGreatDoor.CborNil
open Go Go.Ab Go.RowKit
set_option maxRecDepth 100000

theorem noNum : NoNum Tryz.prog := by
  have h : (Tryz.prog.funcs.all fun fn => !(fn.name == "runtime.NumGoroutine")) = true := by kernel_rfl
  intro f fn hf
  have := Array.all_eq_true_iff_forall_mem.1 h fn (Array.mem_of_getElem? hf)
  simpa using this
/-- The tables that the row lists, as far as they hold plain data. -/
noncomputable def tabs : List (Nat × List Value) := laidTabs Tryz.prog Rows.cborNilRow.laid
theorem tabs_nodup : (tabs.map (·.1)).Nodup := of_decide_eq_true (by kernel_rfl)
theorem tabs_plain : (tabs.all fun x => x.2.all scalar) = true := by kernel_rfl
/-- The functions that write into what they append to. -/
def mu (f : Nat) : Bool := match f with | 32 | 33 | 53 | 54 => true | _ => false
theorem awake_run : isTrue (evFn Tryz.prog (tabsG tabs) mu (evDrawn Tryz.prog (tabsG tabs)) 100000 noOrc 60 (.func 6) [] ⟨0, .lf⟩) = true := by kernel_rfl
theorem awake {W : World} (h : TabsMet tabs W) : Calls Tryz.prog 6 #[] W fun e W' => e = .returned (.bool true) ∧ Below W.heap.size W W' :=
  calls_of_true noOrc_ok noNum Tryz.checked.mixed (glob_of_tabs h) (fun _ => VRl_nil) awake_run
end Go.Proofs.YtfjlcjaokoahkaaGreatDoor.CborNil
