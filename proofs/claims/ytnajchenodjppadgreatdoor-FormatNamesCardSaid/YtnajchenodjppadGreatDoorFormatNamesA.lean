/- The law FormatNames, its chapter's examples: the evaluator runs them to true, in every world that holds the listed tables. Conditions: none. -/
import Derived.Test.YtnajchenodjppadGreatDoorFormatNamesM0
import Derived.Test.YtnajchenodjppadGreatDoorFormatNamesM1
import Derived.Test.YtnajchenodjppadGreatDoorFormatNamesM2
import Derived.Test.YtnajchenodjppadGreatDoorFormatNamesM3
import Derived.Test.YtnajchenodjppadGreatDoorFormatNamesM4
namespace Go.Proofs.YtnajchenodjppadGreatDoor.FormatNames
open Go Go.Ab Go.RowKit
set_option maxRecDepth 100000

def memo : List Memo := [m0, m1, m2, m3, m4]
theorem memo_run : ∀ e ∈ memo, memoRun (below (.func e.f) e.args e.s) e = true := by
  intro e he
  simp only [memo, List.mem_cons, List.not_mem_nil, or_false] at he
  rcases he with rfl | rfl | rfl | rfl | rfl
  · exact m0_ok
  · exact m1_ok
  · exact m2_ok
  · exact m3_ok
  · exact m4_ok
theorem awake_run : isTrue (evFn Tryz.prog (tabsG tabs) mu (evDrawnX Tryz.prog (tabsG tabs)) 100000 (memoOrc memo) 60 (.func 6) [] ⟨0, .lf⟩) = true := by kernel_rfl
theorem awake {W : World} (h : TabsMet tabs W) : Calls Tryz.prog 6 #[] W fun e W' => e = .returned (.bool true) ∧ Below W.heap.size W W' := by
  have hd : ∀ call, CallOk Tryz.prog (tabsG tabs) W.heap.size W call → DrawnOk Tryz.prog (tabsG tabs) W.heap.size W (evDrawnX Tryz.prog (tabsG tabs) call) := fun call hc => drawnX_sound noNum Tryz.checked.mixed hc
  have hb : CallOk Tryz.prog (tabsG tabs) W.heap.size W below := fn_sound (mu := mu) noNum 100000 noOrc_ok hd 200
  exact calls_of_true (memo_ok hb memo_run) noNum Tryz.checked.mixed (glob_of_tabs h) (fun _ => VRl_nil) awake_run
end Go.Proofs.YtnajchenodjppadGreatDoor.FormatNames
