/- The chapter's examples. -/
import Derived.Test.YtaeeblcdggjokaaDoorVkPlain
import Derived.Test.YtaeeblcdggjokaaDoorVkT1
namespace Go.Proofs.YtaeeblcdggjokaaDoor.Vk
open Go Go.Ab Go.RowKit
set_option maxRecDepth 100000
set_option linter.unusedVariables false
set_option linter.unusedSimpArgs false
set_option linter.unusedSectionVars false
set_option linter.constructorNameAsVariable false
def muT (f : Nat) : Bool := match f with | 110 => true | _ => false
theorem tawake_run : isTrue (evFn Tryd.prog (tabsG tabs) muT (evDrawnX Tryd.prog (tabsG tabs)) 100000 noOrc 200 (.func 15) [] none0) = true := by kernel_rfl
theorem tawake {W : World} (h : TabsMet tabs W) : Calls Tryd.prog 15 #[] W fun e W' => e = .returned (.bool true) ∧ Below W.heap.size W W' := by
  haveI : Interp := ⟨fun _ _ => .nil⟩
  exact calls_of_true noOrc_ok noNum Tryd.checked.mixed (glob_of_tabs h) (fun _ => VRl_nil) tawake_run
theorem tawake_ok (n : Nat) (pre : List D → Prop) : @Ok (I n) q_tawake pre := by
  letI := I n
  refine ok_scalar (t := .b) rfl fun W vs ds hL ha hp => ?_
  have hv : vs = #[] ∧ ds = [] := by
    obtain ⟨vs⟩ := vs
    cases vs with
    | nil => cases ds with | nil => exact ⟨rfl, rfl⟩ | cons _ _ => exact ha.elim
    | cons _ _ => cases ds <;> exact ha.elim
  obtain ⟨rfl, rfl⟩ := hv
  refine (tawake hL).mono ?_
  rintro e W' ⟨rfl, hb⟩
  exact ⟨_, rfl, hb, phi_tawake n, rfl⟩
end Go.Proofs.YtaeeblcdggjokaaDoor.Vk
