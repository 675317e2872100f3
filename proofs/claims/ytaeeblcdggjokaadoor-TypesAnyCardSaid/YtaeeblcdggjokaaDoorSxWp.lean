/- A rule for loops; other variables for the same values. -/
import Derived.Test.YtaeeblcdggjokaaDoorSxPan
import Derived.ControlIn
namespace Go.Ab
set_option linter.unusedVariables false
set_option linter.unusedSimpArgs false
set_option linter.unusedSectionVars false
set_option linter.constructorNameAsVariable false
open Go Go.RowKit

section
variable [Interp] {P : Program} {G : Nat → Option (List AV)} {B0 : Nat} {w0 w : World} {s : St} {M : Mp}
/-- A loop whose rounds grow less. -/
theorem loop_rule {F : Fence} {b : Code} {Q : Exit → Act → World → Prop} (I : Nat → Act → World → Prop) (hI : ∀ n a w, I n a w → b.wpIn F 0 P (Exit.then (fun a w => ∃ m, m < n ∧ I m a w) Q) a w) :
    ∀ {n : Nat} {a : Act} {w : World}, I n a w → (Code.loop b).wpIn F 0 P Q a w := by
  have key : ∀ (k n : Nat) (a : Act) (w : World), n < k → I n a w → Code.roundsIn F 0 P b Q k a w := by
    intro k
    induction k with
    | zero => intro n a w h; omega
    | succ k ih =>
      intro n a w hn hi
      rw [roundsIn_succ]
      refine wpIn_mono (hI n a w hi) fun e a' w' h => ?_
      cases e with
      | normal =>
        obtain ⟨m, hm, him⟩ := h
        exact ih m a' w' (by omega) him
      | _ => exact h
  intro n a w hi
  exact wpIn_loop_rounds (n + 1) (key (n + 1) n a w (Nat.lt_succ_self n) hi)
end
end Go.Ab
