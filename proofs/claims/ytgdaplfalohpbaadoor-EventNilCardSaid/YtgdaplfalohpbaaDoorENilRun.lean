/- The law EventNil, its walk: the evaluator runs the law's function at an event of which nothing is known. Conditions: none. -/
import Derived.Test.YtgdaplfalohpbaaDoorAbRow
import Derived.Test.YtgdaplfalohpbaaDoorRows
import Derived.KernelRfl
import Derived.ProofKit
import Derived.Deep.DeepHandedRow
import Derived.Lay
import Derived.SevenTiedAt
namespace Go.Proofs.YtgdaplfalohpbaaDoor.EventNil
open Go Go.Ab Go.RowKit Go.ChangeShapes Go.WideShapes Go.ChangeAt
set_option maxRecDepth 100000

theorem own : ownKnob Tryd.prog.godebug = none := by kernel_rfl
theorem laidOut : laidOutB Tryd.prog = true := by kernel_rfl
theorem noNum : NoNum Tryd.prog := by
  have h : (Tryd.prog.funcs.all fun fn => !(fn.name == "runtime.NumGoroutine")) = true := by kernel_rfl
  intro f fn hf
  have := Array.all_eq_true_iff_forall_mem.1 h fn (Array.mem_of_getElem? hf)
  simpa using this

/- The two tables that the row lists: what their cells hold. -/
noncomputable def gT (g : Nat) : TypeId := ((Tryd.prog.globals[g]?).map (·.type)).getD 0
noncomputable def firstV : List Value := (flatT Tryd.prog 1000 (gT 0) Rows.laid_unicode_utf8_first).getD []
noncomputable def rangesV : List Value := (flatT Tryd.prog 1000 (gT 1) Rows.laid_unicode_utf8_acceptRanges).getD []
theorem first_eq : flatT Tryd.prog 1000 (gT 0) Rows.laid_unicode_utf8_first = some firstV := by kernel_rfl
theorem ranges_eq : flatT Tryd.prog 1000 (gT 1) Rows.laid_unicode_utf8_acceptRanges = some rangesV := by kernel_rfl
theorem first_ok : firstV.all scalar = true := by kernel_rfl
theorem ranges_ok : rangesV.all scalar = true := by kernel_rfl
noncomputable def G (g : Nat) : Option (List AV) := if Nat.beq g 0 then some (leaves firstV) else if Nat.beq g 1 then some (leaves rangesV) else none

theorem glob2 {W : World} {a b : List Value} (ha : a.all scalar = true) (hb : b.all scalar = true) (h0 : ∀ (i : Nat) v, a[i]? = some v → W.cell? ⟨0, 0 + i, none⟩ = some v) (h1 : ∀ (i : Nat) v, b[i]? = some v → W.cell? ⟨1, 0 + i, none⟩ = some v) :
    ∀ M g cs, (if Nat.beq g 0 then some (leaves a) else if Nat.beq g 1 then some (leaves b) else none) = some cs → VRs W ⟨0, .lf⟩ M cs g 0 := by
  intro M g cs hg
  split at hg
  · rename_i e
    obtain rfl := Nat.eq_of_beq_eq_true e
    cases hg
    exact VRs_leaves (imm_start M 0) a 0 h0 ha
  · split at hg
    · rename_i e
      obtain rfl := Nat.eq_of_beq_eq_true e
      cases hg
      exact VRs_leaves (imm_start M 1) b 0 h1 hb
    · cases hg
theorem glob {W : World} (h : laidMetH Tryd.prog Rows.eventNilRow.laid W) : ∀ M g cs, G g = some cs → VRs W ⟨0, .lf⟩ M cs g 0 := by
  rw [MakeChecks.laidMetH_plain _ _ _ (by kernel_rfl)] at h
  obtain ⟨ps, h, _, _⟩ := h
  obtain ⟨h1, q, h⟩ := cells_of_laid (g := 1) (t := gT 1) (n := 1000) (vs := rangesV) (by kernel_rfl) (by kernel_rfl) ranges_eq h
  obtain ⟨h0, _, _⟩ := cells_of_laid (g := 0) (t := gT 0) (n := 1000) (vs := firstV) (by kernel_rfl) (by kernel_rfl) first_eq h
  exact glob2 first_ok ranges_ok h0 h1

/-- THE WALK: the evaluator runs the law's function at an event of which nothing is known, and answers true. -/
theorem run (k : Int) (f g : Bool) (d : ByteArray) (e b : Int) (t : ByteArray) : isTrue (evFn Tryd.prog G (evDrawn Tryd.prog G) 100000 (fun _ _ _ => none) 60 (.func 7)
    [.agg [.v (.int .i64 k), .v (.bool f), .v (.bool g), .v (.string d), .v (.int .i64 e), .v (.int .u64 b), .v (.string t)]] ⟨0, .lf⟩) = true := by kernel_rfl

end Go.Proofs.YtgdaplfalohpbaaDoor.EventNil
