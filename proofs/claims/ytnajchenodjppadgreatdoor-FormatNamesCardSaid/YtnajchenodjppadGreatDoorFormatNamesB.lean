/- The law FormatNames: whatever the number and the text, the law's function answers true and leaves them as they were. Conditions: those of the row alone. -/
import Derived.Test.YtnajchenodjppadGreatDoorFormatNamesR0
import Derived.Test.YtnajchenodjppadGreatDoorFormatNamesR1
import Derived.Test.YtnajchenodjppadGreatDoorFormatNamesR2
import Derived.Test.YtnajchenodjppadGreatDoorFormatNamesR3
import Derived.Test.YtnajchenodjppadGreatDoorFormatNamesR4
import Derived.Test.YtnajchenodjppadGreatDoorFormatNamesR5
import Derived.Test.YtnajchenodjppadGreatDoorCards
import Derived.Test.YtnajchenodjppadGreatDoorTie
import Derived.KernelRfl
import Derived.ProofKit
import Derived.Deep.DeepHandedRow
import Derived.Lay
import Derived.SevenTiedAt
namespace Go.Proofs.YtnajchenodjppadGreatDoor.FormatNames
open Go Go.Ab Go.RowKit Go.ChangeShapes Go.WideShapes Go.ChangeAt
set_option maxRecDepth 100000

theorem own : ownKnob Tryz.prog.godebug = none := by kernel_rfl
theorem laidOut : laidOutB Tryz.prog = true := by kernel_rfl
theorem met {W : World} (h : laidMetH Tryz.prog Rows.formatNamesRow.laid W) : TabsMet tabs W := by
  rw [MakeChecks.laidMetH_plain _ _ _ (by kernel_rfl)] at h
  obtain ⟨ps, h, _, _⟩ := h
  exact tabs_of_laid h


theorem okWide_cell {W : World} {r : Reach} {base : Nat} {t : TypeId} {v : Value} (ht : (match Tryz.prog.underlying t with | some (.int _) | some .string => true | _ => false) = true) (h : Value.okWide Tryz.prog W r base t v) : Cell.okWide Tryz.prog W r base t v := by
  unfold Value.okWide at h
  split at h
  · rename_i e; rw [e] at ht; cases ht
  · rename_i e; rw [e] at ht; cases ht
  · exact h
theorem cmp_no {n m : ByteArray} (h : n ≠ m) : cmpV .eql (.string n) (.string m) = some false := by
  unfold cmpV
  simp only [Option.some.injEq]
  rw [← Bool.not_eq_true, beq_iff_eq]
  intro e
  rw [ByteArray.toList_eq, ByteArray.toList_eq] at e
  exact h (WideShapes.bytes_inj e)
theorem f_case (z : Int) : ∃ a, a ∈ fs z ∧ ∀ (W : World) (M : Mp), VR W ⟨0, .lf⟩ M a (.int .i64 z) := by
  have lit : ∀ k : Int, z = k → ∀ (W : World) (M : Mp), VR W ⟨0, .lf⟩ M (.v (.int .i64 k)) (.int .i64 z) := fun k e W M => by subst e; exact VR_v_of rfl
  rcases Int.lt_or_le z 1 with h | h
  · refine ⟨fLo z, by simp [fs], fun W M => ?_⟩
    unfold fLo VR
    refine ⟨rfl, rfl, fun b => by simp, fun e he => ?_⟩
    simp only [List.mem_cons, List.not_mem_nil, or_false] at he
    rcases he with rfl | rfl | rfl | rfl | rfl | rfl | rfl <;> simp [cmpV] <;> omega
  · rcases Int.lt_or_le 5 z with h5 | h5
    · refine ⟨fHi z, by simp [fs], fun W M => ?_⟩
      unfold fHi VR
      refine ⟨rfl, rfl, fun b => by simp, fun e he => ?_⟩
      simp only [List.mem_cons, List.not_mem_nil, or_false] at he
      rcases he with rfl | rfl | rfl | rfl | rfl | rfl | rfl <;> simp [cmpV] <;> omega
    · have : z = 1 ∨ z = 2 ∨ z = 3 ∨ z = 4 ∨ z = 5 := by omega
      rcases this with e | e | e | e | e
      · exact ⟨_, by simp [fs], lit 1 e⟩
      · exact ⟨_, by simp [fs], lit 2 e⟩
      · exact ⟨_, by simp [fs], lit 3 e⟩
      · exact ⟨_, by simp [fs], lit 4 e⟩
      · exact ⟨_, by simp [fs], lit 5 e⟩
theorem n_case (n : ByteArray) : ∃ x, (∀ (z : Int), ((fs z).all fun f => runs f x) = true) ∧ ∀ (W : World) (M : Mp), VR W ⟨0, .lf⟩ M x (.string n) := by
  by_cases h0 : n = ⟨#[106, 115, 111, 110]⟩
  · exact ⟨_, fun z => run0 z, fun W M => by subst h0; exact VR_v_of rfl⟩
  by_cases h1 : n = ⟨#[99, 98, 111, 114]⟩
  · exact ⟨_, fun z => run1 z, fun W M => by subst h1; exact VR_v_of rfl⟩
  by_cases h2 : n = ⟨#[112, 97, 99, 107]⟩
  · exact ⟨_, fun z => run2 z, fun W M => by subst h2; exact VR_v_of rfl⟩
  by_cases h3 : n = ⟨#[120, 109, 108]⟩
  · exact ⟨_, fun z => run3 z, fun W M => by subst h3; exact VR_v_of rfl⟩
  by_cases h4 : n = ⟨#[112, 114, 111, 116, 111]⟩
  · exact ⟨_, fun z => run4 z, fun W M => by subst h4; exact VR_v_of rfl⟩
  refine ⟨nNo n, fun z => run5 z n, fun W M => ?_⟩
  unfold nNo VR
  refine ⟨rfl, rfl, fun b => by simp, fun e he => ?_⟩
  simp only [List.mem_cons, List.not_mem_nil, or_false] at he
  rcases he with rfl | rfl | rfl | rfl | rfl
  · exact cmp_no h0
  · exact cmp_no h1
  · exact cmp_no h2
  · exact cmp_no h3
  · exact cmp_no h4
theorem walk {W : World} (h : TabsMet tabs W) (z : Int) (n : ByteArray) :
    Calls Tryz.prog 3 #[.int .i64 z, .string n] W fun e W' => e = .returned (.bool true) ∧ Below W.heap.size W W' := by
  have ho : CallOk Tryz.prog (tabsG tabs) W.heap.size W orc := trueOrc_ok tabs_nodup tabs_plain fun _ h => awake h
  obtain ⟨a, ha, va⟩ := f_case z
  obtain ⟨x, hx, vx⟩ := n_case n
  exact calls_of_true ho noNum Tryz.checked.mixed (glob_of_tabs h) (args := [a, x]) (fun M => VRl_cons (va W M) (VRl_cons (vx W M) VRl_nil)) (List.all_eq_true.1 (hx z) a ha)

theorem contract (H : Type) (enc : TypeId × Value → H) (W : World) (base : Nat) (args : Array Value) (ds gs : List (DataW H)) (before : List MemPlace)
    (hval : ∀ (j : Nat) t v, Tryz.f3.params[j]? = some t → args[j]? = some v → Value.okWide Tryz.prog W .any base t v)
    (hW : DataW.Whole enc Tryz.prog Tryz.f3.params.toList Rows.formatNamesSpec.vars false W args.toList ds gs before) (hL : laidMetH Tryz.prog Rows.formatNamesRow.laid W) :
    Calls Tryz.prog 3 args W fun e W' => ∃ v, e = .returned v ∧ Rows.formatNamesSpec.post enc Tryz.prog Tryz.f3 false true false false W args v W' := by
  have hW' := hW
  obtain ⟨p, q, hA0, hV, rfl, hfz, hnd⟩ := hW
  have hA : DataW.TrodAll enc Tryz.prog W 0 (fun _ => true) true Tryz.f3.params.toList args.toList ds p := hA0
  rw [Tryz.params3] at hA hval
  obtain ⟨v0, v1, d0, d1, p0, p1, rfl, rfl, rfl, h0, h1⟩ := trodAll_two hA
  obtain ⟨rfl, rfl⟩ := trodVars_none hV
  obtain ⟨z, rfl⟩ := wide_int (k := .i64) (by kernel_rfl) (okWide_cell (by kernel_rfl) (hval 0 22 v0 (by simp) (by simp)))
  obtain ⟨n, rfl⟩ := wide_string (by kernel_rfl) (okWide_cell (by kernel_rfl) (hval 1 9 v1 (by simp) (by simp)))
  refine (walk (met hL) z n).mono fun e' W' ⟨he, hb⟩ => ?_
  subst he
  exact ⟨_, rfl, post_true (t := 4) laidOut (by kernel_rfl) (by kernel_rfl) Tryz.underlying4 hW' rfl rfl rfl rfl hb⟩

/- A world for the witness: the settled one, each listed table holding what its initialiser lays. -/
theorem laid_met (os : Os) (args : Array Value) : laidMetH Tryz.prog Rows.formatNamesRow.laid ((World.laidAll Tryz.prog os Rows.formatNamesRow.laid).forCall (fun _ _ => 0) ⟨#[], args, []⟩).memory := by
  rw [MakeChecks.laidMetH_plain _ _ _ (by kernel_rfl)]
  exact laidMet_laidAll _ (by kernel_rfl) (by kernel_rfl)
theorem reads (os : Os) {H : Type} (enc : TypeId × Value → H) : DataW.whole enc Tryz.prog ((World.laidAll Tryz.prog os Rows.formatNamesRow.laid).forCall (fun _ _ => 0) ⟨#[], #[.int .i64 0, .string .empty], []⟩).memory Tryz.f3.params.toList Rows.formatNamesSpec.vars false #[Value.int .i64 0, Value.string .empty].toList 8 =
    some ([.lit (.int .i64 0), .lit (.string [])], [], []) := by kernel_rfl

theorem lifted (os : Os) (started : os.Started) (H : Type) (enc : TypeId × Value → H) (F : Stop.Interp) :
    ReturnsInHanded {} Tryz.checked os 3 .any ((OpenSpec.ofChange Rows.formatNamesSpec).preRow enc Tryz.prog Tryz.f3 Rows.formatNamesRow.domain false Rows.formatNamesRow.laid) (((OpenSpec.ofChange Rows.formatNamesSpec).at F).post enc Tryz.prog Tryz.f3 false true false false) := by
  refine returnsInHanded_of_row (C := Tryz.checked) (s := OpenSpec.ofChange Rows.formatNamesSpec) own started (by kernel_rfl) Tryz.func3
    (witness_row_at (enc := enc) (C := Tryz.checked) false (World.laidAll Tryz.prog os Rows.formatNamesRow.laid) #[.int .i64 0, .string .empty] (World.laidAll_os _ _ _) (by kernel_rfl) (by kernel_rfl) (by kernel_rfl)
      (OpenSpec.preRow_of_cond 8 (reads os enc) (by kernel_rfl) (fun k hk => by cases hk) (by kernel_rfl) (laid_met os _))) ?_
  intro W base args ds gs before hval hW _ _ _ hL _ _
  exact contract H enc W base args ds gs before hval hW hL

theorem said : Rows.FormatNamesSaid :=
  OpenClaim.holds_of_cond 3 Tryz.f3 rfl rfl rfl rfl rfl rfl rfl ⟨rfl, rfl, rfl, rfl, rfl⟩ rfl rfl rfl rfl rfl (by kernel_rfl) Tryz.func3 (by kernel_rfl)
    (of_decide_eq_true (by kernel_rfl)) (by unfold Func.isWrapper; first | (rw [if_pos (by decide +kernel)]; kernel_rfl) | (rw [if_neg (by decide +kernel)]; exact ⟨rfl, rfl⟩))
    (fun os started H enc _ F => by rw [OpenClaim.pre_eq_preRow]; exact lifted os started H enc F)

theorem plain (f : FuncId) (fn : Func) (hf : Tryz.pinned.checked.prog.funcNamed "calamus/calamuslaw20.FormatNames" = some f) (hfn : Tryz.pinned.checked.prog.funcs[f]? = some fn) :
    true = Tryz.pinned.checked.prog.looks [] ∧ ∀ (j : Nat) t, fn.params[j]? = some t → Tryz.pinned.checked.prog.wantsStandIn t = false := by
  obtain rfl : f = 3 := Option.some.inj ((show Tryz.prog.funcNamed "calamus/calamuslaw20.FormatNames" = some 3 by kernel_rfl).symm.trans hf) |>.symm
  obtain rfl : fn = Tryz.f3 := (Option.some.inj (Tryz.func3.symm.trans hfn)).symm
  refine ⟨by kernel_rfl, fun j t ht => ?_⟩
  rw [Tryz.params3] at ht
  match j, ht with
  | 0, ht => cases (show some 22 = some t from ht); exact (show Tryz.prog.wantsStandIn 22 = false by kernel_rfl)
  | 1, ht => cases (show some 9 = some t from ht); exact (show Tryz.prog.wantsStandIn 9 = false by kernel_rfl)


/-- THE CARD. -/
theorem card : Rows.FormatNamesCardSaid :=
  Claim7.holds_tied_plain_at .later [] _ _ _ _ said (fun _ h => by cases h) (by kernel_rfl) (fun _ h => by cases h) formatNames_row_tie rfl ⟨rfl, rfl⟩ (by kernel_rfl) rfl plain (by kernel_rfl)
end Go.Proofs.YtnajchenodjppadGreatDoor.FormatNames
