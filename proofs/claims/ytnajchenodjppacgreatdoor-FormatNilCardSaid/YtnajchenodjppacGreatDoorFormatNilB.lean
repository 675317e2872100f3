/- The law FormatNil: whatever bytes come in, the law's function answers true and leaves them as they were. Conditions: those of the row alone. -/
import Derived.Test.YtnajchenodjppacGreatDoorFormatNilA
import Derived.Test.YtnajchenodjppacGreatDoorCards
import Derived.Test.YtnajchenodjppacGreatDoorTie
import Derived.KernelRfl
import Derived.ProofKit
import Derived.Deep.DeepHandedRow
import Derived.Lay
import Derived.SevenTiedAt
namespace Go.Proofs.YtnajchenodjppacGreatDoor.FormatNil
open Go Go.Ab Go.RowKit Go.ChangeShapes Go.WideShapes Go.ChangeAt
set_option maxRecDepth 100000

theorem own : ownKnob Tryz.prog.godebug = none := by kernel_rfl
theorem laidOut : laidOutB Tryz.prog = true := by kernel_rfl
theorem met {W : World} (h : laidMetH Tryz.prog Rows.formatNilRow.laid W) : TabsMet tabs W := by
  rw [MakeChecks.laidMetH_plain _ _ _ (by kernel_rfl)] at h
  obtain ⟨ps, h, _, _⟩ := h
  exact tabs_of_laid h

/- The law's function, with what is known of the examples. -/
noncomputable def orc : Ab.Call := trueOrc 6
noncomputable def self : Ab.Call := evFn Tryz.prog (tabsG tabs) mu (evDrawnX Tryz.prog (tabsG tabs)) 1000 orc 40
noncomputable def run : Code → Tm → St → Option (Ex × Tm × St) := evCode Tryz.prog (tabsG tabs) (evDrawnX Tryz.prog (tabsG tabs)) self false 1000
theorem run_nil : isTrue (evFn Tryz.prog (tabsG tabs) mu (evDrawnX Tryz.prog (tabsG tabs)) 1000 orc 41 (.func 3) [.v (.slice none 0 0)] ⟨0, .lf⟩) = true := by kernel_rfl
/- Its parts: what stands ahead of the question, the question's region, what hangs on it, the rest. -/
noncomputable def cA : Code := match Tryz.f3.body with | some (.seq A _) => A | _ => .skip
noncomputable def cR : Array Oper := match Tryz.f3.body with | some (.seq _ (.seq (.seq (.region _ ops _) _) _)) => ops | _ => #[]
noncomputable def cI : Nat := match Tryz.f3.body with | some (.seq _ (.seq (.seq (.region i _ _) _) _)) => i | _ => 0
noncomputable def cC : Code := match Tryz.f3.body with | some (.seq _ (.seq (.seq _ C) _)) => C | _ => .skip
noncomputable def cX : Code := match Tryz.f3.body with | some (.seq _ (.seq _ X)) => X | _ => .skip
theorem body_eq : Tryz.f3.body = some (.seq cA (.seq (.seq (.region cI cR false) cC) cX)) := by kernel_rfl
noncomputable def T0 (n : Nat) : Tm := match run cA (initT [.sl [] n none] Tryz.f3.ntmps) ⟨0, .lf⟩ with | some (_, T, _) => T | _ => initT [] 0
noncomputable def T1 (n : Nat) : Tm := match evOps Tryz.prog (tabsG tabs) self true cR [0, 1] (T0 n) ⟨0, .lf⟩ with | some (_, T, _) => T | _ => initT [] 0
noncomputable def qd : Nat := ((cR[2]?).bind (·.dst)).getD 0
noncomputable def F (n : Nat) (b : Bool) : Tm := (putT (T1 n) (some qd) (.v (.bool b))).getD (initT [] 0)
noncomputable def ask (n : Nat) : Bool := match evOps Tryz.prog (tabsG tabs) self true cR [0, 1, 2] (T0 n) ⟨0, .lf⟩ with
  | some (_, T, _) => (match gt T qd with | .v (.bool b) => b | _ => false)
  | _ => false
theorem hA (n : Nat) : run cA (initT [.sl [] n none] Tryz.f3.ntmps) ⟨0, .lf⟩ = some (.normal, T0 n, ⟨0, .lf⟩) := by kernel_rfl
theorem hR (n : Nat) : evOps Tryz.prog (tabsG tabs) self true cR (List.range cR.size) (T0 n) ⟨0, .lf⟩ = some (none, F n (ask n), ⟨0, .lf⟩) := by kernel_rfl
theorem hB (n : Nat) : ∀ b, finTrue Tryz.prog (tabsG tabs) run Tryz.f3 (thenA run cX (run cC (F n b) ⟨0, .lf⟩)) = true
  | true => by kernel_rfl
  | false => by kernel_rfl

theorem walk {W : World} (h : TabsMet tabs W) {v : Value} (hv : v = .slice none 0 0 ∨ ∃ b off len cap, v = .slice (some ⟨b, off, none⟩) len cap ∧ len ≤ cap) :
    Calls Tryz.prog 3 #[v] W fun e W' => e = .returned (.bool true) ∧ Below W.heap.size W W' := by
  have ho : CallOk Tryz.prog (tabsG tabs) W.heap.size W orc := trueOrc_ok tabs_nodup tabs_plain fun _ h => awake h
  rcases hv with rfl | ⟨b, off, len, cap, rfl, hle⟩
  · exact calls_of_true ho noNum Tryz.checked.mixed (glob_of_tabs h) (fun _ => VRl_cons (VR_v_of rfl) VRl_nil) run_nil
  · refine calls_guarded ho noNum Tryz.checked.mixed (glob_of_tabs h) (args := [.sl [] len none]) (fun M => VRl_cons ?_ VRl_nil) Tryz.func3 body_eq (by kernel_rfl) (hA len) (hR len) (hB len)
    unfold VR
    exact ⟨b, off, cap, rfl, hle, VRs_nil, fun t ht => by cases ht⟩

theorem contract (H : Type) (enc : TypeId × Value → H) (W : World) (base : Nat) (args : Array Value) (ds gs : List (DataW H)) (before : List MemPlace)
    (hval : ∀ (j : Nat) t v, Tryz.f3.params[j]? = some t → args[j]? = some v → Value.okWide Tryz.prog W .any base t v)
    (hW : DataW.Whole enc Tryz.prog Tryz.f3.params.toList Rows.formatNilSpec.vars false W args.toList ds gs before) (hL : laidMetH Tryz.prog Rows.formatNilRow.laid W) :
    Calls Tryz.prog 3 args W fun e W' => ∃ v, e = .returned v ∧ Rows.formatNilSpec.post enc Tryz.prog Tryz.f3 false true false false W args v W' := by
  have hW' := hW
  obtain ⟨p, q, hA0, hV, rfl, hfz, hnd⟩ := hW
  have hA : DataW.TrodAll enc Tryz.prog W 0 (fun _ => true) true Tryz.f3.params.toList args.toList ds p := hA0
  rw [Tryz.params3] at hA hval
  obtain ⟨v0, d0, rfl, rfl, h0⟩ := trodAll_one hA
  obtain ⟨rfl, rfl⟩ := trodVars_none hV
  have h22 := hval 0 22 v0 (by simp) (by simp)
  refine (walk (met hL) (slice_of_wide (e := 5) (by kernel_rfl) h22)).mono fun e' W' ⟨he, hb⟩ => ?_
  subst he
  exact ⟨_, rfl, post_true (t := 4) laidOut (by kernel_rfl) (by kernel_rfl) Tryz.underlying4 hW' rfl rfl rfl rfl hb⟩

/- A world for the witness: the settled one, each listed table holding what its initialiser lays. -/
theorem laid_met (os : Os) (args : Array Value) : laidMetH Tryz.prog Rows.formatNilRow.laid ((World.laidAll Tryz.prog os Rows.formatNilRow.laid).forCall (fun _ _ => 0) ⟨#[], args, []⟩).memory := by
  rw [MakeChecks.laidMetH_plain _ _ _ (by kernel_rfl)]
  exact laidMet_laidAll _ (by kernel_rfl) (by kernel_rfl)
theorem reads (os : Os) {H : Type} (enc : TypeId × Value → H) : DataW.whole enc Tryz.prog ((World.laidAll Tryz.prog os Rows.formatNilRow.laid).forCall (fun _ _ => 0) ⟨#[], #[.slice none 0 0], []⟩).memory Tryz.f3.params.toList Rows.formatNilSpec.vars false #[Value.slice none 0 0].toList 8 =
    some ([.nil], [], []) := by kernel_rfl

theorem lifted (os : Os) (started : os.Started) (H : Type) (enc : TypeId × Value → H) (F : Stop.Interp) :
    ReturnsInHanded {} Tryz.checked os 3 .any ((OpenSpec.ofChange Rows.formatNilSpec).preRow enc Tryz.prog Tryz.f3 Rows.formatNilRow.domain false Rows.formatNilRow.laid) (((OpenSpec.ofChange Rows.formatNilSpec).at F).post enc Tryz.prog Tryz.f3 false true false false) := by
  refine returnsInHanded_of_row (C := Tryz.checked) (s := OpenSpec.ofChange Rows.formatNilSpec) own started (by kernel_rfl) Tryz.func3
    (witness_row_at (enc := enc) (C := Tryz.checked) false (World.laidAll Tryz.prog os Rows.formatNilRow.laid) #[.slice none 0 0] (World.laidAll_os _ _ _) (by kernel_rfl) (by kernel_rfl) (by kernel_rfl)
      (OpenSpec.preRow_of_cond 8 (reads os enc) (by kernel_rfl) (fun k hk => by cases hk) (by kernel_rfl) (laid_met os _))) ?_
  intro W base args ds gs before hval hW _ _ _ hL _ _
  exact contract H enc W base args ds gs before hval hW hL

theorem said : Rows.FormatNilSaid :=
  OpenClaim.holds_of_cond 3 Tryz.f3 rfl rfl rfl rfl rfl rfl rfl ⟨rfl, rfl, rfl, rfl, rfl⟩ rfl rfl rfl rfl rfl (by kernel_rfl) Tryz.func3 (by kernel_rfl)
    (of_decide_eq_true (by kernel_rfl)) (by unfold Func.isWrapper; first | (rw [if_pos (by decide +kernel)]; kernel_rfl) | (rw [if_neg (by decide +kernel)]; exact ⟨rfl, rfl⟩))
    (fun os started H enc _ F => by rw [OpenClaim.pre_eq_preRow]; exact lifted os started H enc F)

theorem plain (f : FuncId) (fn : Func) (hf : Tryz.pinned.checked.prog.funcNamed "calamus/calamuslaw20.FormatNil" = some f) (hfn : Tryz.pinned.checked.prog.funcs[f]? = some fn) :
    true = Tryz.pinned.checked.prog.looks [] ∧ ∀ (j : Nat) t, fn.params[j]? = some t → Tryz.pinned.checked.prog.wantsStandIn t = false := by
  obtain rfl : f = 3 := Option.some.inj ((show Tryz.prog.funcNamed "calamus/calamuslaw20.FormatNil" = some 3 by kernel_rfl).symm.trans hf) |>.symm
  obtain rfl : fn = Tryz.f3 := (Option.some.inj (Tryz.func3.symm.trans hfn)).symm
  refine ⟨by kernel_rfl, fun j t ht => ?_⟩
  rw [Tryz.params3] at ht
  obtain rfl : t = 22 := by simpa using Array.mem_of_getElem? ht
  exact (show Tryz.prog.wantsStandIn 22 = false by kernel_rfl)

/-- THE CARD. -/
theorem card : Rows.FormatNilCardSaid :=
  Claim7.holds_tied_plain_at .later [] _ _ _ _ said (fun _ h => by cases h) (by kernel_rfl) (fun _ h => by cases h) formatNil_row_tie rfl ⟨rfl, rfl⟩ (by kernel_rfl) rfl plain (by kernel_rfl)
end Go.Proofs.YtnajchenodjppacGreatDoor.FormatNil
