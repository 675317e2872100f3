/- The law TypesAny: whatever is handed in, the law's function answers true and leaves it as it was. Conditions: those of the row alone. -/
import Derived.Test.YtaeeblcdggjokaaDoorVkT7
import Derived.Test.YtaeeblcdggjokaaDoorSxRead
import Derived.Test.YtaeeblcdggjokaaDoorCards
import Derived.Test.YtaeeblcdggjokaaDoorTie
import Derived.KernelRfl
import Derived.ProofKit
import Derived.Deep.DeepHandedRow
import Derived.Lay
import Derived.SevenTiedAt
namespace Go.Proofs.YtaeeblcdggjokaaDoor.VkTypesAny
open Go Go.Ab Go.RowKit Go.ChangeShapes Go.WideShapes Go.ChangeAt Go.Proofs.YtaeeblcdggjokaaDoor.Vk
set_option maxRecDepth 100000
set_option linter.unusedVariables false
set_option linter.unusedSimpArgs false
set_option linter.unusedSectionVars false
set_option linter.constructorNameAsVariable false

theorem own : ownKnob Tryd.prog.godebug = none := by kernel_rfl
theorem laidOut : laidOutB Tryd.prog = true := by kernel_rfl
theorem met {W : World} (h : laidMetH Tryd.prog Rows.typesAnyRow.laid W) : TabsMet tabs W := by
  rw [MakeChecks.laidMetH_plain _ _ _ (by kernel_rfl)] at h
  obtain ⟨ps, h, _, _⟩ := h
  haveI : Interp := ⟨fun _ _ => .nil⟩
  exact tabs_of_laid h
theorem tbIs : tbOk Tryd.prog tb = true := by kernel_rfl
theorem argsAre : argsOk Tryd.prog tb Tryd.f6.params.toList q_lany.args = true := by kernel_rfl

theorem trodAll_len {H : Type} {enc : TypeId × Value → H} {P : Program} {w : World} {sp : Nat → Bool} {held : Bool} : ∀ {ts : List TypeId} {vs : List Value} {ds : List (DataW H)} {ps : List MemPlace}, DataW.TrodAll enc P w 0 sp held ts vs ds ps → ds.length = ts.length
  | [], [], [], _, _ => rfl
  | t :: ts, v :: vs, d :: ds, ps, h => by
    obtain ⟨p, q, h1, h2, rfl⟩ := h
    rw [List.length_cons, List.length_cons, trodAll_len h2]
  | [], [], _ :: _, _, h => h.elim
  | [], _ :: _, [], _, h => h.elim
  | [], _ :: _, _ :: _, _, h => h.elim
  | _ :: _, [], [], _, h => h.elim
  | _ :: _, [], _ :: _, _, h => h.elim
  | _ :: _, _ :: _, [], _, h => h.elim

theorem len_two {α : Type} {l : List α} (h : l.length = 2) : ∃ a b, l = [a, b] := by
  match l, h with
  | [a, b], _ => exact ⟨a, b, rfl⟩
theorem len_three {α : Type} {l : List α} (h : l.length = 3) : ∃ a b c, l = [a, b, c] := by
  match l, h with
  | [a, b, c], _ => exact ⟨a, b, c, rfl⟩
theorem contract (H : Type) (enc : TypeId × Value → H) (W : World) (base : Nat) (args : Array Value) (ds gs : List (DataW H)) (before : List MemPlace)
    (hval : ∀ (j : Nat) t v, Tryd.f6.params[j]? = some t → args[j]? = some v → Value.okWide Tryd.prog W .any base t v)
    (hW : DataW.Whole enc Tryd.prog Tryd.f6.params.toList Rows.typesAnySpec.vars false W args.toList ds gs before)
    (hR : (DataW.weightsEach Tryd.prog (Tryd.f6.params.toList ++ (OpenSpec.ofChange Rows.typesAnySpec).bare.plain.varTypes Tryd.prog) (ds ++ gs)).all (· ≤ reachBytes) = true)
    (hL : laidMetH Tryd.prog Rows.typesAnyRow.laid W) :
    Calls Tryd.prog 6 args W fun e W' => ∃ v, e = .returned v ∧ Rows.typesAnySpec.post enc Tryd.prog Tryd.f6 false true false false W args v W' := by
  have hW' := hW
  obtain ⟨p, q, hA0, hV, rfl, hfz, hnd⟩ := hW
  have hA : DataW.TrodAll enc Tryd.prog W 0 (fun _ => true) true Tryd.f6.params.toList args.toList ds p := hA0
  obtain ⟨rfl, rfl⟩ := trodVars_none hV
  have hw : ∀ m, m ∈ DataW.weightsEach Tryd.prog Tryd.f6.params.toList ds → m ≤ lim := fun m hm => by
    have h1 : m ∈ DataW.weightsEach Tryd.prog (Tryd.f6.params.toList ++ (OpenSpec.ofChange Rows.typesAnySpec).bare.plain.varTypes Tryd.prog) (ds ++ []) := by
      rw [show (OpenSpec.ofChange Rows.typesAnySpec).bare.plain.varTypes Tryd.prog = [] from rfl, List.append_nil, List.append_nil]; exact hm
    have h2 := List.all_eq_true.1 hR m h1
    exact Nat.le_trans (of_decide_eq_true h2) (by show 0x7ffffffff000 ≤ lim; decide)
  obtain ⟨xs, hx, hlim⟩ := args_read (P := Tryd.prog) tbIs argsAre (fun j t v h1 h2 => hval j t v (by simpa using h1) (by simpa using h2)) hA hw
  letI := I (4 * D.szL xs + 200)
  have hok := lany_ok (4 * D.szL xs + 200) W (fun _ _ => True) args xs (met hL) (fun _ _ _ _ _ => trivial) hx ⟨by omega, hlim⟩
  refine (callsIn_wide.1 hok).mono fun e' W' hq => ?_
  obtain ⟨v, rfl, hb, hr⟩ := hq
  refine ⟨v, rfl, ?_⟩
  obtain rfl : v = .bool true := by
    have e : @Interp.phi (I (4 * D.szL xs + 200)) q_lany.g xs = bD true := phi_lany _ _
    rw [e] at hr
    have := hr.1
    unfold bD DV at this
    exact this.1
  obtain ⟨d0, d1, rfl⟩ := len_two (trodAll_len hA)
  exact post_true (t := 4) laidOut (by kernel_rfl) (by kernel_rfl) Tryd.underlying4 hW' rfl rfl rfl rfl hb

/- A world for the witness: the settled one, each listed table holding what its initialiser lays. -/
noncomputable def wargs : Array Value := #[.agg #[.int .i64 0, .slice none 0 0, .slice none 0 0], .agg #[.int .i64 0, .bool false, .bool false, .string ByteArray.empty, .int .i64 0, .int .u64 0, .string ByteArray.empty, .slice none 0 0, .slice none 0 0]]
theorem laid_met (os : Os) (args : Array Value) : laidMetH Tryd.prog Rows.typesAnyRow.laid ((World.laidAll Tryd.prog os Rows.typesAnyRow.laid).forCall (fun _ _ => 0) ⟨#[], args, []⟩).memory := by
  rw [MakeChecks.laidMetH_plain _ _ _ (by kernel_rfl)]
  exact laidMet_laidAll _ (by kernel_rfl) (by kernel_rfl)
noncomputable def wds (os : Os) {H : Type} (enc : TypeId × Value → H) : List (DataW H) :=
  match DataW.whole enc Tryd.prog ((World.laidAll Tryd.prog os Rows.typesAnyRow.laid).forCall (fun _ _ => 0) ⟨#[], wargs, []⟩).memory Tryd.f6.params.toList Rows.typesAnySpec.vars false wargs.toList 16 with
  | some (ds, _, _) => ds
  | none => []
theorem reads (os : Os) {H : Type} (enc : TypeId × Value → H) : DataW.whole enc Tryd.prog ((World.laidAll Tryd.prog os Rows.typesAnyRow.laid).forCall (fun _ _ => 0) ⟨#[], wargs, []⟩).memory Tryd.f6.params.toList Rows.typesAnySpec.vars false wargs.toList 16 =
    some (wds os enc, [], []) := by kernel_rfl

theorem lifted (os : Os) (started : os.Started) (H : Type) (enc : TypeId × Value → H) (F : Stop.Interp) :
    ReturnsInHanded {} Tryd.checked os 6 .any ((OpenSpec.ofChange Rows.typesAnySpec).preRow enc Tryd.prog Tryd.f6 Rows.typesAnyRow.domain false Rows.typesAnyRow.laid) (((OpenSpec.ofChange Rows.typesAnySpec).at F).post enc Tryd.prog Tryd.f6 false true false false) := by
  refine returnsInHanded_of_row (C := Tryd.checked) (s := OpenSpec.ofChange Rows.typesAnySpec) own started (by kernel_rfl) Tryd.func6
    (witness_row_at (enc := enc) (C := Tryd.checked) false (World.laidAll Tryd.prog os Rows.typesAnyRow.laid) wargs (World.laidAll_os _ _ _) (by kernel_rfl) (by kernel_rfl) (by kernel_rfl)
      (OpenSpec.preRow_of_cond 16 (reads os enc) (by kernel_rfl) (fun k hk => by cases hk) (by kernel_rfl) (laid_met os _))) ?_
  intro W base args ds gs before hval hW _ _ hR hL _ _
  exact contract H enc W base args ds gs before hval hW hR hL

theorem said : Rows.TypesAnySaid :=
  OpenClaim.holds_of_cond 6 Tryd.f6 rfl rfl rfl rfl rfl rfl rfl ⟨rfl, rfl, rfl, rfl, rfl⟩ rfl rfl rfl rfl rfl (by kernel_rfl) Tryd.func6 (by kernel_rfl)
    (of_decide_eq_true (by kernel_rfl)) (by unfold Func.isWrapper; first | (rw [if_pos (by decide +kernel)]; kernel_rfl) | (rw [if_neg (by decide +kernel)]; exact ⟨rfl, rfl⟩))
    (fun os started H enc _ F => by rw [OpenClaim.pre_eq_preRow]; exact lifted os started H enc F)

theorem plain (f : FuncId) (fn : Func) (hf : Tryd.pinned.checked.prog.funcNamed "calamus/calamuslaw11.TypesAny" = some f) (hfn : Tryd.pinned.checked.prog.funcs[f]? = some fn) :
    false = Tryd.pinned.checked.prog.looks [] ∧ ∀ (j : Nat) t, fn.params[j]? = some t → Tryd.pinned.checked.prog.wantsStandIn t = false := by
  obtain rfl : f = 6 := Option.some.inj ((show Tryd.prog.funcNamed "calamus/calamuslaw11.TypesAny" = some 6 by kernel_rfl).symm.trans hf) |>.symm
  obtain rfl : fn = Tryd.f6 := (Option.some.inj (Tryd.func6.symm.trans hfn)).symm
  refine ⟨by kernel_rfl, fun j t ht => ?_⟩
  have h : (Tryd.f6.params.all fun t => !Tryd.prog.wantsStandIn t) = true := by kernel_rfl
  have := Array.all_eq_true_iff_forall_mem.1 h t (Array.mem_of_getElem? ht)
  show Tryd.prog.wantsStandIn t = false
  simpa using this

/-- THE CARD. -/
theorem card : Rows.TypesAnyCardSaid :=
  Claim7.holds_tied_plain_at .later [] _ _ _ _ said (fun _ h => by cases h) (by kernel_rfl) (fun _ h => by cases h) typesAny_row_tie rfl ⟨rfl, rfl⟩ (by kernel_rfl) rfl plain (by kernel_rfl)
end Go.Proofs.YtaeeblcdggjokaaDoor.VkTypesAny
