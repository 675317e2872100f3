/- The law EventNil: whatever event comes in, the law's function answers true and leaves the event as it was. Conditions: those of the row alone. -/
import Derived.Test.YtgdaplfalohpbaaDoorENilRun
import Derived.Test.YtgdaplfalohpbaaDoorCards
import Derived.Test.YtgdaplfalohpbaaDoorTie
import Derived.KernelRfl
import Derived.ProofKit
import Derived.Deep.DeepHandedRow
import Derived.Lay
import Derived.SevenTiedAt
namespace Go.Proofs.YtgdaplfalohpbaaDoor.EventNil
open Go Go.Ab Go.RowKit Go.ChangeShapes Go.WideShapes Go.ChangeAt
set_option maxRecDepth 100000

noncomputable def ts42 : List TypeId := (Tryd.prog.cellTypes Tryd.prog.depth 42).getD []
noncomputable def fs42 : Array Field := match Tryd.prog.underlying 42 with | some (.struct fs) => fs | _ => #[]
/-- An event, as its type's cells allow it. -/
theorem event_of_wide {W : World} {base : Nat} {v : Value} (h : Value.okWide Tryd.prog W .any base 42 v) :
    ∃ (k : Int) (f g : Bool) (d : ByteArray) (e b : Int) (t : ByteArray), v = .agg #[.int .i64 k, .bool f, .bool g, .string d, .int .i64 e, .int .u64 b, .string t] := by
  obtain ⟨cs, rfl, hs, hc⟩ := cells_of_wide (ts := ts42) (fs := fs42) (by kernel_rfl) (by kernel_rfl) (by kernel_rfl) h
  have hs7 : cs.size = 7 := hs.trans (by kernel_rfl)
  obtain ⟨l⟩ := cs
  match l, hs7 with
  | [x0, x1, x2, x3, x4, x5, x6], _ =>
    obtain ⟨k, rfl⟩ := wide_int (k := .i64) (by kernel_rfl) (hc 0 x0 (ts42.getD 0 0) rfl (by kernel_rfl))
    obtain ⟨f, rfl⟩ := wide_bool (by kernel_rfl) (hc 1 x1 (ts42.getD 1 0) rfl (by kernel_rfl))
    obtain ⟨g, rfl⟩ := wide_bool (by kernel_rfl) (hc 2 x2 (ts42.getD 2 0) rfl (by kernel_rfl))
    obtain ⟨d, rfl⟩ := wide_string (by kernel_rfl) (hc 3 x3 (ts42.getD 3 0) rfl (by kernel_rfl))
    obtain ⟨e, rfl⟩ := wide_int (k := .i64) (by kernel_rfl) (hc 4 x4 (ts42.getD 4 0) rfl (by kernel_rfl))
    obtain ⟨b, rfl⟩ := wide_int (k := .u64) (by kernel_rfl) (hc 5 x5 (ts42.getD 5 0) rfl (by kernel_rfl))
    obtain ⟨t, rfl⟩ := wide_string (by kernel_rfl) (hc 6 x6 (ts42.getD 6 0) rfl (by kernel_rfl))
    exact ⟨k, f, g, d, e, b, t, rfl⟩

theorem contract (H : Type) (enc : TypeId × Value → H) (W : World) (base : Nat) (args : Array Value) (ds gs : List (DataW H)) (before : List MemPlace)
    (hval : ∀ (j : Nat) t v, Tryd.f7.params[j]? = some t → args[j]? = some v → Value.okWide Tryd.prog W .any base t v)
    (hW : DataW.Whole enc Tryd.prog Tryd.f7.params.toList Rows.eventNilSpec.vars false W args.toList ds gs before) (hL : laidMetH Tryd.prog Rows.eventNilRow.laid W) :
    Calls Tryd.prog 7 args W fun e W' => ∃ v, e = .returned v ∧ Rows.eventNilSpec.post enc Tryd.prog Tryd.f7 false true false false W args v W' := by
  have hW' := hW
  obtain ⟨p, q, hA0, hV, rfl, hfz, hnd⟩ := hW
  have hA : DataW.TrodAll enc Tryd.prog W 0 (fun _ => true) true Tryd.f7.params.toList args.toList ds p := hA0
  rw [Tryd.params7] at hA hval
  obtain ⟨v0, d0, rfl, rfl, h0⟩ := trodAll_one hA
  obtain ⟨rfl, rfl⟩ := trodVars_none hV
  have h42 := hval 0 42 v0 (by simp) (by simp)
  obtain ⟨k, f, g, d, e, b, t, rfl⟩ := event_of_wide h42
  refine (calls_of_true noNum (Tryd.checked.mixed) (glob hL) (args := [.agg [.v (.int .i64 k), .v (.bool f), .v (.bool g), .v (.string d), .v (.int .i64 e), .v (.int .u64 b), .v (.string t)]]) (fun M => ?_) (run k f g d e b t)).mono fun e' W' ⟨he, hb⟩ => ?_
  · exact ⟨_, _, rfl, ⟨_, rfl, _, _, rfl, ⟨rfl, rfl⟩, _, _, rfl, ⟨rfl, rfl⟩, _, _, rfl, ⟨rfl, rfl⟩, _, _, rfl, ⟨rfl, rfl⟩, _, _, rfl, ⟨rfl, rfl⟩, _, _, rfl, ⟨rfl, rfl⟩, _, _, rfl, ⟨rfl, rfl⟩, rfl⟩, rfl⟩
  · subst he
    exact ⟨_, rfl, post_true (t := 4) laidOut (by kernel_rfl) (by kernel_rfl) Tryd.underlying4 hW' rfl rfl rfl rfl hb⟩

/- A world for the witness: the settled one, each listed table holding what its initialiser lays. -/
theorem laid_met (os : Os) (args : Array Value) : laidMetH Tryd.prog Rows.eventNilRow.laid ((World.laidAll Tryd.prog os Rows.eventNilRow.laid).forCall (fun _ _ => 0) ⟨#[], args, []⟩).memory := by
  rw [MakeChecks.laidMetH_plain _ _ _ (by kernel_rfl)]
  exact laidMet_laidAll _ (by kernel_rfl) (by kernel_rfl)
def blank : Value := .agg #[.int .i64 0, .bool false, .bool false, .string ⟨#[]⟩, .int .i64 0, .int .u64 0, .string ⟨#[]⟩]
theorem reads' (os : Os) {H : Type} (enc : TypeId × Value → H) : DataW.whole enc Tryd.prog ((World.laidAll Tryd.prog os Rows.eventNilRow.laid).forCall (fun _ _ => 0) ⟨#[], #[blank], []⟩).memory Tryd.f7.params.toList Rows.eventNilSpec.vars false #[blank].toList 8 =
    some ([.agg [.lit (.int .i64 0), .lit (.bool false), .agg [.lit (.bool false), .lit (.string []), .lit (.int .i64 0)], .lit (.int .u64 0), .lit (.string [])]], [], []) := by kernel_rfl

theorem lifted (os : Os) (started : os.Started) (H : Type) (enc : TypeId × Value → H) (F : Stop.Interp) :
    ReturnsInHanded {} Tryd.checked os 7 .any ((OpenSpec.ofChange Rows.eventNilSpec).preRow enc Tryd.prog Tryd.f7 Rows.eventNilRow.domain false Rows.eventNilRow.laid) (((OpenSpec.ofChange Rows.eventNilSpec).at F).post enc Tryd.prog Tryd.f7 false true false false) := by
  refine returnsInHanded_of_row (C := Tryd.checked) (s := OpenSpec.ofChange Rows.eventNilSpec) own started (by kernel_rfl) Tryd.func7
    (witness_row_at (enc := enc) (C := Tryd.checked) false (World.laidAll Tryd.prog os Rows.eventNilRow.laid) #[blank] (World.laidAll_os _ _ _) (by kernel_rfl) (by kernel_rfl) (by kernel_rfl)
      (OpenSpec.preRow_of_cond 8 (reads' os enc) (by kernel_rfl) (fun k hk => by cases hk) (by kernel_rfl) (laid_met os _))) ?_
  intro W base args ds gs before hval hW _ _ _ hL _ _
  exact contract H enc W base args ds gs before hval hW hL

theorem said : Rows.EventNilSaid :=
  OpenClaim.holds_of_cond 7 Tryd.f7 rfl rfl rfl rfl rfl rfl rfl ⟨rfl, rfl, rfl, rfl, rfl⟩ rfl rfl rfl rfl rfl (by kernel_rfl) Tryd.func7 (by kernel_rfl)
    (of_decide_eq_true (by kernel_rfl)) (by unfold Func.isWrapper; first | (rw [if_pos (by decide +kernel)]; kernel_rfl) | (rw [if_neg (by decide +kernel)]; exact ⟨rfl, rfl⟩))
    (fun os started H enc _ F => by rw [OpenClaim.pre_eq_preRow]; exact lifted os started H enc F)

theorem plain (f : FuncId) (fn : Func) (hf : Tryd.pinned.checked.prog.funcNamed "calamus/calamuslaw05.EventNil" = some f) (hfn : Tryd.pinned.checked.prog.funcs[f]? = some fn) :
    false = Tryd.pinned.checked.prog.looks [] ∧ ∀ (j : Nat) t, fn.params[j]? = some t → Tryd.pinned.checked.prog.wantsStandIn t = false := by
  obtain rfl : f = 7 := Option.some.inj ((show Tryd.prog.funcNamed "calamus/calamuslaw05.EventNil" = some 7 by kernel_rfl).symm.trans hf) |>.symm
  obtain rfl : fn = Tryd.f7 := (Option.some.inj (Tryd.func7.symm.trans hfn)).symm
  refine ⟨by kernel_rfl, fun j t ht => ?_⟩
  rw [Tryd.params7] at ht
  obtain rfl : t = 42 := by simpa using Array.mem_of_getElem? ht
  exact (show Tryd.prog.wantsStandIn 42 = false by kernel_rfl)

/-- THE CARD. -/
theorem card : Rows.EventNilCardSaid :=
  Claim7.holds_tied_plain_at .later [] _ _ _ _ said (fun _ h => by cases h) (by kernel_rfl) (fun _ h => by cases h) eventNil_row_tie rfl ⟨rfl, rfl⟩ (by kernel_rfl) rfl plain (by kernel_rfl)
end Go.Proofs.YtgdaplfalohpbaaDoor.EventNil
