/- The seat's functions by their ways: what is asked for one of them, and what all share. -/
import Derived.Test.YtaeeblcdggjokaaDoorVkKit
import Derived.Test.YtaeeblcdggjokaaDoorSxCallM
import Derived.Test.YtaeeblcdggjokaaDoorRows
import Derived.KernelRfl
namespace Go.Proofs.YtaeeblcdggjokaaDoor.Vk
open Go Go.Ab Go.RowKit
set_option maxRecDepth 100000
set_option linter.unusedVariables false
set_option linter.unusedSimpArgs false
set_option linter.unusedSectionVars false
set_option linter.constructorNameAsVariable false
theorem noNum : NoNum Tryd.prog := by
  have h : (Tryd.prog.funcs.all fun fn => !(fn.name == "runtime.NumGoroutine")) = true := by kernel_rfl
  intro f fn hf
  have := Array.all_eq_true_iff_forall_mem.1 h fn (Array.mem_of_getElem? hf)
  simpa using this
noncomputable def tabs : List (Nat × List Value) := laidTabs Tryd.prog Rows.typesAnyRow.laid
theorem tabs_nodup : (tabs.map (·.1)).Nodup := of_decide_eq_true (by kernel_rfl)
theorem tabs_plain : (tabs.all fun x => x.2.all scalar) = true := by kernel_rfl
def tb : List (Nat × List CT) := [(41, [.sc (.i .i64), .sc .b, .sc .b, .sc .s, .sc (.i .i64), .sc (.i .u64), .sc .s, .sl 9, .sl 41]), (9, [.sc .s]), (37, [.sc .b, .sc .s, .sc (.i .i64)]), (88, [.sc .s, .sc (.i .i64), .sc .b, .sc .b, .sc .s, .sc (.i .i64), .sc (.i .u64), .sc .s, .sl 9, .sl 41]), (26, [.sc (.i .i64), .sl 9, .sl 26])]
/-- calamus/value.Depth -/
def q_depth : Sig := { f := 21, g := 0, args := [(.row 41)], res := [(.cell (.sc (.i .i64)))] }
/-- calamus/value.Size -/
def q_size : Sig := { f := 22, g := 1, args := [(.row 41)], res := [(.cell (.sc (.i .i64)))] }
/-- calamus/value.formed -/
def q_formed : Sig := { f := 41, g := 2, args := [(.row 41)], res := [(.cell (.sc .b))] }
/-- slices.IndexFunc[[]calamus/api.Value,calamus/api.Value] -/
def q_ixformed : Sig := { f := 81, g := 3, args := [(.cell (.sl 41)), (.fn 64 [])], res := [(.cell (.sc (.i .i64)))] }
/-- calamus/value.names -/
def q_names : Sig := { f := 63, g := 4, args := [(.cell (.sl 9))], res := [(.cell (.sc .b))] }
/-- calamus/num.Check -/
def q_numcheck : Sig := { f := 61, g := 5, args := [(.row 37)], res := [(.cell (.sc (.i .i64)))] }
/-- strings.Trim -/
def q_trim : Sig := { f := 93, g := 6, args := [(.cell (.sc .s)), (.lit (mkS [48, 49, 50, 51, 52, 53, 54, 55, 56, 57]))], res := [(.cell (.sc .s))] }
/-- unicode/utf8.ValidString -/
def q_valid : Sig := { f := 84, g := 7, args := [(.cell (.sc .s))], res := [(.cell (.sc .b))] }
/-- calamus/value.short -/
def q_short : Sig := { f := 42, g := 8, args := [(.row 41)], res := [(.cell (.sc .b))] }
/-- slices.IndexFunc[[]string,string] -/
def q_ixshort1 : Sig := { f := 85, g := 9, args := [(.cell (.sl 9)), (.fn 66 [])], res := [(.cell (.sc (.i .i64)))] }
/-- slices.IndexFunc[[]calamus/api.Value,calamus/api.Value] -/
def q_ixshort2 : Sig := { f := 81, g := 10, args := [(.cell (.sl 41)), (.fn 67 [])], res := [(.cell (.sc (.i .i64)))] }
/-- calamus/calamuskeep.Parts -/
def q_parts : Sig := { f := 38, g := 11, args := [(.row 41), (.cell (.sc (.i .i64))), (.cell (.sc (.i .i64))), (.cell (.sc (.i .i64)))], res := [(.cell (.sc (.i .i64)))] }
/-- calamus/calamuskeep.many -/
def q_many : Sig := { f := 39, g := 12, args := [(.row 41)], res := [(.cell (.sc .b))] }
/-- calamus/value.Check -/
def q_check : Sig := { f := 23, g := 13, args := [(.row 41)], res := [(.cell (.sc (.i .i64)))] }
/-- calamus/calamuslaw04.awake -/
def q_awake : Sig := { f := 24, g := 14, args := [], res := [(.cell (.sc .b))] }
/-- calamus/calamuslaw04.ValueGrows -/
def q_grows : Sig := { f := 7, g := 15, args := [(.row 41)], res := [(.cell (.sc .b))] }
/-- slices.Equal[[]string,string] -/
def q_eqstrs : Sig := { f := 45, g := 16, args := [(.cell (.sl 9)), (.cell (.sl 9))], res := [(.cell (.sc .b))] }
/-- calamus/value.Equal -/
def q_equal : Sig := { f := 26, g := 17, args := [(.row 41), (.row 41)], res := [(.cell (.sc .b))] }
/-- slices.EqualFunc[[]calamus/api.Value,[]calamus/api.Value,calamus/api.Value,calamus/api.Value] -/
def q_eqvals : Sig := { f := 46, g := 18, args := [(.cell (.sl 41)), (.cell (.sl 41)), (.fn 26 [])], res := [(.cell (.sc .b))] }
/-- strings.Compare -/
def q_scmp : Sig := { f := 71, g := 19, args := [(.cell (.sc .s)), (.cell (.sc .s))], res := [(.cell (.sc (.i .i64)))] }
/-- strings.Repeat -/
def q_repeat : Sig := { f := 96, g := 20, args := [(.lit (mkS [48])), (.cell (.sc (.i .i64)))], res := [(.cell (.sc .s))] }
/-- calamus/num.level -/
def q_level : Sig := { f := 87, g := 21, args := [(.row 37), (.row 37)], res := [(.cell (.sc .s)), (.cell (.sc .s)), (.cell (.sc (.i .i64)))] }
/-- calamus/num.Cmp -/
def q_numcmp : Sig := { f := 69, g := 22, args := [(.row 37), (.row 37)], res := [(.cell (.sc (.i .i64))), (.cell (.sc (.i .i64)))] }
/-- calamus/value.pairs -/
def q_pairs : Sig := { f := 73, g := 23, args := [(.row 41)], res := [(.cell (.sl 88))] }
/-- calamus/value.order -/
def q_order : Sig := { f := 44, g := 24, args := [(.row 41), (.row 41)], res := [(.cell (.sc (.i .i64)))] }
/-- calamus/value.rows[calamus/api.Value] -/
def q_rowsV : Sig := { f := 75, g := 25, args := [(.cell (.sl 41)), (.cell (.sl 41)), (.fn 44 [])], res := [(.cell (.sc (.i .i64)))] }
/-- calamus/value.rows[calamus/value.pair] -/
def q_rowsP : Sig := { f := 72, g := 26, args := [(.cell (.sl 88)), (.cell (.sl 88)), (.fn 74 [])], res := [(.cell (.sc (.i .i64)))] }
/-- calamus/value.Cmp -/
def q_vcmp : Sig := { f := 25, g := 27, args := [(.row 41), (.row 41)], res := [(.cell (.sc (.i .i64))), (.cell (.sc (.i .i64)))] }
/-- calamus/calamuslaw04.ValueLists -/
def q_lists : Sig := { f := 9, g := 28, args := [(.row 41), (.row 41)], res := [(.cell (.sc .b))] }
/-- calamus/calamuslaw04.ValueThree -/
def q_three : Sig := { f := 8, g := 29, args := [(.row 41), (.row 41), (.row 41)], res := [(.cell (.sc .b))] }
/-- calamus/calamusref03.Valid -/
def q_rvalid : Sig := { f := 91, g := 30, args := [(.cell (.sc .s))], res := [(.cell (.sc .b))] }
/-- calamus/calamusref03.Count -/
def q_rcount : Sig := { f := 99, g := 31, args := [(.cell (.sc .s))], res := [(.cell (.sc (.i .i64))), (.cell (.sc (.i .i64)))] }
/-- calamus/calamusref03.Decode -/
def q_rdecode : Sig := { f := 113, g := 32, args := [(.cell (.sc .s)), (.cell (.sc (.i .i64)))], res := [(.cell (.sc (.i .i64))), (.cell (.sc (.i .i64))), (.cell (.sc (.i .i64)))] }
/-- calamus/calamusref03.Begins -/
def q_rbegins : Sig := { f := 127, g := 33, args := [(.cell (.sc .s))], res := [(.cell (.sc .b))] }
/-- calamus/calamusref03.bytes -/
def q_rbytes : Sig := { f := 126, g := 34, args := [(.cell (.sc (.i .i64)))], res := [(.cell (.sc .s))] }
/-- calamus/calamusref03.number -/
def q_rnumber : Sig := { f := 124, g := 35, args := [(.cell (.sc .s)), (.cell (.sc (.i .i64)))], res := [(.cell (.sc (.i .i64)))] }
/-- calamus/calamusref03.long -/
def q_rlong : Sig := { f := 123, g := 54, args := [(.cell (.sc (.i .u8)))], res := [(.cell (.sc (.i .i64)))] }
/-- calamus/calamusref03.Is -/
def q_ris : Sig := { f := 125, g := 55, args := [(.cell (.sc (.i .i64)))], res := [(.cell (.sc .b))] }
/-- calamus/types.formed -/
def q_tformed : Sig := { f := 56, g := 58, args := [(.row 26)], res := [(.cell (.sc .b))] }
/-- slices.IndexFunc[[]string,string] -/
def q_tixval : Sig := { f := 85, g := 59, args := [(.cell (.sl 9)), (.fn 77 [])], res := [(.cell (.sc (.i .i64)))] }
/-- slices.IndexFunc[[]calamus/api.Type,calamus/api.Type] -/
def q_tixform : Sig := { f := 92, g := 60, args := [(.cell (.sl 26)), (.fn 79 [])], res := [(.cell (.sc (.i .i64)))] }
/-- calamus/types.span -/
def q_tspan : Sig := { f := 57, g := 61, args := [(.row 26)], res := [(.cell (.sc (.i .i64))), (.cell (.sc (.i .i64))), (.cell (.sc .b))] }
/-- slices.IndexFunc[[]string,string] -/
def q_tixspan : Sig := { f := 85, g := 62, args := [(.cell (.sl 9)), (.fn 80 [])], res := [(.cell (.sc (.i .i64)))] }
/-- calamus/types.Check -/
def q_tcheck : Sig := { f := 37, g := 63, args := [(.row 26)], res := [(.cell (.sc (.i .i64)))] }
/-- calamus/types.has -/
def q_thas : Sig := { f := 40, g := 64, args := [(.row 26), (.row 41)], res := [(.cell (.sc .b))] }
/-- slices.IndexFunc[[]calamus/api.Value,calamus/api.Value] -/
def q_tixhas : Sig := { f := 81, g := 65, args := [(.cell (.sl 41)), (.fn 59 [26])], res := [(.cell (.sc (.i .i64)))] }
/-- slices.Index[[]string,string] -/
def q_sindex : Sig := { f := 60, g := 66, args := [(.cell (.sl 9)), (.cell (.sc .s))], res := [(.cell (.sc (.i .i64)))] }
/-- calamus/types.Has -/
def q_tHas : Sig := { f := 18, g := 67, args := [(.row 26), (.row 41)], res := [(.cell (.sc .b)), (.cell (.sc (.i .i64)))] }
/-- calamus/types.sub -/
def q_tsub : Sig := { f := 30, g := 68, args := [(.row 26), (.row 26)], res := [(.cell (.sc .b))] }
/-- slices.EqualFunc[[]calamus/api.Type,[]calamus/api.Type,calamus/api.Type,calamus/api.Type] -/
def q_eqtyps : Sig := { f := 48, g := 69, args := [(.cell (.sl 26)), (.cell (.sl 26)), (.fn 30 [])], res := [(.cell (.sc .b))] }
/-- calamus/types.both -/
def q_tboth : Sig := { f := 29, g := 70, args := [(.row 26), (.row 26)], res := [(.cell (.sc (.i .i64)))] }
/-- calamus/types.Sub -/
def q_tSub : Sig := { f := 11, g := 71, args := [(.row 26), (.row 26)], res := [(.cell (.sc .b)), (.cell (.sc (.i .i64)))] }
/-- calamus/calamuskeep.parts -/
def q_kparts : Sig := { f := 27, g := 72, args := [(.row 26), (.cell (.sc (.i .i64))), (.cell (.sc (.i .i64))), (.cell (.sc (.i .i64)))], res := [(.cell (.sc (.i .i64)))] }
/-- calamus/calamuskeep.wide -/
def q_kwide : Sig := { f := 28, g := 73, args := [(.row 26)], res := [(.cell (.sc .b))] }
/-- calamus/calamuslaw11.awake -/
def q_tawake : Sig := { f := 15, g := 74, args := [], res := [(.cell (.sc .b))] }
/-- calamus/calamuslaw11.TypesParts -/
def q_lparts : Sig := { f := 4, g := 75, args := [(.row 26), (.row 26), (.row 41)], res := [(.cell (.sc .b))] }
/-- calamus/calamuslaw11.TypesAny -/
def q_lany : Sig := { f := 6, g := 76, args := [(.row 26), (.row 41)], res := [(.cell (.sc .b))] }
/-- calamus/types.places -/
def q_tplaces : SigM := { f := 47, g := 57, args := [.sh (.cell (.sl 9))], res := [.mp .s (.i .i64)], back := [], backE := [], pan := none }
theorem shV : (kn [] tb).shape 41 = valCT 41 9 := rfl
theorem shS : (kn [] tb).shape 9 = [.sc .s] := rfl
/-- The functions of which more is asked. -/
def special (g : Nat) : Bool := match g with | 20 | 21 | 23 | 24 | 25 | 26 | 33 | 35 | 37 | 38 | 39 | 43 | 47 | 49 | 50 | 51 | 56 | 64 | 65 | 68 | 69 => true | _ => false
def needK (g : Nat) (es : List E) : List E := bif special g then [.app 1000 es, .app (2000 + g) es] else [.app 1000 es]
noncomputable def orcL : List Sig → Ab.Call
  | [] => noOrc
  | q :: r => orElse (ctrOrc tb q (needK q.g)) (orcL r)
noncomputable def selfL (deps : List Sig) : Ab.Call := evFn Tryd.prog (tabsG tabs) (fun _ => false) (evDrawnX Tryd.prog (tabsG tabs)) 400 (orcL deps) 40
noncomputable def runL (deps : List Sig) : Code → Tm → St → Option (Ex × Tm × St) := evCode Tryd.prog (tabsG tabs) (evDrawnX Tryd.prog (tabsG tabs)) (selfL deps) false 400
noncomputable def checkHeads (q : Sig) (fn : Func) (c : Code) (deps : List Sig) (heads : List Hd) : List Tree → Nat → Bool
  | [], j => Nat.beq heads.length j
  | t :: r, j => t.ok (runHead Tryd.prog (tabsG tabs) (fun _ => false) (runL deps) tb q fn c heads 400 j) [] && checkHeads q fn c deps heads r (j + 1)
/-- The trees are the function's ways. -/
noncomputable def check (q : Sig) (deps : List Sig) (heads : List Hd) (entry : Tree) (trees : List Tree) : Bool :=
  match Tryd.prog.funcs[q.f]? with
  | some fn =>
    match fn.body with
    | some c => Nat.ble (q.args.length + fn.ntmps) Tr.lid && (heads.all fun h => Nat.ble h.ents.length Tr.lid) && entry.ok (runEntry Tryd.prog (tabsG tabs) (fun _ => false) (runL deps) tb q fn c heads 400) [] && checkHeads q fn c deps heads trees 0
    | none => false
  | none => false
section
variable [Interp]
abbrev Ok (q : Sig) (pre : List D → Prop) : Prop := FnOk Tryd.prog tabs tb q pre
/-- What may be asked of what is handed in. -/
def okS (n g : Nat) (ds : List D) : Prop := okD n ds ∧ (special g = true → Interp.phi (2000 + g) ds = .v (.bool true))
theorem Ok.less {q : Sig} {p p' : List D → Prop} (h : Ok q p) (hp : ∀ ds, p' ds → p ds) : Ok q p' := fun W J vs ds hL hI ha h' => h W J vs ds hL hI ha (hp _ h')
theorem okS_of {q : Sig} {n : Nat} (h : Ok q (okD n)) : Ok q (okS n q.g) := h.less fun _ h => h.1
theorem orcL_ok {n : Nat} (hphi : ∀ ds, Interp.phi 1000 ds = .v (.bool true) → okD n ds) {B0 : Nat} {w0 : World} : ∀ {l : List Sig}, (∀ q, q ∈ l → Ok q (okS n q.g)) → CallOk Tryd.prog (tabsG tabs) B0 w0 (orcL l)
  | [], _ => noOrc_ok
  | q :: r, h => orElse_ok (ctrOrc_ok tabs_nodup tabs_plain (h q (List.mem_cons_self ..)) fun env es hn => by
      unfold needK at hn
      cases hs : special q.g with
      | false =>
        rw [hs] at hn
        have := hn _ (List.mem_singleton.2 rfl)
        exact ⟨hphi _ (by simpa only [E.den] using this), fun h => by rw [hs] at h; cases h⟩
      | true =>
        rw [hs] at hn
        have h1 := hn _ (List.mem_cons_self ..)
        have h2 := hn _ (List.mem_cons_of_mem _ (List.mem_singleton.2 rfl))
        exact ⟨hphi _ (by simpa only [E.den] using h1), fun _ => by simpa only [E.den] using h2⟩) (orcL_ok hphi fun q' hq' => h q' (List.mem_cons_of_mem _ hq'))
theorem checkHeads_get {q : Sig} {fn : Func} {c : Code} {deps : List Sig} {heads : List Hd} : ∀ {trees : List Tree} {j : Nat}, checkHeads q fn c deps heads trees j = true → heads.length = j + trees.length ∧ ∀ (i : Nat) (t : Tree), trees[i]? = some t → t.ok (runHead Tryd.prog (tabsG tabs) (fun _ => false) (runL deps) tb q fn c heads 400 (j + i)) [] = true
  | [], j, h => ⟨by unfold checkHeads at h; rw [nbe h]; rfl, fun i t ht => by simp at ht⟩
  | t :: r, j, h => by
    unfold checkHeads at h
    rw [Bool.and_eq_true] at h
    obtain ⟨k1, k2⟩ := checkHeads_get h.2
    refine ⟨by rw [k1, List.length_cons]; omega, fun i t' ht => ?_⟩
    cases i with
    | zero => simp only [List.getElem?_cons_zero, Option.some.injEq] at ht; subst ht; exact h.1
    | succ i =>
      have := k2 i t' (by simpa using ht)
      rw [show j + 1 + i = j + (i + 1) by omega] at this; exact this
/-- A function's contract, by its ways. -/
theorem fn_okS {n : Nat} (hphi : ∀ ds, Interp.phi 1000 ds = .v (.bool true) → okD n ds) {q : Sig} {deps : List Sig} {heads : List Hd} {entry : Tree} {trees : List Tree} (hc : check q deps heads entry trees = true) (hdeps : ∀ q, q ∈ deps → Ok q (okS n q.g)) {pre : List D → Prop} (Inv : Nat → D → List D → Prop) (meas : Nat → List D → Nat)
    (h0 : ∀ ds, FitL tb q.args ds → pre ds → entry.holds (fun o => match o with | .ret d => d = Interp.phi q.g ds | .go j es => Inv j (Interp.phi q.g ds) es) (envOf ds))
    (hj : ∀ j h t d ds, heads[j]? = some h → trees[j]? = some t → FitE tb h.ents ds → Inv j d ds → t.holds (fun o => match o with | .ret x => x = d | .go i es => Inv i d es ∧ meas i es < meas j ds) (envOf ds)) : Ok q pre := by
  unfold check at hc
  split at hc
  · rename_i fn hfn
    split at hc
    · rename_i c hb
      simp only [Bool.and_eq_true] at hc
      obtain ⟨⟨⟨c1, c2⟩, c3⟩, c4⟩ := hc
      obtain ⟨k1, k2⟩ := checkHeads_get c4
      rw [Nat.zero_add] at k1
      have hget : ∀ j h, heads[j]? = some h → ∃ t, trees[j]? = some t := fun j h hj => ⟨_, List.getElem?_eq_getElem (by rw [← k1]; exact (List.getElem?_eq_some_iff.1 hj).1)⟩
      refine fnOk_tree (mu := fun _ => false) (orc := orcL deps) (K := 400) (k := 40) (fuel := 400) noNum Tryd.checked.mixed (fun B0 w0 => orcL_ok hphi hdeps) tabs_nodup tabs_plain hfn hb c1 heads c2 entry (fun j => (trees[j]?).getD .dead) c3 (fun j h hh => ?_) Inv meas h0 (fun j h d ds hh hf hi => ?_)
      · obtain ⟨t, ht⟩ := hget j h hh
        have := k2 j t ht
        rw [Nat.zero_add] at this
        rw [ht]; exact this
      · obtain ⟨t, ht⟩ := hget j h hh
        rw [ht]
        exact hj j h t d ds hh ht hf hi
    · cases hc
  · cases hc
theorem fn_ok {n : Nat} (hphi : ∀ ds, Interp.phi 1000 ds = .v (.bool true) → okD n ds) {q : Sig} {deps : List Sig} {heads : List Hd} {entry : Tree} {trees : List Tree} (hc : check q deps heads entry trees = true) (hdeps : ∀ q, q ∈ deps → Ok q (okD n)) {pre : List D → Prop} (Inv : Nat → D → List D → Prop) (meas : Nat → List D → Nat)
    (h0 : ∀ ds, FitL tb q.args ds → pre ds → entry.holds (fun o => match o with | .ret d => d = Interp.phi q.g ds | .go j es => Inv j (Interp.phi q.g ds) es) (envOf ds))
    (hj : ∀ j h t d ds, heads[j]? = some h → trees[j]? = some t → FitE tb h.ents ds → Inv j d ds → t.holds (fun o => match o with | .ret x => x = d | .go i es => Inv i d es ∧ meas i es < meas j ds) (envOf ds)) : Ok q pre :=
  fn_okS hphi hc (fun q hq => okS_of (hdeps q hq)) Inv meas h0 hj
/-! ### With objects -/
abbrev OkM (q : SigM) (pre : List D → Prop) : Prop := FnOkM Tryd.prog tabs tb q pre
def Goes (q : SigM) : Prop := q.pan.isSome = true → ∀ ds, ∃ b : Bool, Interp.phi (3000 + q.g) ds = D.ofBool b ∧ (b = true ↔ Interp.phi q.g ds ≠ .nil)
theorem OkM.less {q : SigM} {p p' : List D → Prop} (h : OkM q p) (hp : ∀ ds, p' ds → p ds) : OkM q p' := fun W J vs ds bs hL hI ha hn hd h' => h W J vs ds bs hL hI ha hn hd (hp _ h')
theorem okSM_of {q : SigM} {n : Nat} (h : OkM q (okD n)) : OkM q (okS n q.g) := h.less fun _ h => h.1
end
noncomputable def orcML : List SigM → Ab.Call
  | [] => noOrc
  | q :: r => orElse (ctrOrcM tb q (needK q.g)) (orcML r)
noncomputable def selfN (deps : List Sig) (depsM : List SigM) : Ab.Call := evFn Tryd.prog (tabsG tabs) (fun _ => false) (evDrawnX Tryd.prog (tabsG tabs)) 400 (orElse (orcL deps) (orcML depsM)) 40
noncomputable def runN (deps : List Sig) (depsM : List SigM) : Code → Tm → St → Option (Ex × Tm × St) := evCode Tryd.prog (tabsG tabs) (evDrawnX Tryd.prog (tabsG tabs)) (selfN deps depsM) false 400
noncomputable def checkHeadsN (run : Nat → List E → Option Out) : List Tree → Nat → Bool
  | [], j => true
  | t :: r, j => t.ok (run j) [] && checkHeadsN run r (j + 1)
/-- The trees are the function's ways; some of what it calls has objects lent. -/
noncomputable def checkN (q : Sig) (deps : List Sig) (depsM : List SigM) (heads : List Hd) (entry : Tree) (trees : List Tree) : Bool :=
  match Tryd.prog.funcs[q.f]? with
  | some fn =>
    match fn.body with
    | some c => Nat.beq heads.length trees.length && Nat.ble (q.args.length + fn.ntmps) Tr.lid && (heads.all fun h => Nat.ble h.ents.length Tr.lid) && entry.ok (runEntry Tryd.prog (tabsG tabs) (fun _ => false) (runN deps depsM) tb q fn c heads 400) [] && checkHeadsN (runHead Tryd.prog (tabsG tabs) (fun _ => false) (runN deps depsM) tb q fn c heads 400) trees 0
    | none => false
  | none => false
noncomputable def checkM (q : SigM) (deps : List Sig) (depsM : List SigM) (heads : List HdM) (entry : Tree) (trees : List Tree) : Bool :=
  match Tryd.prog.funcs[q.f]? with
  | some fn =>
    match fn.body with
    | some c => Nat.beq heads.length trees.length && Nat.ble (q.args.length + fn.ntmps) Tr.lid && (heads.all fun h => Nat.ble h.ents.length Tr.lid) && entry.ok (runEntryM Tryd.prog (tabsG tabs) (fun _ => false) (runN deps depsM) tb q fn c heads 400) [] && checkHeadsN (runHeadM Tryd.prog (tabsG tabs) (fun _ => false) (runN deps depsM) tb q fn c heads 400) trees 0
    | none => false
  | none => false
theorem checkHeadsN_get {run : Nat → List E → Option Out} : ∀ {trees : List Tree} {j : Nat}, checkHeadsN run trees j = true → ∀ (i : Nat) (t : Tree), trees[i]? = some t → t.ok (run (j + i)) [] = true
  | [], j, h => fun i t ht => by simp at ht
  | t :: r, j, h => by
    unfold checkHeadsN at h
    rw [Bool.and_eq_true] at h
    intro i t' ht
    cases i with
    | zero => simp only [List.getElem?_cons_zero, Option.some.injEq] at ht; subst ht; exact h.1
    | succ i =>
      have := checkHeadsN_get h.2 i t' (by simpa using ht)
      rw [show j + 1 + i = j + (i + 1) by omega] at this; exact this
section
variable [Interp]
theorem orcML_ok {n : Nat} (hphi : ∀ ds, Interp.phi 1000 ds = .v (.bool true) → okD n ds) {B0 : Nat} {w0 : World} : ∀ {l : List SigM}, (∀ q, q ∈ l → OkM q (okS n q.g) ∧ Goes q) → CallOk Tryd.prog (tabsG tabs) B0 w0 (orcML l)
  | [], _ => noOrc_ok
  | q :: r, h => orElse_ok (ctrOrcM_ok tabs_nodup tabs_plain (h q (List.mem_cons_self ..)).1 (fun env es hn => by
      unfold needK at hn
      cases hs : special q.g with
      | false =>
        rw [hs] at hn
        have := hn _ (List.mem_singleton.2 rfl)
        exact ⟨hphi _ (by simpa only [E.den] using this), fun h => by rw [hs] at h; cases h⟩
      | true =>
        rw [hs] at hn
        have h1 := hn _ (List.mem_cons_self ..)
        have h2 := hn _ (List.mem_cons_of_mem _ (List.mem_singleton.2 rfl))
        exact ⟨hphi _ (by simpa only [E.den] using h1), fun _ => by simpa only [E.den] using h2⟩) (h q (List.mem_cons_self ..)).2) (orcML_ok hphi fun q' hq' => h q' (List.mem_cons_of_mem _ hq'))
/-- A function's contract, by its ways. -/
theorem fn_okN {n : Nat} (hphi : ∀ ds, Interp.phi 1000 ds = .v (.bool true) → okD n ds) {q : Sig} {deps : List Sig} {depsM : List SigM} {heads : List Hd} {entry : Tree} {trees : List Tree} (hc : checkN q deps depsM heads entry trees = true) (hdeps : ∀ q, q ∈ deps → Ok q (okS n q.g)) (hdepsM : ∀ q, q ∈ depsM → OkM q (okS n q.g) ∧ Goes q) {pre : List D → Prop} (Inv : Nat → D → List D → Prop) (meas : Nat → List D → Nat)
    (h0 : ∀ ds, FitL tb q.args ds → pre ds → entry.holds (fun o => match o with | .ret d => d = Interp.phi q.g ds | .go j es => Inv j (Interp.phi q.g ds) es) (envOf ds))
    (hj : ∀ j h t d ds, heads[j]? = some h → trees[j]? = some t → FitE tb h.ents ds → Inv j d ds → t.holds (fun o => match o with | .ret x => x = d | .go i es => Inv i d es ∧ meas i es < meas j ds) (envOf ds)) : Ok q pre := by
  unfold checkN at hc
  split at hc
  · rename_i fn hfn
    split at hc
    · rename_i c hb
      simp only [Bool.and_eq_true] at hc
      obtain ⟨⟨⟨⟨c0, c1⟩, c2⟩, c3⟩, c4⟩ := hc
      have k1 := nbe c0
      have k2 := checkHeadsN_get c4
      have hget : ∀ j h, heads[j]? = some h → ∃ t, trees[j]? = some t := fun j h hj => ⟨_, List.getElem?_eq_getElem (by rw [← k1]; exact (List.getElem?_eq_some_iff.1 hj).1)⟩
      refine fnOk_tree (mu := fun _ => false) (orc := orElse (orcL deps) (orcML depsM)) (K := 400) (k := 40) (fuel := 400) noNum Tryd.checked.mixed (fun B0 w0 => orElse_ok (orcL_ok hphi hdeps) (orcML_ok hphi hdepsM)) tabs_nodup tabs_plain hfn hb c1 heads c2 entry (fun j => (trees[j]?).getD .dead) c3 (fun j h hh => ?_) Inv meas h0 (fun j h d ds hh hf hi => ?_)
      · obtain ⟨t, ht⟩ := hget j h hh
        have := k2 j t ht
        rw [Nat.zero_add] at this
        rw [ht]; exact this
      · obtain ⟨t, ht⟩ := hget j h hh
        rw [ht]
        exact hj j h t d ds hh ht hf hi
    · cases hc
  · cases hc
theorem fn_okM {n : Nat} (hphi : ∀ ds, Interp.phi 1000 ds = .v (.bool true) → okD n ds) {q : SigM} {deps : List Sig} {depsM : List SigM} {heads : List HdM} {entry : Tree} {trees : List Tree} (hc : checkM q deps depsM heads entry trees = true) (hdeps : ∀ q, q ∈ deps → Ok q (okS n q.g)) (hdepsM : ∀ q, q ∈ depsM → OkM q (okS n q.g) ∧ Goes q) {pre : List D → Prop} (Inv : Nat → D → List D → Prop) (meas : Nat → List D → Nat)
    (h0 : ∀ ds, FitE tb q.args ds → pre ds → entry.holds (fun o => match o with | .ret d => d = Interp.phi q.g ds | .go j es => Inv j (Interp.phi q.g ds) es) (envOf ds))
    (hj : ∀ j h t d ds, heads[j]? = some h → trees[j]? = some t → FitE tb h.ents ds → Inv j d ds → t.holds (fun o => match o with | .ret x => x = d | .go i es => Inv i d es ∧ meas i es < meas j ds) (envOf ds)) : OkM q pre := by
  unfold checkM at hc
  split at hc
  · rename_i fn hfn
    split at hc
    · rename_i c hb
      simp only [Bool.and_eq_true] at hc
      obtain ⟨⟨⟨⟨c0, c1⟩, c2⟩, c3⟩, c4⟩ := hc
      have k1 := nbe c0
      have k2 := checkHeadsN_get c4
      have hget : ∀ j h, heads[j]? = some h → ∃ t, trees[j]? = some t := fun j h hj => ⟨_, List.getElem?_eq_getElem (by rw [← k1]; exact (List.getElem?_eq_some_iff.1 hj).1)⟩
      refine fnOkM_tree (mu := fun _ => false) (orc := orElse (orcL deps) (orcML depsM)) (K := 400) (k := 40) (fuel := 400) noNum Tryd.checked.mixed (fun B0 w0 => orElse_ok (orcL_ok hphi hdeps) (orcML_ok hphi hdepsM)) tabs_nodup tabs_plain hfn hb c1 heads c2 entry (fun j => (trees[j]?).getD .dead) c3 (fun j h hh => ?_) Inv meas h0 (fun j h d ds hh hf hi => ?_)
      · obtain ⟨t, ht⟩ := hget j h hh
        have := k2 j t ht
        rw [Nat.zero_add] at this
        rw [ht]; exact this
      · obtain ⟨t, ht⟩ := hget j h hh
        rw [ht]
        exact hj j h t d ds hh ht hf hi
    · cases hc
  · cases hc
end
end Go.Proofs.YtaeeblcdggjokaaDoor.Vk
