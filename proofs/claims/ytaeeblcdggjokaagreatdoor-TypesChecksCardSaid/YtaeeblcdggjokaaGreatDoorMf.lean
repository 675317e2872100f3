/- Merged own texts, without what this claim does not use. -/
import Derived.Test.YtaeeblcdggjokaaGreatDoorMd
import Derived.Test.YtaeeblcdggjokaaGreatDoorMe
import Derived.Test.YtaeeblcdggjokaaGreatDoorRows
import Derived.KernelRfl
import Derived.Lib.SlTrimSet
import Derived.Lib.ValidLaws
import Derived.Lib.Bytealg
import Derived.Shelf.Strings.Builder1
import Derived.Shelf.Strings.Builder2
import Derived.Shelf.Strings.Trim
import Derived.Shelf.Small.Utf8
import Derived.Shelf.Small.Strs
import Derived.Shelf.Strings.BuilderF
import Derived.Shelf.Strings.Search1
import Derived.Shelf.Strings.Prefix
import Derived.Shelf.Unicode.Decode
import Derived.Shelf.Strings.Runes
import Derived.Shelf.Strings.AsciiSet
import Derived.Shelf.Bits.Mul64
import Derived.Shelf.Strings.Repeat
import Derived.Shelf.Unicode.DecodeSlow
import Derived.Shelf.Unicode.DecodeAny
import Derived.Shelf.Unicode.DecodeLast
import Derived.Ground.Names2Prog
import Derived.Shelf.Slices.Clone
import Derived.Shelf.Slices.SearchI
import Derived.Ground.SlgnProg
import Derived.Shelf.SlicesE.Clone
import Derived.Shelf.Strings.SlTrimAscii
import Derived.Shelf.Unicode.ValidAny
import Derived.Test.YtaeeblcdggjokaaGreatDoorProg
import Derived.Lib.Repeat
set_option maxRecDepth 100000
set_option linter.unusedVariables false
set_option linter.unusedSimpArgs false
set_option linter.unusedSectionVars false
set_option linter.constructorNameAsVariable false
namespace Go.Ab
def E.v0 : E := .var 0
def E.v1 : E := .var 1
def E.v2 : E := .var 2
def E.v3 : E := .var 3
def E.v4 : E := .var 4
def E.v5 : E := .var 5
def E.i (x : Int) : E := .lit (.int .i64 x)
def E.c (k : Nat) (x : E) : E := .pr (.cell k) [x]
def E.n (x : E) : E := .pr .len [x]
def E.a (x y : E) : E := .pr .at [x, y]
def E.lt (x y : E) : E := .pr (.icmp .lss) [x, y]
def E.le (x y : E) : E := .pr (.icmp .leq) [x, y]
def E.eq (x y : E) : E := .pr (.icmp .eql) [x, y]
def E.ge (x y : E) : E := .pr (.icmp .geq) [x, y]
def E.gt (x y : E) : E := .pr (.icmp .gtr) [x, y]
def E.ne (x y : E) : E := .pr (.icmp .neq) [x, y]
def E.r3 (x : E) : E := .pr .row [.pr (.cell 0) [x], .pr (.cell 1) [x], .pr (.cell 2) [x]]
def E.r9 (x : E) : E := .pr .row [.pr (.cell 0) [x], .pr (.cell 1) [x], .pr (.cell 2) [x], .pr (.cell 3) [x], .pr (.cell 4) [x], .pr (.cell 5) [x], .pr (.cell 6) [x], .pr (.cell 7) [x], .pr (.cell 8) [x]]
def Tree.no : Tree := .leaf (.ret (.lit (.bool false)))
def Tree.ye : Tree := .leaf (.ret (.lit (.bool true)))
def Tree.rt (x : E) : Tree := .leaf (.ret x)
def Tree.g (j : Nat) (x : List E) : Tree := .leaf (.go j x)
theorem dt : (E.v0 = E.var 0) /\ (E.v1 = E.var 1) /\ (E.v2 = E.var 2) /\ (E.v3 = E.var 3) /\ (E.v4 = E.var 4) /\ (E.v5 = E.var 5) /\ (∀ (x : Int), E.i x = E.lit (.int .i64 x)) /\ (∀ (k : Nat) (x : E), E.c k x = E.pr (.cell k) [x]) /\ (∀ (x : E), E.n x = E.pr .len [x]) /\ (∀ (x y : E), E.a x y = E.pr .at [x, y]) /\ (∀ (x y : E), E.lt x y = E.pr (.icmp .lss) [x, y]) /\ (∀ (x y : E), E.le x y = E.pr (.icmp .leq) [x, y]) /\ (∀ (x y : E), E.eq x y = E.pr (.icmp .eql) [x, y]) /\ (∀ (x y : E), E.ge x y = E.pr (.icmp .geq) [x, y]) /\ (∀ (x y : E), E.gt x y = E.pr (.icmp .gtr) [x, y]) /\ (∀ (x y : E), E.ne x y = E.pr (.icmp .neq) [x, y]) /\ (∀ (x : E), E.r3 x = E.pr .row [.pr (.cell 0) [x], .pr (.cell 1) [x], .pr (.cell 2) [x]]) /\ (∀ (x : E), E.r9 x = E.pr .row [.pr (.cell 0) [x], .pr (.cell 1) [x], .pr (.cell 2) [x], .pr (.cell 3) [x], .pr (.cell 4) [x], .pr (.cell 5) [x], .pr (.cell 6) [x], .pr (.cell 7) [x], .pr (.cell 8) [x]]) /\ (Tree.no = Tree.leaf (.ret (.lit (.bool false)))) /\ (Tree.ye = Tree.leaf (.ret (.lit (.bool true)))) /\ (∀ (x : E), Tree.rt x = Tree.leaf (.ret x)) /\ (∀ (j : Nat) (x : List E), Tree.g j x = Tree.leaf (.go j x)) := ⟨rfl, rfl, rfl, rfl, rfl, rfl, fun _ => rfl, fun _ _ => rfl, fun _ => rfl, fun _ _ => rfl, fun _ _ => rfl, fun _ _ => rfl, fun _ _ => rfl, fun _ _ => rfl, fun _ _ => rfl, fun _ _ => rfl, fun _ => rfl, fun _ => rfl, rfl, rfl, fun _ => rfl, fun _ _ => rfl⟩
theorem dn : type_of% (And.intro @den1 (And.intro @den2 (And.intro @den3 (And.intro @den4 (And.intro @den5 (And.intro @den6 (And.intro @den7 (And.intro @den8 (And.intro @Bool.not_eq_true' (And.intro @Bool.not_eq_false' (And.intro @true_and (And.intro @and_true (dt))))))))))))) := And.intro @den1 (And.intro @den2 (And.intro @den3 (And.intro @den4 (And.intro @den5 (And.intro @den6 (And.intro @den7 (And.intro @den8 (And.intro @Bool.not_eq_true' (And.intro @Bool.not_eq_false' (And.intro @true_and (And.intro @and_true (dt))))))))))))
end Go.Ab
/- The seat's functions by their ways: what is asked for one of them, and what all share. -/
namespace Go.Proofs.YtaeeblcdggjokaaGreatDoor.Vk
open Go Go.Ab Go.RowKit
theorem noNum : NoNum Tryz.prog := by
 have h : (Tryz.prog.funcs.all fun fn => !(fn.name == "runtime.NumGoroutine")) = true := by kernel_rfl
 intro f fn hf
 have := Array.all_eq_true_iff_forall_mem.1 h fn (Array.mem_of_getElem? hf)
 simpa using this
noncomputable def tabs : List (Nat × List Value) := laidTabs Tryz.prog Rows.typesChecksRow.laid
theorem tabs_nodup : (tabs.map (·.1)).Nodup := of_decide_eq_true (by kernel_rfl)
theorem tabs_plain : (tabs.all fun x => x.2.all scalar) = true := by kernel_rfl
def tb : List (Nat × List CT) := [(33, [.sc (.i .i64), .sc .b, .sc .b, .sc .s, .sc (.i .i64), .sc (.i .u64), .sc .s, .sl 9, .sl 33]), (9, [.sc .s]), (29, [.sc .b, .sc .s, .sc (.i .i64)]), (83, [.sc .s, .sc (.i .i64), .sc .b, .sc .b, .sc .s, .sc (.i .i64), .sc (.i .u64), .sc .s, .sl 9, .sl 33]), (26, [.sc (.i .i64), .sl 9, .sl 26]), (3, [.sc (.i .i64)])]
def muL : List Nat := []
def muF (f : Nat) : Bool := muL.any (Nat.beq f)
def q_depth : Sig := { f := 19, g := 0, args := [(.row 33)], res := [(.cell (.sc (.i .i64)))] }
def q_size : Sig := { f := 21, g := 1, args := [(.row 33)], res := [(.cell (.sc (.i .i64)))] }
def q_formed : Sig := { f := 43, g := 2, args := [(.row 33)], res := [(.cell (.sc .b))] }
def q_ixformed : Sig := { f := 89, g := 3, args := [(.cell (.sl 33)), (.fn 71 [])], res := [(.cell (.sc (.i .i64)))] }
def q_names : Sig := { f := 70, g := 4, args := [(.cell (.sl 9))], res := [(.cell (.sc .b))] }
def q_numcheck : Sig := { f := 69, g := 5, args := [(.row 29)], res := [(.cell (.sc (.i .i64)))] }
def q_trim : Sig := { f := 106, g := 6, args := [(.cell (.sc .s)), (.lit (mkS [48, 49, 50, 51, 52, 53, 54, 55, 56, 57]))], res := [(.cell (.sc .s))] }
def q_valid : Sig := { f := 87, g := 7, args := [(.cell (.sc .s))], res := [(.cell (.sc .b))] }
def q_short : Sig := { f := 44, g := 8, args := [(.row 33)], res := [(.cell (.sc .b))] }
def q_ixshort1 : Sig := { f := 86, g := 9, args := [(.cell (.sl 9)), (.fn 72 [])], res := [(.cell (.sc (.i .i64)))] }
def q_ixshort2 : Sig := { f := 89, g := 10, args := [(.cell (.sl 33)), (.fn 73 [])], res := [(.cell (.sc (.i .i64)))] }
def q_parts : Sig := { f := 29, g := 11, args := [(.row 33), (.cell (.sc (.i .i64))), (.cell (.sc (.i .i64))), (.cell (.sc (.i .i64)))], res := [(.cell (.sc (.i .i64)))] }
def q_many : Sig := { f := 30, g := 12, args := [(.row 33)], res := [(.cell (.sc .b))] }
def q_check : Sig := { f := 16, g := 13, args := [(.row 33)], res := [(.cell (.sc (.i .i64)))] }
def q_eqstrs : Sig := { f := 51, g := 16, args := [(.cell (.sl 9)), (.cell (.sl 9))], res := [(.cell (.sc .b))] }
def q_rvalid : Sig := { f := 93, g := 30, args := [(.cell (.sc .s))], res := [(.cell (.sc .b))] }
def q_rcount : Sig := { f := 105, g := 31, args := [(.cell (.sc .s))], res := [(.cell (.sc (.i .i64))), (.cell (.sc (.i .i64)))] }
def q_rdecode : Sig := { f := 114, g := 32, args := [(.cell (.sc .s)), (.cell (.sc (.i .i64)))], res := [(.cell (.sc (.i .i64))), (.cell (.sc (.i .i64))), (.cell (.sc (.i .i64)))] }
def q_rbegins : Sig := { f := 133, g := 33, args := [(.cell (.sc .s))], res := [(.cell (.sc .b))] }
def q_rbytes : Sig := { f := 132, g := 34, args := [(.cell (.sc (.i .i64)))], res := [(.cell (.sc .s))] }
def q_rnumber : Sig := { f := 130, g := 35, args := [(.cell (.sc .s)), (.cell (.sc (.i .i64)))], res := [(.cell (.sc (.i .i64)))] }
def q_rall : Sig := { f := 108, g := 36, args := [(.cell (.sc .s))], res := [(.cell (.sc .b))] }
def q_runlike : Sig := { f := 97, g := 40, args := [(.cell (.sl 9))], res := [(.cell (.sc .b))] }
def q_rplain : Sig := { f := 74, g := 41, args := [(.row 33)], res := [(.cell (.sc .b))] }
def q_rown : Sig := { f := 75, g := 42, args := [(.row 33)], res := [(.cell (.sc .b))] }
def q_rformed : Sig := { f := 47, g := 43, args := [(.row 33)], res := [(.cell (.sc .b))] }
def q_rdepth : Sig := { f := 20, g := 44, args := [(.row 33)], res := [(.cell (.sc (.i .i64)))] }
def q_rsize : Sig := { f := 22, g := 45, args := [(.row 33)], res := [(.cell (.sc (.i .i64)))] }
def q_rshort : Sig := { f := 76, g := 46, args := [(.row 33)], res := [(.cell (.sc .b))] }
def q_rcheck : Sig := { f := 18, g := 47, args := [(.row 33)], res := [(.cell (.sc (.i .i64)))] }
def q_copy : Sig := { f := 9, g := 51, args := [(.row 33)], res := [(.row 33)] }
def q_rlong : Sig := { f := 129, g := 54, args := [(.cell (.sc (.i .u8)))], res := [(.cell (.sc (.i .i64)))] }
def q_ris : Sig := { f := 131, g := 55, args := [(.cell (.sc (.i .i64)))], res := [(.cell (.sc .b))] }
def q_tformed : Sig := { f := 31, g := 58, args := [(.row 26)], res := [(.cell (.sc .b))] }
def q_tixval : Sig := { f := 86, g := 59, args := [(.cell (.sl 9)), (.fn 55 [])], res := [(.cell (.sc (.i .i64)))] }
def q_tixform : Sig := { f := 88, g := 60, args := [(.cell (.sl 26)), (.fn 58 [])], res := [(.cell (.sc (.i .i64)))] }
def q_tspan : Sig := { f := 32, g := 61, args := [(.row 26)], res := [(.cell (.sc (.i .i64))), (.cell (.sc (.i .i64))), (.cell (.sc .b))] }
def q_tixspan : Sig := { f := 86, g := 62, args := [(.cell (.sl 9)), (.fn 59 [])], res := [(.cell (.sc (.i .i64)))] }
def q_tcheck : Sig := { f := 10, g := 63, args := [(.row 26)], res := [(.cell (.sc (.i .i64)))] }
def q_thas : Sig := { f := 33, g := 64, args := [(.row 26), (.row 33)], res := [(.cell (.sc .b))] }
def q_tixhas : Sig := { f := 89, g := 65, args := [(.cell (.sl 33)), (.fn 61 [26])], res := [(.cell (.sc (.i .i64)))] }
def q_sindex : Sig := { f := 62, g := 66, args := [(.cell (.sl 9)), (.cell (.sc .s))], res := [(.cell (.sc (.i .i64)))] }
def q_tHas : Sig := { f := 11, g := 67, args := [(.row 26), (.row 33)], res := [(.cell (.sc .b)), (.cell (.sc (.i .i64)))] }
def q_kparts : Sig := { f := 27, g := 72, args := [(.row 26), (.cell (.sc (.i .i64))), (.cell (.sc (.i .i64))), (.cell (.sc (.i .i64)))], res := [(.cell (.sc (.i .i64)))] }
def q_kwide : Sig := { f := 28, g := 73, args := [(.row 26)], res := [(.cell (.sc .b))] }
def q_tawake : Sig := { f := 13, g := 74, args := [], res := [(.cell (.sc .b))] }
def q_urplace : Sig := { f := 63, g := 120, args := [(.cell (.sl 9)), (.cell (.sc .s))], res := [(.cell (.sc (.i .i64)))] }
def q_urnames : Sig := { f := 68, g := 121, args := [(.cell (.sl 9))], res := [(.cell (.sc .b))] }
def q_urformed : Sig := { f := 39, g := 122, args := [(.row 26)], res := [(.cell (.sc .b))] }
def q_urdepth : Sig := { f := 41, g := 123, args := [(.row 26)], res := [(.cell (.sc (.i .i64)))] }
def q_ursize : Sig := { f := 42, g := 124, args := [(.row 26)], res := [(.cell (.sc (.i .i64)))] }
def q_urshort : Sig := { f := 40, g := 125, args := [(.row 26)], res := [(.cell (.sc .b))] }
def q_urcheck : Sig := { f := 14, g := 126, args := [(.row 26)], res := [(.cell (.sc (.i .i64)))] }
def q_urin : Sig := { f := 34, g := 127, args := [(.row 26), (.row 33)], res := [(.cell (.sc .b))] }
def q_urhas : Sig := { f := 12, g := 128, args := [(.row 26), (.row 33)], res := [(.cell (.sc .b)), (.cell (.sc (.i .i64)))] }
def q_ursame : Sig := { f := 15, g := 129, args := [(.row 26), (.row 26)], res := [(.cell (.sc .b))] }
def q_tcopy : Sig := { f := 8, g := 130, args := [(.row 26)], res := [(.row 26)] }
def q_lchecks : Sig := { f := 3, g := 131, args := [(.row 26), (.row 33)], res := [(.cell (.sc .b))] }
def q_tplaces : SigM := { f := 53, g := 57, args := [.sh (.cell (.sl 9))], res := [.mp .s (.i .i64)], back := [], backE := [], pan := none }
theorem shV : (kn [] tb).shape 33 = valCT 33 9 := rfl
theorem shS : (kn [] tb).shape 9 = [.sc .s] := rfl
def special (g : Nat) : Bool := match g with | 20 | 21 | 23 | 24 | 25 | 26 | 33 | 35 | 37 | 38 | 39 | 43 | 47 | 49 | 50 | 51 | 56 | 64 | 65 | 68 | 69 | 80 | 82 | 105 | 106 | 127 | 130 => true | _ => false
def needK (g : Nat) (es : List E) : List E := bif special g then [.app 1000 es, .app (2000 + g) es] else [.app 1000 es]
noncomputable def orcL : List Sig -> Ab.Call
 | [] => noOrc
 | q :: r => orElse (ctrOrc tb q (needK q.g)) (orcL r)
noncomputable def selfL (deps : List Sig) : Ab.Call := evFn Tryz.prog (tabsG tabs) muF (evDrawnX Tryz.prog (tabsG tabs)) 400 (orcL deps) 40
noncomputable def runL (deps : List Sig) : Code -> Tm -> St -> Option (Ex × Tm × St) := evCode Tryz.prog (tabsG tabs) (evDrawnX Tryz.prog (tabsG tabs)) (selfL deps) false 400
noncomputable def checkHeads (q : Sig) (fn : Func) (c : Code) (deps : List Sig) (heads : List Hd) : List Tree -> Nat -> Bool
 | [], j => Nat.beq heads.length j
 | t :: r, j => t.ok (runHead Tryz.prog (tabsG tabs) muF (runL deps) tb q fn c heads 400 j) [] && checkHeads q fn c deps heads r (j + 1)
noncomputable def check (q : Sig) (deps : List Sig) (heads : List Hd) (entry : Tree) (trees : List Tree) : Bool :=
 match Tryz.prog.funcs[q.f]? with
 | some fn =>
  match fn.body with
  | some c => Nat.ble (q.args.length + fn.ntmps) Tr.lid && (heads.all fun h => Nat.ble h.ents.length Tr.lid) && entry.ok (runEntry Tryz.prog (tabsG tabs) muF (runL deps) tb q fn c heads 400) [] && checkHeads q fn c deps heads trees 0
  | none => false
 | none => false
section
variable [Interp]
abbrev Ok (q : Sig) (pre : List D -> Prop) : Prop := FnOk Tryz.prog tabs tb q pre
def okS (n g : Nat) (ds : List D) : Prop := okD n ds /\ (special g = true -> Interp.phi (2000 + g) ds = .v (.bool true))
theorem Ok.less {q : Sig} {p p' : List D -> Prop} (h : Ok q p) (hp : ∀ ds, p' ds -> p ds) : Ok q p' := fun W J vs ds hL hI ha h' => h W J vs ds hL hI ha (hp _ h')
theorem okS_of {q : Sig} {n : Nat} (h : Ok q (okD n)) : Ok q (okS n q.g) := h.less fun _ h => h.1
theorem orcL_ok {n : Nat} (hphi : ∀ ds, Interp.phi 1000 ds = .v (.bool true) -> okD n ds) {B0 : Nat} {w0 : World} : ∀ {l : List Sig}, (∀ q, q ∈ l -> Ok q (okS n q.g)) -> CallOk Tryz.prog (tabsG tabs) B0 w0 (orcL l)
 | [], _ => noOrc_ok
 | q :: r, h => orElse_ok (ctrOrc_ok tabs_nodup tabs_plain (h q (List.mem_cons_self ..)) fun env es hn => by
   unfold needK at hn
   cases hs : special q.g with
   | false =>
    rw [hs] at hn
    have := hn _ (List.mem_singleton.2 rfl)
    exact ⟨hphi _ (by simpa only [E.den] using this), fun h => by rw [hs] at h; cases h⟩
   | true =>
    rw [hs] at hn
    have h1 := hn _ (List.mem_cons_self ..)
    have h2 := hn _ (List.mem_cons_of_mem _ (List.mem_singleton.2 rfl))
    exact ⟨hphi _ (by simpa only [E.den] using h1), fun _ => by simpa only [E.den] using h2⟩) (orcL_ok hphi fun q' hq' => h q' (List.mem_cons_of_mem _ hq'))
theorem checkHeads_get {q : Sig} {fn : Func} {c : Code} {deps : List Sig} {heads : List Hd} : ∀ {trees : List Tree} {j : Nat}, checkHeads q fn c deps heads trees j = true -> heads.length = j + trees.length /\ ∀ (i : Nat) (t : Tree), trees[i]? = some t -> t.ok (runHead Tryz.prog (tabsG tabs) muF (runL deps) tb q fn c heads 400 (j + i)) [] = true
 | [], j, h => ⟨by unfold checkHeads at h; rw [nbe h]; rfl, fun i t ht => by simp at ht⟩
 | t :: r, j, h => by
  unfold checkHeads at h
  rw [Bool.and_eq_true] at h
  obtain ⟨k1, k2⟩ := checkHeads_get h.2
  refine ⟨by rw [k1, List.length_cons]; omega, fun i t' ht => ?_⟩
  cases i with
  | zero => simp only [List.getElem?_cons_zero, Option.some.injEq] at ht; subst ht; exact h.1
  | succ i =>
   have := k2 i t' (by simpa using ht)
   rw [show j + 1 + i = j + (i + 1) by omega] at this; exact this
theorem fn_okS {n : Nat} (hphi : ∀ ds, Interp.phi 1000 ds = .v (.bool true) -> okD n ds) {q : Sig} {deps : List Sig} {heads : List Hd} {entry : Tree} {trees : List Tree} (hc : check q deps heads entry trees = true) (hdeps : ∀ q, q ∈ deps -> Ok q (okS n q.g)) {pre : List D -> Prop} (Inv : Nat -> D -> List D -> Prop) (meas : Nat -> List D -> Nat)
  (h0 : ∀ ds, FitL tb q.args ds -> pre ds -> entry.holds (fun o => match o with | .ret d => d = Interp.phi q.g ds | .go j es => Inv j (Interp.phi q.g ds) es) (envOf ds))
  (hj : ∀ j h t d ds, heads[j]? = some h -> trees[j]? = some t -> FitE tb h.ents ds -> Inv j d ds -> t.holds (fun o => match o with | .ret x => x = d | .go i es => Inv i d es /\ meas i es < meas j ds) (envOf ds)) : Ok q pre := by
 unfold check at hc
 split at hc
 ·rename_i fn hfn
  split at hc
  ·rename_i c hb
   simp only [Bool.and_eq_true] at hc
   obtain ⟨⟨⟨c1, c2⟩, c3⟩, c4⟩ := hc
   obtain ⟨k1, k2⟩ := checkHeads_get c4
   rw [Nat.zero_add] at k1
   have hget : ∀ j h, heads[j]? = some h -> ∃ t, trees[j]? = some t := fun j h hj => ⟨_, List.getElem?_eq_getElem (by rw [<- k1]; exact (List.getElem?_eq_some_iff.1 hj).1)⟩
   refine fnOk_tree (mu := muF) (orc := orcL deps) (K := 400) (k := 40) (fuel := 400) noNum Tryz.checked.mixed (fun B0 w0 => orcL_ok hphi hdeps) tabs_nodup tabs_plain hfn hb c1 heads c2 entry (fun j => (trees[j]?).getD .dead) c3 (fun j h hh => ?_) Inv meas h0 (fun j h d ds hh hf hi => ?_)
   ·obtain ⟨t, ht⟩ := hget j h hh
    have := k2 j t ht
    rw [Nat.zero_add] at this
    rw [ht]; exact this
   ·obtain ⟨t, ht⟩ := hget j h hh
    rw [ht]
    exact hj j h t d ds hh ht hf hi
  ·cases hc
 ·cases hc
theorem fn_ok {n : Nat} (hphi : ∀ ds, Interp.phi 1000 ds = .v (.bool true) -> okD n ds) {q : Sig} {deps : List Sig} {heads : List Hd} {entry : Tree} {trees : List Tree} (hc : check q deps heads entry trees = true) (hdeps : ∀ q, q ∈ deps -> Ok q (okD n)) {pre : List D -> Prop} (Inv : Nat -> D -> List D -> Prop) (meas : Nat -> List D -> Nat)
  (h0 : ∀ ds, FitL tb q.args ds -> pre ds -> entry.holds (fun o => match o with | .ret d => d = Interp.phi q.g ds | .go j es => Inv j (Interp.phi q.g ds) es) (envOf ds))
  (hj : ∀ j h t d ds, heads[j]? = some h -> trees[j]? = some t -> FitE tb h.ents ds -> Inv j d ds -> t.holds (fun o => match o with | .ret x => x = d | .go i es => Inv i d es /\ meas i es < meas j ds) (envOf ds)) : Ok q pre :=
 fn_okS hphi hc (fun q hq => okS_of (hdeps q hq)) Inv meas h0 hj
abbrev OkM (q : SigM) (pre : List D -> Prop) : Prop := FnOkM Tryz.prog tabs tb q pre
def Goes (q : SigM) : Prop := q.pan.isSome = true -> ∀ ds, ∃ b : Bool, Interp.phi (3000 + q.g) ds = D.ofBool b /\ (b = true ↔ Interp.phi q.g ds ≠ .nil)
theorem OkM.less {q : SigM} {p p' : List D -> Prop} (h : OkM q p) (hp : ∀ ds, p' ds -> p ds) : OkM q p' := fun W J vs ds bs hL hI ha hn hd h' => h W J vs ds bs hL hI ha hn hd (hp _ h')
theorem okSM_of {q : SigM} {n : Nat} (h : OkM q (okD n)) : OkM q (okS n q.g) := h.less fun _ h => h.1
end
noncomputable def orcML : List SigM -> Ab.Call
 | [] => noOrc
 | q :: r => orElse (ctrOrcM tb q (needK q.g)) (orcML r)
noncomputable def selfN (deps : List Sig) (depsM : List SigM) : Ab.Call := evFn Tryz.prog (tabsG tabs) muF (evDrawnX Tryz.prog (tabsG tabs)) 400 (orElse (orcL deps) (orcML depsM)) 40
noncomputable def runN (deps : List Sig) (depsM : List SigM) : Code -> Tm -> St -> Option (Ex × Tm × St) := evCode Tryz.prog (tabsG tabs) (evDrawnX Tryz.prog (tabsG tabs)) (selfN deps depsM) false 400
noncomputable def checkHeadsN (run : Nat -> List E -> Option Out) : List Tree -> Nat -> Bool
 | [], j => true
 | t :: r, j => t.ok (run j) [] && checkHeadsN run r (j + 1)
noncomputable def checkN (q : Sig) (deps : List Sig) (depsM : List SigM) (heads : List Hd) (entry : Tree) (trees : List Tree) : Bool :=
 match Tryz.prog.funcs[q.f]? with
 | some fn =>
  match fn.body with
  | some c => Nat.beq heads.length trees.length && Nat.ble (q.args.length + fn.ntmps) Tr.lid && (heads.all fun h => Nat.ble h.ents.length Tr.lid) && entry.ok (runEntry Tryz.prog (tabsG tabs) muF (runN deps depsM) tb q fn c heads 400) [] && checkHeadsN (runHead Tryz.prog (tabsG tabs) muF (runN deps depsM) tb q fn c heads 400) trees 0
  | none => false
 | none => false
noncomputable def checkM (q : SigM) (deps : List Sig) (depsM : List SigM) (heads : List HdM) (entry : Tree) (trees : List Tree) : Bool :=
 match Tryz.prog.funcs[q.f]? with
 | some fn =>
  match fn.body with
  | some c => Nat.beq heads.length trees.length && Nat.ble (q.args.length + fn.ntmps) Tr.lid && (heads.all fun h => Nat.ble h.ents.length Tr.lid) && entry.ok (runEntryM Tryz.prog (tabsG tabs) muF (runN deps depsM) tb q fn c heads 400) [] && checkHeadsN (runHeadM Tryz.prog (tabsG tabs) muF (runN deps depsM) tb q fn c heads 400) trees 0
  | none => false
 | none => false
theorem checkHeadsN_get {run : Nat -> List E -> Option Out} : ∀ {trees : List Tree} {j : Nat}, checkHeadsN run trees j = true -> ∀ (i : Nat) (t : Tree), trees[i]? = some t -> t.ok (run (j + i)) [] = true
 | [], j, h => fun i t ht => by simp at ht
 | t :: r, j, h => by
  unfold checkHeadsN at h
  rw [Bool.and_eq_true] at h
  intro i t' ht
  cases i with
  | zero => simp only [List.getElem?_cons_zero, Option.some.injEq] at ht; subst ht; exact h.1
  | succ i =>
   have := checkHeadsN_get h.2 i t' (by simpa using ht)
   rw [show j + 1 + i = j + (i + 1) by omega] at this; exact this
section
variable [Interp]
theorem orcML_ok {n : Nat} (hphi : ∀ ds, Interp.phi 1000 ds = .v (.bool true) -> okD n ds) {B0 : Nat} {w0 : World} : ∀ {l : List SigM}, (∀ q, q ∈ l -> OkM q (okS n q.g) /\ Goes q) -> CallOk Tryz.prog (tabsG tabs) B0 w0 (orcML l)
 | [], _ => noOrc_ok
 | q :: r, h => orElse_ok (ctrOrcM_ok tabs_nodup tabs_plain (h q (List.mem_cons_self ..)).1 (fun env es hn => by
   unfold needK at hn
   cases hs : special q.g with
   | false =>
    rw [hs] at hn
    have := hn _ (List.mem_singleton.2 rfl)
    exact ⟨hphi _ (by simpa only [E.den] using this), fun h => by rw [hs] at h; cases h⟩
   | true =>
    rw [hs] at hn
    have h1 := hn _ (List.mem_cons_self ..)
    have h2 := hn _ (List.mem_cons_of_mem _ (List.mem_singleton.2 rfl))
    exact ⟨hphi _ (by simpa only [E.den] using h1), fun _ => by simpa only [E.den] using h2⟩) (h q (List.mem_cons_self ..)).2) (orcML_ok hphi fun q' hq' => h q' (List.mem_cons_of_mem _ hq'))
theorem fn_okN {n : Nat} (hphi : ∀ ds, Interp.phi 1000 ds = .v (.bool true) -> okD n ds) {q : Sig} {deps : List Sig} {depsM : List SigM} {heads : List Hd} {entry : Tree} {trees : List Tree} (hc : checkN q deps depsM heads entry trees = true) (hdeps : ∀ q, q ∈ deps -> Ok q (okS n q.g)) (hdepsM : ∀ q, q ∈ depsM -> OkM q (okS n q.g) /\ Goes q) {pre : List D -> Prop} (Inv : Nat -> D -> List D -> Prop) (meas : Nat -> List D -> Nat)
  (h0 : ∀ ds, FitL tb q.args ds -> pre ds -> entry.holds (fun o => match o with | .ret d => d = Interp.phi q.g ds | .go j es => Inv j (Interp.phi q.g ds) es) (envOf ds))
  (hj : ∀ j h t d ds, heads[j]? = some h -> trees[j]? = some t -> FitE tb h.ents ds -> Inv j d ds -> t.holds (fun o => match o with | .ret x => x = d | .go i es => Inv i d es /\ meas i es < meas j ds) (envOf ds)) : Ok q pre := by
 unfold checkN at hc
 split at hc
 ·rename_i fn hfn
  split at hc
  ·rename_i c hb
   simp only [Bool.and_eq_true] at hc
   obtain ⟨⟨⟨⟨c0, c1⟩, c2⟩, c3⟩, c4⟩ := hc
   have k1 := nbe c0
   have k2 := checkHeadsN_get c4
   have hget : ∀ j h, heads[j]? = some h -> ∃ t, trees[j]? = some t := fun j h hj => ⟨_, List.getElem?_eq_getElem (by rw [<- k1]; exact (List.getElem?_eq_some_iff.1 hj).1)⟩
   refine fnOk_tree (mu := muF) (orc := orElse (orcL deps) (orcML depsM)) (K := 400) (k := 40) (fuel := 400) noNum Tryz.checked.mixed (fun B0 w0 => orElse_ok (orcL_ok hphi hdeps) (orcML_ok hphi hdepsM)) tabs_nodup tabs_plain hfn hb c1 heads c2 entry (fun j => (trees[j]?).getD .dead) c3 (fun j h hh => ?_) Inv meas h0 (fun j h d ds hh hf hi => ?_)
   ·obtain ⟨t, ht⟩ := hget j h hh
    have := k2 j t ht
    rw [Nat.zero_add] at this
    rw [ht]; exact this
   ·obtain ⟨t, ht⟩ := hget j h hh
    rw [ht]
    exact hj j h t d ds hh ht hf hi
  ·cases hc
 ·cases hc
theorem fn_okM {n : Nat} (hphi : ∀ ds, Interp.phi 1000 ds = .v (.bool true) -> okD n ds) {q : SigM} {deps : List Sig} {depsM : List SigM} {heads : List HdM} {entry : Tree} {trees : List Tree} (hc : checkM q deps depsM heads entry trees = true) (hdeps : ∀ q, q ∈ deps -> Ok q (okS n q.g)) (hdepsM : ∀ q, q ∈ depsM -> OkM q (okS n q.g) /\ Goes q) {pre : List D -> Prop} (Inv : Nat -> D -> List D -> Prop) (meas : Nat -> List D -> Nat)
  (h0 : ∀ ds, FitE tb q.args ds -> pre ds -> entry.holds (fun o => match o with | .ret d => d = Interp.phi q.g ds | .go j es => Inv j (Interp.phi q.g ds) es) (envOf ds))
  (hj : ∀ j h t d ds, heads[j]? = some h -> trees[j]? = some t -> FitE tb h.ents ds -> Inv j d ds -> t.holds (fun o => match o with | .ret x => x = d | .go i es => Inv i d es /\ meas i es < meas j ds) (envOf ds)) : OkM q pre := by
 unfold checkM at hc
 split at hc
 ·rename_i fn hfn
  split at hc
  ·rename_i c hb
   simp only [Bool.and_eq_true] at hc
   obtain ⟨⟨⟨⟨c0, c1⟩, c2⟩, c3⟩, c4⟩ := hc
   have k1 := nbe c0
   have k2 := checkHeadsN_get c4
   have hget : ∀ j h, heads[j]? = some h -> ∃ t, trees[j]? = some t := fun j h hj => ⟨_, List.getElem?_eq_getElem (by rw [<- k1]; exact (List.getElem?_eq_some_iff.1 hj).1)⟩
   refine fnOkM_tree (mu := muF) (orc := orElse (orcL deps) (orcML depsM)) (K := 400) (k := 40) (fuel := 400) noNum Tryz.checked.mixed (fun B0 w0 => orElse_ok (orcL_ok hphi hdeps) (orcML_ok hphi hdepsM)) tabs_nodup tabs_plain hfn hb c1 heads c2 entry (fun j => (trees[j]?).getD .dead) c3 (fun j h hh => ?_) Inv meas h0 (fun j h d ds hh hf hi => ?_)
   ·obtain ⟨t, ht⟩ := hget j h hh
    have := k2 j t ht
    rw [Nat.zero_add] at this
    rw [ht]; exact this
   ·obtain ⟨t, ht⟩ := hget j h hh
    rw [ht]
    exact hj j h t d ds hh ht hf hi
  ·cases hc
 ·cases hc
end
end Go.Proofs.YtaeeblcdggjokaaGreatDoor.Vk
/- Types (a kind, names, parts) as Lean's own type; what fits, how large they are. -/
namespace Go.Ab
open Go
inductive Typ where
 | mk (kind : Int) (names : List ByteArray) (list : List Typ)
instance : Inhabited Typ := ⟨.mk 0 [] []⟩
namespace Typ
def kind : Typ -> Int | .mk k _ _ => k
def names : Typ -> List ByteArray | .mk _ n _ => n
def list : Typ -> List Typ | .mk _ _ l => l
end Typ
mutual
def Typ.toD : Typ -> D
 | .mk k ns l => .row [iD k, strsD ns, .lst (Typ.toDs l)]
def Typ.toDs : List Typ -> List D
 | [] => []
 | v :: r => v.toD :: Typ.toDs r
end
theorem toDsT_map : ∀ (l : List Typ), Typ.toDs l = l.map Typ.toD
 | [] => by unfold Typ.toDs; rfl
 | v :: r => by unfold Typ.toDs; rw [toDsT_map r]; rfl
abbrev typsD (l : List Typ) : D := .lst (l.map Typ.toD)
theorem toD_rowT (v : Typ) : v.toD = .row [iD v.kind, strsD v.names, typsD v.list] := by
 cases v with
 | mk k ns l => unfold Typ.toD; rw [toDsT_map]; rfl
theorem typ_ind {p : Typ -> Prop} (h : ∀ v, (∀ x, x ∈ v.list -> p x) -> p v) : ∀ v, p v := by
 intro v
 have key : ∀ (n : Nat) (v : Typ), SizeOf.sizeOf v < n -> p v := by
  intro n
  induction n with
  | zero => intro v hv; omega
  | succ n ih =>
   intro v hv
   refine h v fun x hx => ih x ?_
   have := List.sizeOf_lt_of_mem hx
   cases v with
   | mk k ns l =>
    rw [Typ.mk.sizeOf_spec] at hv
    show SizeOf.sizeOf x < n
    have : SizeOf.sizeOf x < SizeOf.sizeOf l := this
    omega
 exact key _ v (Nat.lt_succ_self _)
mutual
def D.typ1 : D -> Typ
 | .row [k, ns, l] => .mk k.int ns.strs (D.typs l)
 | _ => default
def D.typs : D -> List Typ
 | .lst l => D.typsL l
 | _ => []
def D.typsL : List D -> List Typ
 | [] => []
 | d :: r => d.typ1 :: D.typsL r
end
theorem typsL_map : ∀ (l : List D), D.typsL l = l.map D.typ1
 | [] => by unfold D.typsL; rfl
 | v :: r => by unfold D.typsL; rw [typsL_map r]; rfl
@[simp] theorem typ1_toD (v : Typ) : v.toD.typ1 = v := by
 induction v using typ_ind with
 | h v ih =>
  rw [toD_rowT]
  unfold D.typ1
  show Typ.mk v.kind (strsD v.names).strs (D.typs (typsD v.list)) = v
  rw [strs_strsD]
  unfold D.typs
  rw [typsL_map, List.map_map]
  have : v.list.map (D.typ1 ∘ Typ.toD) = v.list := by
   conv => rhs; rw [<- List.map_id v.list]
   exact List.map_congr_left fun x hx => ih x hx
  rw [this]
  cases v; rfl
@[simp] theorem typs_typsD (l : List Typ) : (typsD l).typs = l := by
 unfold D.typs
 rw [typsL_map, List.map_map]
 conv => rhs; rw [<- List.map_id l]
 exact List.map_congr_left fun x _ => typ1_toD x
section
variable {sh : Nat -> List CT}
def typCT (tT tS : Nat) : List CT := [.sc (.i .i64), .sl tS, .sl tT]
theorem fits_typ {tT tS : Nat} (hT : sh tT = typCT tT tS) (hS : sh tS = [.sc .s]) : ∀ (d : D), fitsW sh d tT -> ∃ v : Typ, d = v.toD := by
 have key : ∀ (n : Nat) (d : D), d.sz < n -> fitsW sh d tT -> ∃ v : Typ, d = v.toD := by
  intro n
  induction n with
  | zero => intro d hd; omega
  | succ n ih =>
   intro d hd h
   obtain ⟨cs, rfl, h'⟩ := fitsW_row h
   clear h
   have h := h'
   rw [hT] at h
   obtain ⟨d1, r, rfl, g1, h⟩ := fitsC_cons h
   obtain ⟨d8, r, rfl, g8, h⟩ := fitsC_cons h
   obtain ⟨d9, r, rfl, g9, h⟩ := fitsC_cons h
   obtain rfl := fitsC_nil h
   obtain ⟨z1, rfl⟩ := fits_int g1
   obtain ⟨ns, rfl⟩ := fits_strs hS g8
   obtain ⟨l, rfl, hl⟩ := fits_lst g9
   obtain ⟨xs, rfl⟩ := rows_of (f := Typ.toD) hl fun d hdl hw => ih d (by
    have := szL_mem hdl
    simp only [D.sz, D.szL] at hd
    omega) hw
   refine ⟨.mk z1 ns xs, ?_⟩
   rw [toD_rowT]
   rfl
 exact fun d h => key _ d (Nat.lt_succ_self _) h
theorem fits_typs {tT tS : Nat} (hT : sh tT = typCT tT tS) (hS : sh tS = [.sc .s]) {d : D} (h : fits sh d (.sl tT)) : ∃ l : List Typ, d = typsD l := by
 obtain ⟨l, rfl, hl⟩ := fits_lst h
 obtain ⟨xs, rfl⟩ := rows_of (f := Typ.toD) hl fun d _ hw => fits_typ hT hS d hw
 exact ⟨xs, rfl⟩
end
theorem sz_toDT (v : Typ) : v.toD.sz = 2 + (strsD v.names).sz + (typsD v.list).sz := by
 rw [toD_rowT]
 simp only [D.sz, D.szL]
 omega
theorem lim_toDT (v : Typ) : v.toD.Lim ↔ (strsD v.names).Lim /\ (typsD v.list).Lim := by
 rw [toD_rowT]
 simp only [D.Lim, D.LimL, and_true, true_and]
theorem lim_typs {l : List Typ} : (typsD l).Lim ↔ l.length <= lim /\ ∀ x, x ∈ l -> x.toD.Lim := by
 rw [lim_lst, List.length_map, limL_map]
theorem sz_typs_mem {l : List Typ} {x : Typ} (h : x ∈ l) : x.toD.sz < (typsD l).sz := by
 have := szL_mem (List.mem_map_of_mem (f := Typ.toD) h)
 rw [sz_lst]
 omega
theorem tat_0 (v : Typ) : cellAt v.toD 0 = iD v.kind := by rw [toD_rowT]; rfl
theorem tat_1 (v : Typ) : cellAt v.toD 1 = strsD v.names := by rw [toD_rowT]; rfl
theorem tat_2 (v : Typ) : cellAt v.toD 2 = typsD v.list := by rw [toD_rowT]; rfl
theorem toDT_put (v : Typ) : D.row [iD v.kind, strsD v.names, typsD v.list] = v.toD := (toD_rowT v).symm
theorem okD_listT {n : Nat} {v : Typ} (h : okD (n + 1) [v.toD]) : v.list.length <= lim /\ v.names.length <= lim /\ (∀ x, x ∈ v.list -> okD n [x.toD]) /\ okD n [typsD v.list, .row []] /\ okD n [strsD v.names, .row []] /\ okD n [strsD v.names] := by
 rw [okD_one, sz_toDT, lim_toDT] at h
 obtain ⟨h1, h2, h3⟩ := h
 have p1 := D.sz_pos (strsD v.names)
 have p2 := D.sz_pos (typsD v.list)
 exact ⟨(lim_typs.1 h3).1, (lim_strs.1 h2).1, fun x hx => okD_one.2 ⟨by have := sz_typs_mem hx; omega, (lim_typs.1 h3).2 x hx⟩, okD_two.2 ⟨by rw [sz_nilrow]; omega, h3, lim_nilrow⟩, okD_two.2 ⟨by rw [sz_nilrow]; omega, h2, lim_nilrow⟩, okD_one.2 ⟨by omega, h2⟩⟩
theorem okD_typs {n : Nat} {l : List Typ} {d : D} (h : okD n [typsD l, d]) : l.length <= lim /\ ∀ x, x ∈ l -> okD n [x.toD] := by
 rw [okD_two] at h
 obtain ⟨h1, h2, _⟩ := h
 obtain ⟨h2, h3⟩ := lim_typs.1 h2
 exact ⟨h2, fun x hx => okD_one.2 ⟨by have := sz_typs_mem hx; omega, h3 x hx⟩⟩
end Go.Ab
/- What the functions come to, in plain Lean. -/
namespace Go.Proofs.YtaeeblcdggjokaaGreatDoor.Vk
open Go Go.Ab Go.RowKit
abbrev wrap := IntKind.i64.wrap
def one : ByteArray := mkS [48]
def tenDigits : ByteArray := mkS [48, 49, 50, 51, 52, 53, 54, 55, 56, 57]

mutual
def depV : Val -> Int
 | .mk _ _ _ _ _ _ _ _ l => wrap (depL 0 l + 1)
def depL : Int -> List Val -> Int
 | acc, [] => acc
 | acc, v :: r => depL (if depV v > acc then depV v else acc) r
end
mutual
def sizV : Val -> Int
 | .mk _ _ _ _ _ _ _ _ l => sizL 1 l
def sizL : Int -> List Val -> Int
 | acc, [] => acc
 | acc, v :: r => sizL (wrap (acc + sizV v)) r
end
def trimV (s c : ByteArray) : ByteArray := ⟨(Lib.trimS s.data.toList c.data.toList).toArray⟩
def validV (s : ByteArray) : Bool := Lib.validD s.data.toList
def numV (neg : Bool) (d : ByteArray) (e : Int) : Int :=
 if neg = false /\ d = one /\ e = 0 then 0 else
 if d = ByteArray.empty then 10 else
 if ¬ trimV d tenDigits = ByteArray.empty then 10 else
 if 40 < (d.size : Int) then 10 else
 if (d.data.toList.getD 0 0).toNat = 48 then 10 else
 if d.extract (d.size - 1) d.size = one then 10 else
 if e < -400 then 10 else if 400 < e then 10 else 0
def namesV (seen : D) : List ByteArray -> Bool
 | [] => true
 | s :: r => if ((mfind (sD s) seen.rows).getD (bD false)).bool then false else if validV s then namesV (.lst (mput (sD s) (bD true) seen.rows)) r else false
def ixL {α : Type} (p : α -> Bool) : List α -> Nat -> Int
 | [], _ => -1
 | x :: r, i => if p x then (i : Int) else ixL p r (i + 1)
mutual
def formedV : Val -> Bool
 | .mk k f ng d e b t ns l =>
  if k = 1 then !f && (ng == false && eqS d .empty && eqI e 0) && eqI b 0 && eqS t .empty && ns.length == 0 && l.length == 0
  else if k = 2 then (ng == false && eqS d .empty && eqI e 0) && eqI b 0 && eqS t .empty && ns.length == 0 && l.length == 0
  else if k = 3 then eqI (numV ng d e) 0 && !f && eqI b 0 && eqS t .empty && ns.length == 0 && l.length == 0
  else if k = 4 then !f && (ng == false && eqS d .empty && eqI e 0) && eqS t .empty && ns.length == 0 && l.length == 0
  else if k = 5 then validV t && !f && (ng == false && eqS d .empty && eqI e 0) && eqI b 0 && ns.length == 0 && l.length == 0
  else if k = 6 then !f && (ng == false && eqS d .empty && eqI e 0) && eqI b 0 && ns.length == 0 && l.length == 0
  else if k = 7 then !f && (ng == false && eqS d .empty && eqI e 0) && eqI b 0 && eqS t .empty && ns.length == 0 && ltI (formedL l 0) 0
  else if k = 8 then ns.length == l.length && namesV (.lst []) ns && !f && (ng == false && eqS d .empty && eqI e 0) && eqI b 0 && eqS t .empty && ltI (formedL l 0) 0
  else if k = 9 then l.length == 1 && validV t && !f && (ng == false && eqS d .empty && eqI e 0) && eqI b 0 && ns.length == 0 && ltI (formedL l 0) 0
  else false
def formedL : List Val -> Nat -> Int
 | [], _ => -1
 | v :: r, i => if formedV v then formedL r (i + 1) else (i : Int)
end
theorem formedV_iff (k : Int) (f ng : Bool) (d : ByteArray) (e b : Int) (t : ByteArray) (ns : List ByteArray) (l : List Val) :
  (k = 1 -> (formedV (.mk k f ng d e b t ns l) = true ↔ f = false /\ (ng = false /\ d = .empty /\ e = 0) /\ b = 0 /\ t = .empty /\ ns.length = 0 /\ l.length = 0)) /\
  (k = 2 -> (formedV (.mk k f ng d e b t ns l) = true ↔ (ng = false /\ d = .empty /\ e = 0) /\ b = 0 /\ t = .empty /\ ns.length = 0 /\ l.length = 0)) /\
  (k = 3 -> (formedV (.mk k f ng d e b t ns l) = true ↔ numV ng d e = 0 /\ f = false /\ b = 0 /\ t = .empty /\ ns.length = 0 /\ l.length = 0)) /\
  (k = 4 -> (formedV (.mk k f ng d e b t ns l) = true ↔ f = false /\ (ng = false /\ d = .empty /\ e = 0) /\ t = .empty /\ ns.length = 0 /\ l.length = 0)) /\
  (k = 5 -> (formedV (.mk k f ng d e b t ns l) = true ↔ validV t = true /\ f = false /\ (ng = false /\ d = .empty /\ e = 0) /\ b = 0 /\ ns.length = 0 /\ l.length = 0)) /\
  (k = 6 -> (formedV (.mk k f ng d e b t ns l) = true ↔ f = false /\ (ng = false /\ d = .empty /\ e = 0) /\ b = 0 /\ ns.length = 0 /\ l.length = 0)) /\
  (k = 7 -> (formedV (.mk k f ng d e b t ns l) = true ↔ f = false /\ (ng = false /\ d = .empty /\ e = 0) /\ b = 0 /\ t = .empty /\ ns.length = 0 /\ formedL l 0 < 0)) /\
  (k = 8 -> (formedV (.mk k f ng d e b t ns l) = true ↔ ns.length = l.length /\ namesV (.lst []) ns = true /\ f = false /\ (ng = false /\ d = .empty /\ e = 0) /\ b = 0 /\ t = .empty /\ formedL l 0 < 0)) /\
  (k = 9 -> (formedV (.mk k f ng d e b t ns l) = true ↔ l.length = 1 /\ validV t = true /\ f = false /\ (ng = false /\ d = .empty /\ e = 0) /\ b = 0 /\ ns.length = 0 /\ formedL l 0 < 0)) /\
  (k ≠ 1 -> k ≠ 2 -> k ≠ 3 -> k ≠ 4 -> k ≠ 5 -> k ≠ 6 -> k ≠ 7 -> k ≠ 8 -> k ≠ 9 -> formedV (.mk k f ng d e b t ns l) = false) := by
 refine ⟨?_, ?_, ?_, ?_, ?_, ?_, ?_, ?_, ?_, ?_⟩
 all_goals intros
 all_goals (try subst k)
 all_goals simp [formedV, eqI_t, eqS_t, ltI_t, and_assoc, *]
theorem formedL_nil : formedL [] 0 = -1 := by rw [formedL]
mutual
def shortV : Val -> Bool
 | .mk k f ng d e b t ns l =>
  if (t.size : Int) > (if k = 9 then 64 else 4096) then false
  else if (l.length : Int) > 256 then false
  else if ixL (fun s : ByteArray => decide ((s.size : Int) > 64)) ns 0 ≥ 0 then false
  else !(decide (shortL l 0 ≥ 0))
def shortL : List Val -> Nat -> Int
 | [], _ => -1
 | v :: r, i => if shortV v then shortL r (i + 1) else (i : Int)
end
def checkV (v : Val) : Int := if formedV v then (if shortV v then (if 16 < depV v then 2 else if 4096 < sizV v then 2 else 0) else 2) else 40
noncomputable def eqV (a b : Val) : Bool := @decide (a = b) (Classical.propDecidable _)
noncomputable def eqVs (a b : List Val) : Bool := @decide (a = b) (Classical.propDecidable _)
def cmpZ (a b : Int) : Int := if a < b then -1 else if b < a then 1 else 0
def cmpS (a b : ByteArray) : Int := Lib.compareBytes a.data.toList b.data.toList
def zer (i : Int) : ByteArray := ⟨(List.replicate i.toNat (48 : UInt8)).toArray⟩
def levX (e e' : Int) : Int := if e' < e then e' else e
def levP (d : ByteArray) (e x : Int) : ByteArray := d ++ zer (wrap (e - x))
def levQ (p q : ByteArray) : ByteArray := zer (if wrap ((q.size : Int) - p.size) > 0 then wrap ((q.size : Int) - p.size) else 0) ++ p
def numcmpV (ng : Bool) (d : ByteArray) (e : Int) (ng' : Bool) (d' : ByteArray) (e' : Int) : Int × Int :=
 if ¬ numV ng d e = 0 then (0, 10) else if ¬ numV ng' d' e' = 0 then (0, 10) else
 if ng = ng' /\ d = d' /\ e = e' then (0, 0) else if ng = true /\ ng' = false then (-1, 0) else if ng = false /\ ng' = true then (1, 0) else
 let p := levP d e (levX e e'); let q := levP d' e' (levX e e'); let p := levQ p q; let q := levQ q p
 (if ng then wrap (-(cmpS p q)) else cmpS p q, 0)
def rowsG {α : Type} (c : α -> α -> Int) : List α -> List α -> Int
 | [], [] => 0
 | [], _ :: _ => -1
 | _ :: _, [] => 1
 | x :: r, y :: t => if c x y = 0 then rowsG c r t else c x y
def pairC (c : Val -> Val -> Int) (p q : ByteArray × Val) : Int := if cmpS p.1 q.1 = 0 then c p.2 q.2 else cmpS p.1 q.1
mutual
def hgt : Val -> Nat
 | .mk _ _ _ _ _ _ _ _ l => hgts l + 1
def hgts : List Val -> Nat
 | [] => 0
 | v :: r => max (hgt v) (hgts r)
end
def orderF : Nat -> Val -> Val -> Int
 | 0, _, _ => 0
 | n + 1, a, b =>
  if a.kind < b.kind then -1 else if b.kind < a.kind then 1 else
  if a.kind = 2 then (if a.flag = b.flag then 0 else if b.flag then -1 else 1)
  else if a.kind = 3 then (numcmpV a.neg a.dig a.exp b.neg b.dig b.exp).1
  else if a.kind = 4 then cmpZ a.bits b.bits
  else if a.kind = 5 then cmpS a.text b.text
  else if a.kind = 6 then cmpS a.text b.text
  else if a.kind = 8 then rowsG (pairC (orderF n)) (a.names.zip a.list) (b.names.zip b.list)
  else if a.kind = 9 then (if cmpS a.text b.text = 0 then rowsG (orderF n) a.list b.list else cmpS a.text b.text)
  else rowsG (orderF n) a.list b.list
def orderV (a b : Val) : Int := orderF (hgt a) a b
def vcmpV (a b : Val) : Int × Int := if ¬ checkV a = 0 then (0, checkV a) else if ¬ checkV b = 0 then (0, checkV b) else (orderV a b, 0)
def good (v : Val) : Bool := formedV v && shortV v
def digV (s : ByteArray) : Bool := (s.data.toList.all fun c => decide (48 <= c.toNat /\ c.toNat <= 57)) && decide (s.data.toList ≠ [])
def plainV (v : Val) : Bool := decide (1 <= v.kind /\ v.kind <= 9 /\ (v.kind ≠ 2 -> v.flag = false) /\ (v.kind ≠ 3 -> v.neg = false /\ v.dig = .empty /\ v.exp = 0) /\ (v.kind ≠ 4 -> v.bits = 0) /\ (v.kind ≠ 5 -> v.kind ≠ 6 -> v.kind ≠ 9 -> v.text = .empty) /\ (v.kind ≠ 8 -> v.names.length = 0) /\ (v.kind < 7 -> v.list.length = 0))
def ownV (v : Val) : Bool :=
 if v.kind = 3 then decide (numV v.neg v.dig v.exp = 0) else
 if v.kind = 5 then validV v.text else
 if v.kind = 9 then validV v.text && decide (v.list.length = 1) else
 if v.kind = 8 then v.names.all validV && decide (v.names.length = v.list.length) && decide v.names.Nodup else true
def numbV (s : ByteArray) (n : Int) : Int :=
 if n = 1 then ((s.data.toList.getD 0 0).toNat : Int) else
 ((s.data.toList.take n.toNat).drop 1).foldl (fun a c => wrap (wrap (64 * a) + (c.toNat : Int).tmod 64)) (((s.data.toList.getD 0 0).toNat : Int).tmod ((128 : Int).fdiv (2 ^ (min n.toNat 64))))
def c8 (i : Int) : UInt8 := UInt8.ofNat (IntKind.u8.wrap i).toNat
def encV (r : Int) : ByteArray :=
 if r < 128 then ⟨#[c8 r]⟩ else
 if r < 2048 then ⟨#[c8 (wrap (192 + wrap (r.tdiv 64))), c8 (wrap (128 + r.tmod 64))]⟩ else
 if r < 65536 then ⟨#[c8 (wrap (224 + wrap (r.tdiv 4096))), c8 (wrap (128 + (wrap (r.tdiv 64)).tmod 64)), c8 (wrap (128 + r.tmod 64))]⟩ else
 ⟨#[c8 (wrap (240 + wrap (r.tdiv 262144))), c8 (wrap (128 + (wrap (r.tdiv 4096)).tmod 64)), c8 (wrap (128 + (wrap (r.tdiv 64)).tmod 64)), c8 (wrap (128 + r.tmod 64))]⟩
def longV (c : Nat) : Int := if c < 128 then 1 else if 192 <= c /\ c < 224 then 2 else if 224 <= c /\ c < 240 then 3 else if 240 <= c /\ c < 248 then 4 else 0
def isR (r : Int) : Bool := decide (0 <= r /\ r <= 1114111 /\ (r < 55296 \/ 57343 < r))
def headOk (t : ByteArray) (n : Int) : Bool := isR (numbV t n) && decide (encV (numbV t n) = t.extract 0 n.toNat)
def padV (t : ByteArray) (n : Nat) (c : UInt8) : ByteArray := t ++ ⟨(List.replicate (n - t.size) c).toArray⟩
def chkV (s : ByteArray) (n r : Int) : Bool := isR r && (decide ((encV r).extract 0 (min s.size (encV r).size) = s) && decide (((encV r).size : Int) = n))
def leastV (n : Nat) : Int := [0, 0, 128, 2048, 65536].getD n 0
def beginsV (s : ByteArray) : Bool :=
 let n := longV (s.data.toList.getD 0 0).toNat
 if n <= s.size then false else
 let a := numbV (padV s n.toNat 128) n
 let b := numbV (padV s n.toNat 191) n
 if chkV s n a then true else if chkV s n b then true else
 decide (a <= leastV n.toNat) && (decide (leastV n.toNat <= b) && decide ((encV (leastV n.toNat)).extract 0 s.size = s))
def decV (s : ByteArray) (i : Int) : Int × Int × Int :=
 if i < 0 then (0, 0, 1) else if (s.size : Int) <= i then (0, 0, 1) else
 let t := s.extract i.toNat s.size
 let n := longV (t.data.toList.getD 0 0).toNat
 if 0 < n /\ n <= t.size /\ headOk t n = true then (numbV t n, n, 0) else if (t.size : Int) < n /\ beginsV t = true then (0, 0, 31) else (0, 0, 30)
def countF : Nat -> ByteArray -> Int -> Int -> Int × Int
 | 0, _, c, _ => (c, 0)
 | k + 1, s, c, i => if i < s.size then (if (decV s i).2.2 = 0 then countF k s (wrap (c + 1)) (wrap (i + (decV s i).2.1)) else (0, (decV s i).2.2)) else (c, 0)
def partsN (most : Int) : Int -> List ByteArray -> Int
 | n, [] => n
 | n, s :: r => if n <= most then partsN most (wrap (n + s.size)) r else n
mutual
def partsV (most : Int) : Int -> Int -> Val -> Int
 | n, within, .mk k f ng d e b t ns l =>
  if within > 300 then wrap (most + 1) else partsL most within (partsN most (wrap (wrap (wrap (wrap (n + 1) + t.size) + d.size) + ns.length)) ns) l
def partsL (most : Int) (within : Int) : Int -> List Val -> Int
 | n, [] => n
 | n, v :: r => if n <= most then partsL most within (partsV most n (wrap (within + 1)) v) r else n
end
mutual
def manyV : Val -> Bool
 | .mk k f ng d e b t ns l => if (ns.length : Int) > 2000 then true else manyL l
def manyL : List Val -> Bool
 | [] => false
 | v :: r => if manyV v then true else manyL r
end
def idxI (s : ByteArray) : List ByteArray -> Nat -> Int
 | [], _ => -1
 | x :: r, i => if s = x then (i : Int) else idxI s r (i + 1)
def placesL : List ByteArray -> Nat -> List D -> List D
 | [], _, m => m
 | s :: r, i, m => placesL r (i + 1) (mput (sD s) (iD i) m)
mutual
def formedT : Typ -> Bool
 | .mk k ns l =>
  if k = 9 then ns.length == 0 && l.length == 1 && ltI (formedTL l 0) 0
  else if k = 10 \/ k = 11 then ns.length == l.length && decide ns.Nodup && ltI (ixL (fun s => !validV s) ns 0) 0 && ltI (formedTL l 0) 0
  else decide (1 <= k /\ k <= 8) && ns.length == 0 && l.length == 0
def formedTL : List Typ -> Nat -> Int
 | [], _ => -1
 | t :: r, i => if formedT t then formedTL r (i + 1) else (i : Int)
end
mutual
def spanT : Typ -> Int × Int × Bool
 | .mk k ns l =>
  let s := spanTL l (0, 1, if (l.length : Int) <= 256 then !decide (ixL (fun s : ByteArray => decide ((s.size : Int) > 64)) ns 0 ≥ 0) else false)
  (wrap (s.1 + 1), s.2.1, s.2.2)
def spanTL : List Typ -> Int × Int × Bool -> Int × Int × Bool
 | [], acc => acc
 | t :: r, acc => spanTL r (if (spanT t).1 > acc.1 then (spanT t).1 else acc.1, wrap (acc.2.1 + (spanT t).2.1), acc.2.2 && (spanT t).2.2)
end
def checkT (t : Typ) : Int := if formedT t then (if (spanT t).2.2 then (if (spanT t).1 > 16 then 2 else if (spanT t).2.1 > 4096 then 2 else 0) else 2) else 110
mutual
def hgtT : Typ -> Nat
 | .mk _ _ l => hgtTs l + 1
def hgtTs : List Typ -> Nat
 | [] => 0
 | v :: r => max (hgtT v) (hgtTs r)
end
def kindsT (k : Int) : Int := [0, 0, 1, 2, 3, 3, 4, 5, 6].getD k.toNat 0
def optB {α : Type} (o : Option α) (f : α -> Bool) : Bool := match o with | some x => f x | none => false
def hasF : Nat -> Typ -> Val -> Bool
 | 0, _, _ => false
 | n + 1, t, v =>
  if t.kind = 1 then true
  else if t.kind = 9 then decide (v.kind = 7) && optB t.list[0]? fun x => v.list.all (hasF n x)
  else if t.kind = 10 then decide (v.kind = 8) && decide (v.names = t.names) && (t.list.zip v.list).all fun p => hasF n p.1 p.2
  else if t.kind = 11 then decide (v.kind = 9) && (decide (0 <= idxI v.text t.names 0) && optB t.list[(idxI v.text t.names 0).toNat]? fun x => optB v.list[0]? (hasF n x))
  else decide (v.kind = kindsT t.kind) && (decide (t.kind ≠ 5) || decide (v.exp ≥ 0))
def hasT (t : Typ) (v : Val) : Bool := hasF (hgtT t) t v
def subF : Nat -> Typ -> Typ -> Bool
 | 0, _, _ => false
 | n + 1, a, b =>
  if b.kind = 1 \/ (a.kind = 5 /\ b.kind = 4) then true
  else if a.kind ≠ b.kind then false
  else if a.kind = 11 then (a.names.zip a.list).all fun p => decide (0 <= idxI p.1 b.names 0) && optB b.list[(idxI p.1 b.names 0).toNat]? (subF n p.2)
  else decide (a.names = b.names) && (decide (a.list.length = b.list.length) && (a.list.zip b.list).all fun p => subF n p.1 p.2)
def subT (a b : Typ) : Bool := subF (hgtT a) a b
def HasT (t : Typ) (v : Val) : Bool × Int := if ¬ checkT t = 0 then (false, checkT t) else if ¬ checkV v = 0 then (false, checkV v) else (hasT t v, 0)
def SubT (a b : Typ) : Bool × Int := if ¬ checkT a = 0 then (false, checkT a) else if ¬ checkT b = 0 then (false, checkT b) else (subT a b, 0)
mutual
def partsT (most : Int) : Int -> Int -> Typ -> Int
 | n, within, .mk k ns l => if within > 300 then wrap (most + 1) else partsTL most within (partsN most (wrap (wrap (n + 1) + ns.length)) ns) l
def partsTL (most : Int) (within : Int) : Int -> List Typ -> Int
 | n, [] => n
 | n, v :: r => if n <= most then partsTL most within (partsT most n (wrap (within + 1)) v) r else n
end
mutual
def wideT : Typ -> Bool
 | .mk k ns l => if (ns.length : Int) > 1000 then true else wideTL l
def wideTL : List Typ -> Bool
 | [] => false
 | v :: r => if wideT v then true else wideTL r
end
mutual
def smallV : Val -> Bool
 | .mk k f ng d e b t ns l => decide (ns.length <= 1000000) && decide (l.length <= 1000000) && smallL l
def smallL : List Val -> Bool
 | [] => true
 | v :: r => smallV v && smallL r
end
mutual
def smallT : Typ -> Bool
 | .mk k ns l => decide (ns.length <= 1000000) && decide (l.length <= 1000000) && smallTL l
def smallTL : List Typ -> Bool
 | [] => true
 | v :: r => smallT v && smallTL r
end
noncomputable def eqT (a b : Typ) : Bool := @decide (a = b) (Classical.propDecidable _)
noncomputable def eqTs (a b : List Typ) : Bool := @decide (a = b) (Classical.propDecidable _)

noncomputable def phi (n : Nat) (g : Nat) (ds : List D) : D :=
 let d0 := ds.getD 0 .nil
 let d1 := ds.getD 1 .nil
 match g with
 | 0 => iD (depV d0.val1)
 | 1 => iD (sizV d0.val1)
 | 2 => bD (formedV d0.val1)
 | 3 => iD (formedL d0.vals 0)
 | 4 => bD (namesV (.lst []) d0.strs)
 | 5 => iD (numV (d0.cells.getD 0 .nil).bool (d0.cells.getD 1 .nil).str (d0.cells.getD 2 .nil).int)
 | 6 => sD (trimV d0.str d1.str)
 | 7 => bD (validV d0.str)
 | 8 => bD (shortV d0.val1)
 | 9 => iD (ixL (fun s : ByteArray => decide ((s.size : Int) > 64)) d0.strs 0)
 | 10 => iD (shortL d0.vals 0)
 | 11 => iD (partsV (ds.getD 2 .nil).int d1.int (ds.getD 3 .nil).int d0.val1)
 | 12 => bD (manyV d0.val1)
 | 13 => iD (checkV d0.val1)
 | 14 => bD true
 | 15 => bD true
 | 16 => bD (decide (d0.strs = d1.strs))
 | 17 => bD (eqV d0.val1 d1.val1)
 | 18 => bD (eqVs d0.vals d1.vals)
 | 19 => iD (cmpS d0.str d1.str)
 | 20 => sD (zer d1.int)
 | 21 =>
  let x := levX (d0.cells.getD 2 .nil).int (d1.cells.getD 2 .nil).int
  let p := levP (d0.cells.getD 1 .nil).str (d0.cells.getD 2 .nil).int x
  let q := levP (d1.cells.getD 1 .nil).str (d1.cells.getD 2 .nil).int x
  .row [sD (levQ p q), sD (levQ q (levQ p q)), iD x]
 | 22 =>
  let r := numcmpV (d0.cells.getD 0 .nil).bool (d0.cells.getD 1 .nil).str (d0.cells.getD 2 .nil).int (d1.cells.getD 0 .nil).bool (d1.cells.getD 1 .nil).str (d1.cells.getD 2 .nil).int
  .row [iD r.1, iD r.2]
 | 23 => pairsD (d0.val1.names.zip d0.val1.list)
 | 24 => iD (orderV d0.val1 d1.val1)
 | 25 => iD (rowsG orderV d0.vals d1.vals)
 | 26 => iD (rowsG (pairC orderV) d0.pairs d1.pairs)
 | 27 => .row [iD (vcmpV d0.val1 d1.val1).1, iD (vcmpV d0.val1 d1.val1).2]
 | 44 => iD (depV d0.val1)
 | 45 => iD (sizV d0.val1)
 | 46 => bD (shortV d0.val1)
 | 48 => bD (eqV d0.val1 d1.val1)
 | 40 => bD (decide d0.strs.Nodup)
 | 36 => bD (digV d0.str)
 | 30 => bD (validV d0.str)
 | 42 => bD (ownV d0.val1)
 | 41 => bD (plainV d0.val1)
 | 43 => bD (formedV d0.val1)
 | 47 => iD (checkV d0.val1)
 | 35 => iD (numbV d0.str d1.int)
 | 34 => sD (encV d0.int)
 | 37 => sD (zer d0.int)
 | 38 => bD (decide (cmpS d0.str d1.str = -1))
 | 39 => bD (decide ((numcmpV (d0.cells.getD 0 .nil).bool (d0.cells.getD 1 .nil).str (d0.cells.getD 2 .nil).int (d1.cells.getD 0 .nil).bool (d1.cells.getD 1 .nil).str (d1.cells.getD 2 .nil).int).1 = -1))
 | 33 => bD (beginsV d0.str)
 | 32 => .row [iD (decV d0.str d1.int).1, iD (decV d0.str d1.int).2.1, iD (decV d0.str d1.int).2.2]
 | 31 => .row [iD (countF (d0.str.size + 1) d0.str 0 0).1, iD (countF (d0.str.size + 1) d0.str 0 0).2]
 | 49 => bD (decide (orderV d0.val1 d1.val1 = -1))
 | 50 => .row [iD (vcmpV d0.val1 d1.val1).1, iD (vcmpV d0.val1 d1.val1).2]
 | 54 => iD (longV d0.int.toNat)
 | 55 => bD (isR d0.int)
 | 56 =>
  let x := levX (d0.cells.getD 2 .nil).int (d1.cells.getD 2 .nil).int
  let p := levP (d0.cells.getD 1 .nil).str (d0.cells.getD 2 .nil).int x
  let q := levP (d1.cells.getD 1 .nil).str (d1.cells.getD 2 .nil).int x
  .row [sD (levQ p q), sD (levQ q (levQ p q)), iD x]
 | 53 => bD true
 | 57 => .row [.lst (placesL d0.strs 0 [])]
 | 58 => bD (formedT d0.typ1)
 | 59 => iD (ixL (fun s => !validV s) d0.strs 0)
 | 60 => iD (formedTL d0.typs 0)
 | 61 => .row [iD (spanT d0.typ1).1, iD (spanT d0.typ1).2.1, bD (spanT d0.typ1).2.2]
 | 62 => iD (ixL (fun s : ByteArray => decide ((s.size : Int) > 64)) d0.strs 0)
 | 63 => iD (checkT d0.typ1)
 | 64 => bD (hasT d0.typ1 d1.val1)
 | 65 => iD (ixL (fun v => !optB (d1.cells.getD 0 .nil).typ1.list[0]? fun x => hasT x v) d0.vals 0)
 | 66 => iD (idxI d1.str d0.strs 0)
 | 67 => .row [bD (HasT d0.typ1 d1.val1).1, iD (HasT d0.typ1 d1.val1).2]
 | 68 => bD (subT d0.typ1 d1.typ1)
 | 69 => bD (decide (d0.typs.length = d1.typs.length) && (d0.typs.zip d1.typs).all fun p => subT p.1 p.2)
 | 70 => iD (if ¬ checkT d0.typ1 = 0 then checkT d0.typ1 else checkT d1.typ1)
 | 71 => .row [bD (SubT d0.typ1 d1.typ1).1, iD (SubT d0.typ1 d1.typ1).2]
 | 72 => iD (partsT (ds.getD 2 .nil).int d1.int (ds.getD 3 .nil).int d0.typ1)
 | 73 => bD (wideT d0.typ1)
 | 74 => bD true
 | 75 => bD true
 | 76 => bD true
 | 120 => iD (idxI d1.str d0.strs 0)
 | 121 => bD (d0.strs.all validV && decide d0.strs.Nodup)
 | 122 => bD (formedT d0.typ1)
 | 123 => iD (spanT d0.typ1).1
 | 124 => iD (spanT d0.typ1).2.1
 | 125 => bD (spanT d0.typ1).2.2
 | 126 => iD (checkT d0.typ1)
 | 127 => bD (hasT d0.typ1 d1.val1)
 | 128 => .row [bD (HasT d0.typ1 d1.val1).1, iD (HasT d0.typ1 d1.val1).2]
 | 129 => bD (eqT d0.typ1 d1.typ1)
 | 130 => d0.typ1.toD
 | 131 => bD true
 | 51 => d0.val1.toD
 | 52 => bD true
 | 28 => bD true
 | 29 => bD true
 | 2037 => bD (decide (0 <= d0.int /\ d0.int <= 1000000))
 | 2038 => bD (decide (d0.str.size = d1.str.size))
 | 2049 => bD (good d0.val1 && good d1.val1)
 | 2033 => bD (decide (0 < d0.str.size))
 | 2039 => bD (decide (numV (d0.cells.getD 0 .nil).bool (d0.cells.getD 1 .nil).str (d0.cells.getD 2 .nil).int = 0 /\ numV (d1.cells.getD 0 .nil).bool (d1.cells.getD 1 .nil).str (d1.cells.getD 2 .nil).int = 0))
 | 2035 => bD (decide (1 <= d1.int /\ d1.int <= 4 /\ d1.int <= d0.str.size))
 | 2043 => bD (decide (D.szL ds + 2 < n))
 | 2047 => bD (decide (D.szL ds + 4 < n))
 | 2050 => bD (decide (D.szL ds + 4 < n))
 | 2020 => bD (decide (0 <= d1.int /\ d1.int <= 1000000))
 | 2021 => bD (decide ((d0.cells.getD 1 .nil).str.size <= 40 /\ (d1.cells.getD 1 .nil).str.size <= 40 /\ -400 <= (d0.cells.getD 2 .nil).int /\ (d0.cells.getD 2 .nil).int <= 400 /\ -400 <= (d1.cells.getD 2 .nil).int /\ (d1.cells.getD 2 .nil).int <= 400))
 | 2056 => bD (decide ((d0.cells.getD 1 .nil).str.size <= 40 /\ (d1.cells.getD 1 .nil).str.size <= 40 /\ -400 <= (d0.cells.getD 2 .nil).int /\ (d0.cells.getD 2 .nil).int <= 400 /\ -400 <= (d1.cells.getD 2 .nil).int /\ (d1.cells.getD 2 .nil).int <= 400))
 | 2051 => bD (smallV d0.val1)
 | 2064 => bD (formedT d0.typ1 && formedV d1.val1)
 | 2127 => bD (formedT d0.typ1 && formedV d1.val1)
 | 2130 => bD (smallT d0.typ1)
 | 2065 => bD (formedT (d1.cells.getD 0 .nil).typ1 && (decide ((d1.cells.getD 0 .nil).typ1.list.length = 1) && d0.vals.all formedV))
 | 2068 => bD (formedT d0.typ1 && formedT d1.typ1)
 | 2069 => bD (d0.typs.all formedT && d1.typs.all formedT)
 | 2023 => bD (decide (d0.val1.names.length = d0.val1.list.length /\ d0.val1.list.length <= 256))
 | 2024 => bD (good d0.val1 && good d1.val1)
 | 2025 => bD (d0.vals.all good && d1.vals.all good)
 | 2026 => bD ((d0.pairs.all fun p => good p.2) && (d1.pairs.all fun p => good p.2))
 | 1000 => bD (@decide (okD n ds) (Classical.propDecidable _))
 | _ => .nil
@[instance_reducible] noncomputable def I (n : Nat) : Interp := ⟨phi n⟩
theorem hphi (n : Nat) (ds : List D) (h : @Interp.phi (I n) 1000 ds = .v (.bool true)) : okD n ds := by
 have h : D.v (.bool (@decide (okD n ds) (Classical.propDecidable _))) = .v (.bool true) := h
 simp only [D.v.injEq, Value.bool.injEq, decide_eq_true_eq] at h
 exact h
theorem phi_irrel {n m g : Nat} (hg : g < 1000) (ds : List D) : phi n g ds = phi m g ds := by
 unfold phi
 simp only
 split <;> first | rfl | (exfalso; omega)
theorem ok_irrel {n m : Nat} {q : Sig} {pre : List D -> Prop} (hg : q.g < 1000) (h : @Ok (I n) q pre) : @Ok (I m) q pre := by
 intro W J vs ds hL hI ha hp
 refine (h W J vs ds hL hI ha hp).mono ?_
 rintro e W' ⟨v, h1, h2, h3⟩
 refine ⟨v, h1, h2, ?_⟩
 have : @Interp.phi (I m) q.g ds = @Interp.phi (I n) q.g ds := phi_irrel hg ds
 rw [this]; exact h3
theorem ok_zero {n : Nat} {q : Sig} : @Ok (I n) q (okD 0) := fun W J vs ds hL hI ha hp => absurd hp.1 (Nat.not_lt_zero _)
theorem phi_1000 {n : Nat} {ds : List D} : (@Interp.phi (I n) 1000 ds = .v (.bool true)) ↔ okD n ds := by
 show (D.v (.bool (@decide (okD n ds) (Classical.propDecidable _))) = .v (.bool true)) ↔ _
 simp only [D.v.injEq, Value.bool.injEq, decide_eq_true_eq]
section
variable (n : Nat)
theorem phi_depth (v : Val) : @Interp.phi (I n) 0 [v.toD] = iD (depV v) := by show iD (depV v.toD.val1) = _; rw [val1_toD]
theorem phi_size (v : Val) : @Interp.phi (I n) 1 [v.toD] = iD (sizV v) := by show iD (sizV v.toD.val1) = _; rw [val1_toD]
theorem phi_formed (v : Val) : @Interp.phi (I n) 2 [v.toD] = bD (formedV v) := by show bD (formedV v.toD.val1) = _; rw [val1_toD]
theorem phi_ixformed (l : List Val) (d : D) : @Interp.phi (I n) 3 [valsD l, d] = iD (formedL l 0) := by show iD (formedL (valsD l).vals 0) = _; rw [vals_valsD]
theorem phi_names (l : List ByteArray) : @Interp.phi (I n) 4 [strsD l] = bD (namesV (.lst []) l) := by show bD (namesV _ (strsD l).strs) = _; rw [strs_strsD]
theorem phi_numcheck (a : Bool) (b : ByteArray) (c : Int) : @Interp.phi (I n) 5 [.row [bD a, sD b, iD c]] = iD (numV a b c) := rfl
theorem phi_trim (a b : ByteArray) : @Interp.phi (I n) 6 [sD a, sD b] = sD (trimV a b) := rfl
theorem phi_valid (a : ByteArray) : @Interp.phi (I n) 7 [sD a] = bD (validV a) := rfl
theorem phi_short (v : Val) : @Interp.phi (I n) 8 [v.toD] = bD (shortV v) := by show bD (shortV v.toD.val1) = _; rw [val1_toD]
theorem phi_ixshort1 (l : List ByteArray) (d : D) : @Interp.phi (I n) 9 [strsD l, d] = iD (ixL (fun s : ByteArray => decide ((s.size : Int) > 64)) l 0) := by show iD (ixL _ (strsD l).strs 0) = _; rw [strs_strsD]
theorem phi_ixshort2 (l : List Val) (d : D) : @Interp.phi (I n) 10 [valsD l, d] = iD (shortL l 0) := by show iD (shortL (valsD l).vals 0) = _; rw [vals_valsD]
theorem phi_parts (v : Val) (a b c : Int) : @Interp.phi (I n) 11 [v.toD, iD a, iD b, iD c] = iD (partsV b a c v) := by show iD (partsV b a c v.toD.val1) = _; rw [val1_toD]
theorem phi_check (v : Val) : @Interp.phi (I n) 13 [v.toD] = iD (checkV v) := by show iD (checkV v.toD.val1) = _; rw [val1_toD]
theorem phi_many (v : Val) : @Interp.phi (I n) 12 [v.toD] = bD (manyV v) := by show bD (manyV v.toD.val1) = _; rw [val1_toD]
theorem phi_eqstrs (a b : List ByteArray) : @Interp.phi (I n) 16 [strsD a, strsD b] = bD (decide (a = b)) := by show bD (decide ((strsD a).strs = (strsD b).strs)) = _; rw [strs_strsD, strs_strsD]
theorem phi_rdepth (v : Val) : @Interp.phi (I n) 44 [v.toD] = iD (depV v) := by show iD (depV v.toD.val1) = _; rw [val1_toD]
theorem phi_rsize (v : Val) : @Interp.phi (I n) 45 [v.toD] = iD (sizV v) := by show iD (sizV v.toD.val1) = _; rw [val1_toD]
theorem phi_rshort (v : Val) : @Interp.phi (I n) 46 [v.toD] = bD (shortV v) := by show bD (shortV v.toD.val1) = _; rw [val1_toD]
theorem phi_runlike (l : List ByteArray) : @Interp.phi (I n) 40 [strsD l] = bD (decide l.Nodup) := by show bD (decide (strsD l).strs.Nodup) = _; rw [strs_strsD]
theorem phi_rall (a : ByteArray) : @Interp.phi (I n) 36 [sD a] = bD (digV a) := rfl
theorem phi_rvalid (a : ByteArray) : @Interp.phi (I n) 30 [sD a] = bD (validV a) := rfl
theorem phi_rplain (v : Val) : @Interp.phi (I n) 41 [v.toD] = bD (plainV v) := by show bD (plainV v.toD.val1) = _; rw [val1_toD]
theorem phi_rown (v : Val) : @Interp.phi (I n) 42 [v.toD] = bD (ownV v) := by show bD (ownV v.toD.val1) = _; rw [val1_toD]
theorem phi_rformed (v : Val) : @Interp.phi (I n) 43 [v.toD] = bD (formedV v) := by show bD (formedV v.toD.val1) = _; rw [val1_toD]
theorem phi_rcheck (v : Val) : @Interp.phi (I n) 47 [v.toD] = iD (checkV v) := by show iD (checkV v.toD.val1) = _; rw [val1_toD]
theorem phi_rnumber (a : ByteArray) (i : Int) : @Interp.phi (I n) 35 [sD a, iD i] = iD (numbV a i) := rfl
theorem phi_rbytes (i : Int) : @Interp.phi (I n) 34 [iD i] = sD (encV i) := rfl
theorem pre_rformed (ds : List D) : (@Interp.phi (I n) 2043 ds = .v (.bool true)) ↔ D.szL ds + 2 < n := by
 show (bD (decide (D.szL ds + 2 < n)) = _) ↔ _
 rw [bD_true, decide_eq_true_iff]
theorem pre_rcheck (ds : List D) : (@Interp.phi (I n) 2047 ds = .v (.bool true)) ↔ D.szL ds + 4 < n := by
 show (bD (decide (D.szL ds + 4 < n)) = _) ↔ _
 rw [bD_true, decide_eq_true_iff]
theorem pre_rnumber (a : ByteArray) (i : Int) : (@Interp.phi (I n) 2035 [sD a, iD i] = .v (.bool true)) ↔ 1 <= i /\ i <= 4 /\ i <= a.size := by
 show (bD (decide (1 <= i /\ i <= 4 /\ i <= a.size)) = _) ↔ _
 rw [bD_true, decide_eq_true_iff]
theorem phi_rlong (i : Int) : @Interp.phi (I n) 54 [.v (.int .u8 i)] = iD (longV i.toNat) := rfl
theorem phi_ris (i : Int) : @Interp.phi (I n) 55 [iD i] = bD (isR i) := rfl
theorem phi_copy (v : Val) : @Interp.phi (I n) 51 [v.toD] = v.toD := by show v.toD.val1.toD = _; rw [val1_toD]
theorem pre_copy (v : Val) : (@Interp.phi (I n) 2051 [v.toD] = .v (.bool true)) ↔ smallV v = true := by
 show (bD (smallV v.toD.val1) = _) ↔ _
 rw [bD_true, val1_toD]
theorem phi_tplaces (l : List ByteArray) : @Interp.phi (I n) 57 [strsD l] = .row [.lst (placesL l 0 [])] := by show D.row [.lst (placesL (strsD l).strs 0 [])] = _; rw [strs_strsD]
theorem phi_tformed (v : Typ) : @Interp.phi (I n) 58 [v.toD] = bD (formedT v) := by show bD (formedT v.toD.typ1) = _; rw [typ1_toD]
theorem phi_tixval (l : List ByteArray) (d : D) : @Interp.phi (I n) 59 [strsD l, d] = iD (ixL (fun s => !validV s) l 0) := by show iD (ixL _ (strsD l).strs 0) = _; rw [strs_strsD]
theorem phi_tixform (l : List Typ) (d : D) : @Interp.phi (I n) 60 [typsD l, d] = iD (formedTL l 0) := by show iD (formedTL (typsD l).typs 0) = _; rw [typs_typsD]
theorem phi_tspan (v : Typ) : @Interp.phi (I n) 61 [v.toD] = .row [iD (spanT v).1, iD (spanT v).2.1, bD (spanT v).2.2] := by show D.row [iD (spanT v.toD.typ1).1, iD (spanT v.toD.typ1).2.1, bD (spanT v.toD.typ1).2.2] = _; rw [typ1_toD]
theorem phi_tixspan (l : List ByteArray) (d : D) : @Interp.phi (I n) 62 [strsD l, d] = iD (ixL (fun s : ByteArray => decide ((s.size : Int) > 64)) l 0) := by show iD (ixL _ (strsD l).strs 0) = _; rw [strs_strsD]
theorem phi_tcheck (v : Typ) : @Interp.phi (I n) 63 [v.toD] = iD (checkT v) := by show iD (checkT v.toD.typ1) = _; rw [typ1_toD]
theorem phi_thas (a : Typ) (v : Val) : @Interp.phi (I n) 64 [a.toD, v.toD] = bD (hasT a v) := by show bD (hasT a.toD.typ1 v.toD.val1) = _; rw [typ1_toD, val1_toD]
theorem phi_tixhas (l : List Val) (a : Typ) : @Interp.phi (I n) 65 [valsD l, .row [a.toD]] = iD (ixL (fun v => !optB a.list[0]? fun x => hasT x v) l 0) := by show iD (ixL (fun v => !optB a.toD.typ1.list[0]? fun x => hasT x v) (valsD l).vals 0) = _; rw [typ1_toD, vals_valsD]
theorem phi_sindex (l : List ByteArray) (s : ByteArray) : @Interp.phi (I n) 66 [strsD l, sD s] = iD (idxI s l 0) := by show iD (idxI s (strsD l).strs 0) = _; rw [strs_strsD]
theorem phi_tHas (a : Typ) (v : Val) : @Interp.phi (I n) 67 [a.toD, v.toD] = .row [bD (HasT a v).1, iD (HasT a v).2] := by show D.row [bD (HasT a.toD.typ1 v.toD.val1).1, iD (HasT a.toD.typ1 v.toD.val1).2] = _; rw [typ1_toD, val1_toD]
theorem phi_kparts (v : Typ) (a b c : Int) : @Interp.phi (I n) 72 [v.toD, iD a, iD b, iD c] = iD (partsT b a c v) := by show iD (partsT b a c v.toD.typ1) = _; rw [typ1_toD]
theorem phi_kwide (v : Typ) : @Interp.phi (I n) 73 [v.toD] = bD (wideT v) := by show bD (wideT v.toD.typ1) = _; rw [typ1_toD]
theorem phi_tawake : @Interp.phi (I n) 74 [] = bD true := rfl
theorem phi_urplace (l : List ByteArray) (s : ByteArray) : @Interp.phi (I n) 120 [strsD l, sD s] = iD (idxI s l 0) := by show iD (idxI s (strsD l).strs 0) = _; rw [strs_strsD]
theorem phi_urnames (l : List ByteArray) : @Interp.phi (I n) 121 [strsD l] = bD (l.all validV && decide l.Nodup) := by show bD ((strsD l).strs.all validV && decide (strsD l).strs.Nodup) = _; rw [strs_strsD]
theorem phi_urformed (v : Typ) : @Interp.phi (I n) 122 [v.toD] = bD (formedT v) := by show bD (formedT v.toD.typ1) = _; rw [typ1_toD]
theorem phi_urdepth (v : Typ) : @Interp.phi (I n) 123 [v.toD] = iD (spanT v).1 := by show iD (spanT v.toD.typ1).1 = _; rw [typ1_toD]
theorem phi_ursize (v : Typ) : @Interp.phi (I n) 124 [v.toD] = iD (spanT v).2.1 := by show iD (spanT v.toD.typ1).2.1 = _; rw [typ1_toD]
theorem phi_urshort (v : Typ) : @Interp.phi (I n) 125 [v.toD] = bD (spanT v).2.2 := by show bD (spanT v.toD.typ1).2.2 = _; rw [typ1_toD]
theorem phi_urcheck (v : Typ) : @Interp.phi (I n) 126 [v.toD] = iD (checkT v) := by show iD (checkT v.toD.typ1) = _; rw [typ1_toD]
theorem phi_urin (a : Typ) (v : Val) : @Interp.phi (I n) 127 [a.toD, v.toD] = bD (hasT a v) := by show bD (hasT a.toD.typ1 v.toD.val1) = _; rw [typ1_toD, val1_toD]
theorem phi_urhas (a : Typ) (v : Val) : @Interp.phi (I n) 128 [a.toD, v.toD] = .row [bD (HasT a v).1, iD (HasT a v).2] := by show D.row [bD (HasT a.toD.typ1 v.toD.val1).1, iD (HasT a.toD.typ1 v.toD.val1).2] = _; rw [typ1_toD, val1_toD]
theorem phi_ursame (a b : Typ) : @Interp.phi (I n) 129 [a.toD, b.toD] = bD (eqT a b) := by show bD (eqT a.toD.typ1 b.toD.typ1) = _; rw [typ1_toD, typ1_toD]
theorem phi_tcopy (v : Typ) : @Interp.phi (I n) 130 [v.toD] = v.toD := by show v.toD.typ1.toD = _; rw [typ1_toD]
theorem phi_lchecks (ds : List D) : @Interp.phi (I n) 131 ds = bD true := rfl
theorem pre_urin (a : Typ) (v : Val) : (@Interp.phi (I n) 2127 [a.toD, v.toD] = .v (.bool true)) ↔ formedT a = true /\ formedV v = true := by
 show (bD (formedT a.toD.typ1 && formedV v.toD.val1) = _) ↔ _
 rw [bD_true, Bool.and_eq_true, typ1_toD, val1_toD]
theorem pre_tcopy (v : Typ) : (@Interp.phi (I n) 2130 [v.toD] = .v (.bool true)) ↔ smallT v = true := by
 show (bD (smallT v.toD.typ1) = _) ↔ _
 rw [bD_true, typ1_toD]
theorem pre_thas (a : Typ) (v : Val) : (@Interp.phi (I n) 2064 [a.toD, v.toD] = .v (.bool true)) ↔ formedT a = true /\ formedV v = true := by
 show (bD (formedT a.toD.typ1 && formedV v.toD.val1) = _) ↔ _
 rw [bD_true, Bool.and_eq_true, typ1_toD, val1_toD]
theorem pre_tixhas (l : List Val) (a : Typ) : (@Interp.phi (I n) 2065 [valsD l, .row [a.toD]] = .v (.bool true)) ↔ formedT a = true /\ a.list.length = 1 /\ ∀ x, x ∈ l -> formedV x = true := by
 show (bD (formedT a.toD.typ1 && (decide (a.toD.typ1.list.length = 1) && (valsD l).vals.all formedV)) = _) ↔ _
 rw [bD_true, Bool.and_eq_true, Bool.and_eq_true, typ1_toD, vals_valsD, List.all_eq_true, decide_eq_true_iff]
theorem phi_rbegins (s : ByteArray) : @Interp.phi (I n) 33 [sD s] = bD (beginsV s) := rfl
theorem phi_rdecode (s : ByteArray) (i : Int) : @Interp.phi (I n) 32 [sD s, iD i] = .row [iD (decV s i).1, iD (decV s i).2.1, iD (decV s i).2.2] := rfl
theorem phi_rcount (s : ByteArray) : @Interp.phi (I n) 31 [sD s] = .row [iD (countF (s.size + 1) s 0 0).1, iD (countF (s.size + 1) s 0 0).2] := rfl
theorem pre_rbegins (s : ByteArray) : (@Interp.phi (I n) 2033 [sD s] = .v (.bool true)) ↔ 0 < s.size := by
 show (bD (decide (0 < s.size)) = _) ↔ _
 rw [bD_true, decide_eq_true_iff]
end
end Go.Proofs.YtaeeblcdggjokaaGreatDoor.Vk
/- Contracts: value.Depth, Size, formed. -/
namespace Go.Proofs.YtaeeblcdggjokaaGreatDoor.Vk
open Go Go.Ab Go.RowKit
theorem one_val {d : List D} (h : FitL tb [.row 33] d) : ∃ v : Val, d = [v.toD] := by
 match d, h with
 | [d], ⟨⟨cs, e, hf⟩, _⟩ =>
  subst e
  obtain ⟨v, hv⟩ := fits_val shV shS (.row cs) (by unfold fitsW; exact hf)
  exact ⟨v, by rw [hv]⟩
theorem fit_fn {f : Nat} {d : D} (h : FitS tb (.fn f []) d) : d = .row [] := by
 obtain ⟨ds, rfl, h⟩ := h
 match ds, h with
 | [], _ => rfl
theorem vals_fn {f : Nat} {d : List D} (h : FitL tb [.cell (.sl 33), .fn f []] d) : ∃ l : List Val, d = [valsD l, .row []] := by
 match d, h with
 | [a, b], ⟨h1, h2, _⟩ =>
  obtain ⟨l, rfl⟩ := fits_vals shV shS h1
  rw [fit_fn h2]
  exact ⟨l, rfl⟩
-- head 0 of loop 0: [t3 .sh (.cell (.sc (.i .i64))), t7 .sh (.cell (.sl 33)), t8 .sh (.cell (.sc (.i .i64))), t9 .sh (.cell (.sc (.i .i64)))]
def heads_depth : List Hd := [⟨0, [.any, .any, .any, .sh (.cell (.sc (.i .i64))), .any, .any, .any, .sh (.cell (.sl 33)), .sh (.cell (.sc (.i .i64))), .sh (.cell (.sc (.i .i64))), .any, .any, .any, .any, .any, .any, .any, .any, .any, .any]⟩]
def entry_depth : Tree :=
 (.g 0 [(.i 0), (.c 8 .v0), (.n (.c 8 .v0)), (.i 0)])
def head_depth_0 : Tree :=
 (.ite (.lt .v3 .v2)
 (.giv (.le (.i 0) .v3)
 (.giv (.lt .v3 (.n .v1))
 (.giv (.app 1000 [(.r9 (.a .v1 .v3))])
 (.g 0 [(.pr .ite [(.gt (.app 0 [(.r9 (.a .v1 .v3))]) .v0), (.app 0 [(.r9 (.a .v1 .v3))]), .v0]), .v1, .v2, (.pr (.iop .add .i64) [.v3, (.i 1)])]))))
 (.rt (.pr (.iop .add .i64) [.v0, (.i 1)])))
def trees_depth : List Tree := [head_depth_0]
noncomputable def deps_depth : List Sig := [q_depth]
theorem ok_depth : check q_depth deps_depth heads_depth entry_depth trees_depth = true := by kernel_rfl
theorem depth_step (n : Nat) (ih : @Ok (I n) q_depth (okD n)) : @Ok (I n) q_depth (okD (n + 1)) := by
 letI := I n
 refine fn_ok (hphi n) ok_depth (by intro q hq; simp only [deps_depth, List.mem_singleton] at hq; subst hq; exact ih)
  (fun _ d ds => ∃ (acc : Int) (l : List Val) (i : Nat), ds = [iD acc, valsD l, iD l.length, iD i] /\ i <= l.length /\ l.length <= lim /\ (∀ x, x ∈ l -> okD n [x.toD]) /\ d = iD (wrap (depL acc (l.drop i) + 1)))
  (fun _ ds => (ds.getD 1 .nil).rows.length - (ds.getD 3 .nil).int.toNat) ?_ ?_
 ·intro ds hf hp
  obtain ⟨v, rfl⟩ := one_val hf
  obtain ⟨h1, h2, h3⟩ := okD_list hp
  refine ⟨0, v.list, 0, by simp only [Tree.holds, Out.den, E.den, E.denL, dn, List.getD_cons_zero, List.getD_cons_succ, List.length_map, phi_1000, Int.ofNat_zero], Nat.zero_le _, h2, h3, ?_⟩
  simp only [q_depth, phi_depth]
  cases v; rfl
 ·rintro j h t d ds hj ht hf ⟨acc, l, i, rfl, hi, hl, hs, rfl⟩
  obtain rfl : t = head_depth_0 := by
   match j, ht with
   | 0, ht => exact (Option.some.inj ht).symm
  by_cases hlt : i < l.length
  ·obtain ⟨x, hx, hxm, hd⟩ := drop_get hlt
   simp only [head_depth_0, Tree.holds, Out.den, E.den, E.denL, dn, List.getD_cons_zero, List.getD_cons_succ, List.length_map, phi_1000, rowAt_map hx, phi_depth, wrap_succ hlt hl]
   refine ⟨fun _ => ⟨by omega, by omega, hs x hxm, ⟨if depV x > acc then depV x else acc, l, i + 1, ?_, hlt, hl, hs, ?_⟩, by omega⟩, fun h => by omega⟩
   ·by_cases hg : depV x > acc
    ·rw [if_pos hg, ltI_t.2 hg]; rfl
    ·rw [if_neg hg, ltI_f.2 hg]; rfl
   ·rw [hd, depL]
  ·simp only [head_depth_0, Tree.holds, Out.den, E.den, E.denL, dn, List.getD_cons_zero, List.getD_cons_succ, List.length_map, phi_1000]
   refine ⟨fun h => by omega, fun _ => ?_⟩
   rw [List.drop_eq_nil_of_le (by omega), depL]
theorem depth_ok : ∀ (n : Nat), @Ok (I n) q_depth (okD n)
 | 0 => ok_zero
 | n + 1 => ok_irrel (by decide) (depth_step n (depth_ok n))
-- head 0 of loop 0: [t3 .sh (.cell (.sc (.i .i64))), t7 .sh (.cell (.sl 33)), t8 .sh (.cell (.sc (.i .i64))), t9 .sh (.cell (.sc (.i .i64)))]
def heads_size : List Hd := [⟨0, [.any, .any, .any, .sh (.cell (.sc (.i .i64))), .any, .any, .any, .sh (.cell (.sl 33)), .sh (.cell (.sc (.i .i64))), .sh (.cell (.sc (.i .i64))), .any, .any, .any, .any, .any, .any, .any, .any, .any]⟩]
def entry_size : Tree :=
 (.g 0 [(.i 1), (.c 8 .v0), (.n (.c 8 .v0)), (.i 0)])
def head_size_0 : Tree :=
 (.ite (.lt .v3 .v2)
 (.giv (.le (.i 0) .v3)
 (.giv (.lt .v3 (.n .v1))
 (.giv (.app 1000 [(.r9 (.a .v1 .v3))])
 (.g 0 [(.pr (.iop .add .i64) [.v0, (.app 1 [(.r9 (.a .v1 .v3))])]), .v1, .v2, (.pr (.iop .add .i64) [.v3, (.i 1)])]))))
 (.rt .v0))
def trees_size : List Tree := [head_size_0]
noncomputable def deps_size : List Sig := [q_size]
theorem ok_size : check q_size deps_size heads_size entry_size trees_size = true := by kernel_rfl
theorem size_step (n : Nat) (ih : @Ok (I n) q_size (okD n)) : @Ok (I n) q_size (okD (n + 1)) := by
 letI := I n
 refine fn_ok (hphi n) ok_size (by intro q hq; simp only [deps_size, List.mem_singleton] at hq; subst hq; exact ih)
  (fun _ d ds => ∃ (acc : Int) (l : List Val) (i : Nat), ds = [iD acc, valsD l, iD l.length, iD i] /\ i <= l.length /\ l.length <= lim /\ (∀ x, x ∈ l -> okD n [x.toD]) /\ d = iD (sizL acc (l.drop i)))
  (fun _ ds => (ds.getD 1 .nil).rows.length - (ds.getD 3 .nil).int.toNat) ?_ ?_
 ·intro ds hf hp
  obtain ⟨v, rfl⟩ := one_val hf
  obtain ⟨h1, h2, h3⟩ := okD_list hp
  refine ⟨1, v.list, 0, by simp only [Tree.holds, Out.den, E.den, E.denL, dn, List.getD_cons_zero, List.getD_cons_succ, List.length_map, phi_1000, Int.ofNat_zero], Nat.zero_le _, h2, h3, ?_⟩
  simp only [q_size, phi_size]
  cases v; rfl
 ·rintro j h t d ds hj ht hf ⟨acc, l, i, rfl, hi, hl, hs, rfl⟩
  obtain rfl : t = head_size_0 := by
   match j, ht with
   | 0, ht => exact (Option.some.inj ht).symm
  by_cases hlt : i < l.length
  ·obtain ⟨x, hx, hxm, hd⟩ := drop_get hlt
   simp only [head_size_0, Tree.holds, Out.den, E.den, E.denL, dn, List.getD_cons_zero, List.getD_cons_succ, List.length_map, phi_1000, rowAt_map hx, phi_size, wrap_succ hlt hl]
   refine ⟨fun _ => ⟨by omega, by omega, hs x hxm, ⟨wrap (acc + sizV x), l, i + 1, rfl, hlt, hl, hs, ?_⟩, by omega⟩, fun h => by omega⟩
   rw [hd, sizL]
  ·simp only [head_size_0, Tree.holds, Out.den, E.den, E.denL, dn, List.getD_cons_zero, List.getD_cons_succ, List.length_map, phi_1000]
   refine ⟨fun h => by omega, fun _ => ?_⟩
   rw [List.drop_eq_nil_of_le (by omega), sizL]
theorem size_ok : ∀ (n : Nat), @Ok (I n) q_size (okD n)
 | 0 => ok_zero
 | n + 1 => ok_irrel (by decide) (size_step n (size_ok n))
-- head 0 of loop 0: [t0 .sh (.cell (.sl 33)), t1 .sh (.fn 71 []), t7 .sh (.cell (.sc (.i .i64))), t8 .sh (.cell (.sc (.i .i64)))]
def heads_ixformed : List Hd := [⟨0, [.sh (.cell (.sl 33)), .sh (.fn 71 []), .any, .any, .any, .any, .any, .sh (.cell (.sc (.i .i64))), .sh (.cell (.sc (.i .i64))), .any, .any, .any, .any, .any, .any, .any, .any, .any, .any]⟩]
def entry_ixformed : Tree :=
 (.g 0 [.v0, (.pr .row []), (.n .v0), (.i 0)])
def head_ixformed_0 : Tree :=
 (.ite (.lt .v3 .v2)
 (.giv (.le (.i 0) .v3)
 (.giv (.lt .v3 (.n .v0))
 (.giv (.app 1000 [(.r9 (.a .v0 .v3))])
 (.ite (.app 2 [(.r9 (.a .v0 .v3))])
 (.g 0 [.v0, (.pr .row []), .v2, (.pr (.iop .add .i64) [.v3, (.i 1)])])
 (.rt .v3)))))
 (.rt (.i (-1))))
def trees_ixformed : List Tree := [head_ixformed_0]
noncomputable def deps_ixformed : List Sig := [q_formed]
theorem ok_ixformed : check q_ixformed deps_ixformed heads_ixformed entry_ixformed trees_ixformed = true := by kernel_rfl
theorem ixformed_ok (n : Nat) (ih : @Ok (I n) q_formed (okD n)) : @Ok (I n) q_ixformed (okD n) := by
 letI := I n
 refine fn_ok (hphi n) ok_ixformed (by intro q hq; simp only [deps_ixformed, List.mem_singleton] at hq; subst hq; exact ih)
  (fun _ d ds => ∃ (l : List Val) (i : Nat), ds = [valsD l, .row [], iD l.length, iD i] /\ i <= l.length /\ l.length <= lim /\ (∀ x, x ∈ l -> okD n [x.toD]) /\ d = iD (formedL (l.drop i) i))
  (fun _ ds => (ds.getD 0 .nil).rows.length - (ds.getD 3 .nil).int.toNat) ?_ ?_
 ·intro ds hf hp
  obtain ⟨l, rfl⟩ := vals_fn hf
  obtain ⟨h2, h3⟩ := okD_vals hp
  refine ⟨l, 0, by simp only [Tree.holds, Out.den, E.den, E.denL, dn, List.getD_cons_zero, List.getD_cons_succ, List.length_map, phi_1000, Int.ofNat_zero], Nat.zero_le _, h2, h3, ?_⟩
  simp only [q_ixformed, phi_ixformed, List.drop_zero]
 ·rintro j h t d ds hj ht hf ⟨l, i, rfl, hi, hl, hs, rfl⟩
  obtain rfl : t = head_ixformed_0 := by
   match j, ht with
   | 0, ht => exact (Option.some.inj ht).symm
  by_cases hlt : i < l.length
  ·obtain ⟨x, hx, hxm, hd⟩ := drop_get hlt
   simp only [head_ixformed_0, Tree.holds, Out.den, E.den, E.denL, dn, List.getD_cons_zero, List.getD_cons_succ, List.length_map, phi_1000, rowAt_map hx, phi_formed, wrap_succ hlt hl]
   refine ⟨fun _ => ⟨by omega, by omega, hs x hxm, fun hb => ⟨⟨l, i + 1, rfl, hlt, hl, hs, ?_⟩, by omega⟩, fun hb => ?_⟩, fun h => by omega⟩
   ·rw [hd, formedL, if_pos hb]
   ·rw [hd, formedL, hb]; rfl
  ·simp only [head_ixformed_0, Tree.holds, Out.den, E.den, E.denL, dn, List.getD_cons_zero, List.getD_cons_succ, List.length_map, phi_1000]
   refine ⟨fun h => by omega, fun _ => ?_⟩
   rw [List.drop_eq_nil_of_le (by omega), formedL]
end Go.Proofs.YtaeeblcdggjokaaGreatDoor.Vk
/-
 Contracts of Go's library at this seat's dump, in plain declarations: written by wip/myshelf.py with the kit's lay-shelf.mjs and lay-plain.mjs.
-/
namespace Go.Proofs
open Go.Shelf
open Go.RowKit in
open Go.RowKit Go.Lib in
open Go.RowKit Go.Lib in
open Go.RowKit Go.Lib in
open Go.RowKit Go.Lib in
open Go.RowKit Go.Lib in
open Go.RowKit Go.Lib in
open Go.RowKit Go.Lib in
def Tryz.lays160_ren : Go.Shelf.Ren := ⟨fun | 160 => 106 | 232 => 116 | 231 => 115 | 227 => 117 | 234 => 119 | 233 => 118 | 236 => 121 | 235 => 120 | 228 => 134 | 271 => 137 | 151 => 136 | 197 => 135 | 120 => 145 | 152 => 144 | 260 => 143 | 137 => 148 | 119 => 149 | 224 => 150 | 225 => 151 | 217 => 152 | 266 => 153 | n => n, fun | 9 => 9 | 4 => 4 | 3 => 3 | 5 => 5 | 117 => 119 | 116 => 118 | 0 => 0 | 124 => 122 | 21 => 21 | 105 => 140 | 46 => 109 | 119 => 105 | 139 => 108 | 138 => 107 | n => n, fun | 3 => 1 | 4 => 2 | n => n⟩
theorem Tryz.lays160 : Go.Proofs.Lays.n160 Tryz.prog Tryz.lays160_ren := {
 mixed := by kernel_rfl
 f119 := Tryz.func149.trans (congrArg some (by kernel_rfl))
 f120 := Tryz.func145.trans (congrArg some (by kernel_rfl))
 f137 := Tryz.func148.trans (congrArg some (by kernel_rfl))
 f151 := Tryz.func136.trans (congrArg some (by kernel_rfl))
 f152 := Tryz.func144.trans (congrArg some (by kernel_rfl))
 f160 := Tryz.func106.trans (congrArg some (by kernel_rfl))
 f197 := Tryz.func135.trans (congrArg some (by kernel_rfl))
 f217 := Tryz.func152.trans (congrArg some (by kernel_rfl))
 f224 := Tryz.func150.trans (congrArg some (by kernel_rfl))
 f225 := Tryz.func151.trans (congrArg some (by kernel_rfl))
 f227 := Tryz.func117.trans (congrArg some (by kernel_rfl))
 f228 := Tryz.func134.trans (congrArg some (by kernel_rfl))
 f231 := Tryz.func115.trans (congrArg some (by kernel_rfl))
 f232 := Tryz.func116.trans (congrArg some (by kernel_rfl))
 f233 := Tryz.func118.trans (congrArg some (by kernel_rfl))
 f234 := Tryz.func119.trans (congrArg some (by kernel_rfl))
 f235 := Tryz.func120.trans (congrArg some (by kernel_rfl))
 f236 := Tryz.func121.trans (congrArg some (by kernel_rfl))
 f260 := Tryz.func143.trans (congrArg some (by kernel_rfl))
 f266 := Tryz.func153.trans (congrArg some (by kernel_rfl))
 f271 := Tryz.func137.trans (congrArg some (by kernel_rfl))
 t0 := Tryz.underlying0
 a0 := Tryz.isAgg0
 z0 := Tryz.sizeOf0
 v0 := Tryz.zeroValue0
 t3 := Tryz.underlying3
 a3 := Tryz.isAgg3
 z3 := Tryz.sizeOf3
 v3 := Tryz.zeroValue3
 t4 := Tryz.underlying4
 a4 := Tryz.isAgg4
 z4 := Tryz.sizeOf4
 v4 := Tryz.zeroValue4
 t5 := Tryz.underlying5
 a5 := Tryz.isAgg5
 z5 := Tryz.sizeOf5
 v5 := Tryz.zeroValue5
 t9 := Tryz.underlying9
 a9 := Tryz.isAgg9
 z9 := Tryz.sizeOf9
 v9 := Tryz.zeroValue9
 t21 := Tryz.underlying21
 a21 := Tryz.isAgg21
 z21 := Tryz.sizeOf21
 v21 := Tryz.zeroValue21
 t46 := Tryz.underlying109
 a46 := Tryz.isAgg109
 z46 := Tryz.sizeOf109
 v46 := Tryz.zeroValue109
 t105 := Tryz.underlying140
 a105 := Tryz.isAgg140
 z105 := Tryz.sizeOf140
 v105 := Tryz.zeroValue140
 t116 := Tryz.underlying118
 a116 := Tryz.isAgg118
 z116 := Tryz.sizeOf118
 t117 := Tryz.underlying119
 a117 := Tryz.isAgg119
 z117 := Tryz.sizeOf119
 v117 := Tryz.zeroValue119
 t119 := Tryz.underlying105
 a119 := Tryz.isAgg105
 z119 := Tryz.sizeOf105
 t124 := Tryz.underlying122
 a124 := Tryz.isAgg122
 z124 := Tryz.sizeOf122
 v124 := Tryz.zeroValue122
 t138 := Tryz.underlying107
 a138 := Tryz.isAgg107
 z138 := Tryz.sizeOf107
 v138 := Tryz.zeroValue107
 t139 := Tryz.underlying108
 a139 := Tryz.isAgg108
 z139 := Tryz.sizeOf108
 v139 := Tryz.zeroValue108
 g3 := by kernel_rfl
 g4 := by kernel_rfl }
open Go.RowKit in
theorem Tryz.strings_Trim_laid (s cutset : ByteArray) (w : World) (hs : s.size <= 9223372036854775807) (hcs : cutset.size < 4294967281) (hascii : ∀ (j : Nat) b, cutset.data.toList[j]? = some b -> b.toNat < 128) :
  Calls Tryz.prog 106 #[.string s, .string cutset] w fun e w' => e = .returned (.string ⟨(Lib.trimS s.data.toList cutset.data.toList).toArray⟩) /\ Below w.heap.size w w' := Any.strings_Trim_laid Tryz.lays160 (by kernel_rfl) s cutset w hs hcs hascii
def Tryz.lays196_ren : Go.Shelf.Ren := ⟨fun | 196 => 87 | 259 => 104 | n => n, fun | 9 => 9 | 4 => 4 | 3 => 3 | 5 => 5 | 12 => 12 | 119 => 105 | 0 => 0 | 46 => 109 | 139 => 108 | 138 => 107 | 53 => 30 | n => n, fun | 3 => 1 | 4 => 2 | n => n⟩
theorem Tryz.lays196 : Go.Proofs.Lays.n196 Tryz.prog Tryz.lays196_ren := {
 mixed := by kernel_rfl
 f196 := Tryz.func87.trans (congrArg some (by kernel_rfl))
 f259 := Tryz.func104.trans (congrArg some (by kernel_rfl))
 t0 := Tryz.underlying0
 a0 := Tryz.isAgg0
 z0 := Tryz.sizeOf0
 v0 := Tryz.zeroValue0
 t3 := Tryz.underlying3
 a3 := Tryz.isAgg3
 z3 := Tryz.sizeOf3
 v3 := Tryz.zeroValue3
 t4 := Tryz.underlying4
 a4 := Tryz.isAgg4
 z4 := Tryz.sizeOf4
 v4 := Tryz.zeroValue4
 t5 := Tryz.underlying5
 a5 := Tryz.isAgg5
 z5 := Tryz.sizeOf5
 v5 := Tryz.zeroValue5
 t9 := Tryz.underlying9
 a9 := Tryz.isAgg9
 z9 := Tryz.sizeOf9
 v9 := Tryz.zeroValue9
 t12 := Tryz.underlying12
 a12 := Tryz.isAgg12
 z12 := Tryz.sizeOf12
 v12 := Tryz.zeroValue12
 t46 := Tryz.underlying109
 a46 := Tryz.isAgg109
 z46 := Tryz.sizeOf109
 v46 := Tryz.zeroValue109
 t53 := Tryz.underlying30
 a53 := Tryz.isAgg30
 z53 := Tryz.sizeOf30
 v53 := Tryz.zeroValue30
 t119 := Tryz.underlying105
 a119 := Tryz.isAgg105
 z119 := Tryz.sizeOf105
 t138 := Tryz.underlying107
 a138 := Tryz.isAgg107
 z138 := Tryz.sizeOf107
 v138 := Tryz.zeroValue107
 t139 := Tryz.underlying108
 a139 := Tryz.isAgg108
 z139 := Tryz.sizeOf108
 v139 := Tryz.zeroValue108
 g3 := by kernel_rfl
 g4 := by kernel_rfl }
open Go.RowKit in
theorem Tryz.utf8_ValidString (s : ByteArray) (w : World) (hs : s.size <= 9223372036854775807) (hT : Lib.Utf8Tabs 1 2 w) :
  Calls Tryz.prog 87 #[.string s] w fun e w' => e = .returned (.bool (Lib.validD s.data.toList)) /\ Below w.heap.size w w' := Any.utf8_ValidString Tryz.lays196 s w hs hT
end Go.Proofs
/- Contracts: names, numbers, value.formed, short. -/
namespace Go.Proofs.YtaeeblcdggjokaaGreatDoor.Vk
open Go Go.Ab Go.RowKit
theorem one_strs {d : List D} (h : FitL tb [.cell (.sl 9)] d) : ∃ l : List ByteArray, d = [strsD l] := by
 match d, h with
 | [a], ⟨h1, _⟩ =>
  obtain ⟨l, rfl⟩ := fits_strs shS h1
  exact ⟨l, rfl⟩
theorem strs_fn {f : Nat} {d : List D} (h : FitL tb [.cell (.sl 9), .fn f []] d) : ∃ l : List ByteArray, d = [strsD l, .row []] := by
 match d, h with
 | [a, b], ⟨h1, h2, _⟩ =>
  obtain ⟨l, rfl⟩ := fits_strs shS h1
  rw [fit_fn h2]
  exact ⟨l, rfl⟩
theorem one_num {d : List D} (h : FitL tb [.row 29] d) : ∃ a b c, d = [.row [bD a, sD b, iD c]] := by
 match d, h with
 | [d], ⟨⟨cs, e, hf⟩, _⟩ =>
  subst e
  obtain ⟨d1, r, rfl, g1, hf⟩ := fitsC_cons (show fitsC (kn [] tb).shape cs [.sc .b, .sc .s, .sc (.i .i64)] from hf)
  obtain ⟨d2, r, rfl, g2, hf⟩ := fitsC_cons hf
  obtain ⟨d3, r, rfl, g3, hf⟩ := fitsC_cons hf
  obtain rfl := fitsC_nil hf
  obtain ⟨a, rfl⟩ := fits_bool g1
  obtain ⟨b, rfl⟩ := fits_str g2
  obtain ⟨c, rfl⟩ := fits_int g3
  exact ⟨a, b, c, rfl⟩
-- head 0 of loop 0: [t3 .mp .s .b, t7 .sh (.cell (.sl 9)), t8 .sh (.cell (.sc (.i .i64))), t9 .sh (.cell (.sc (.i .i64)))]
def heads_names : List Hd := [⟨0, [.any, .any, .any, .mp .s .b, .any, .any, .any, .sh (.cell (.sl 9)), .sh (.cell (.sc (.i .i64))), .sh (.cell (.sc (.i .i64))), .any, .any, .any, .any, .any, .any, .any, .any, .any, .any, .any, .any, .any, .any]⟩]
def entry_names : Tree :=
 (.g 0 [(.pr .lst []), .v0, (.n .v0), (.i 0)])
def head_names_0 : Tree :=
 (.ite (.lt .v3 .v2)
 (.giv (.le (.i 0) .v3)
 (.giv (.lt .v3 (.n .v1))
 (.ite (.pr .mget [.v0, (.c 0 (.a .v1 .v3)), (.lit (.bool false))]) .no
 (.giv (.app 1000 [(.c 0 (.a .v1 .v3))])
 (.ite (.app 7 [(.c 0 (.a .v1 .v3))])
 (.g 0 [(.pr .mset [.v0, (.c 0 (.a .v1 .v3)), (.lit (.bool true))]), .v1, .v2, (.pr (.iop .add .i64) [.v3, (.i 1)])]) .no))))) .ye)
def trees_names : List Tree := [head_names_0]
noncomputable def deps_names : List Sig := [q_valid]
theorem ok_names : check q_names deps_names heads_names entry_names trees_names = true := by kernel_rfl
theorem names_ok (n : Nat) (hv : @Ok (I n) q_valid (okD n)) : @Ok (I n) q_names (okD n) := by
 letI := I n
 refine fn_ok (hphi n) ok_names (by intro q hq; simp only [deps_names, List.mem_singleton] at hq; subst hq; exact hv)
  (fun _ d ds => ∃ (m : D) (l : List ByteArray) (i : Nat), ds = [m, strsD l, iD l.length, iD i] /\ i <= l.length /\ l.length <= lim /\ (∀ x, x ∈ l -> okD n [sD x]) /\ d = bD (namesV m (l.drop i)))
  (fun _ ds => (ds.getD 1 .nil).rows.length - (ds.getD 3 .nil).int.toNat) ?_ ?_
 ·intro ds hf hp
  obtain ⟨l, rfl⟩ := one_strs hf
  obtain ⟨h2, h3⟩ := okD_strs hp
  refine ⟨.lst [], l, 0, by simp only [Tree.holds, Out.den, E.den, E.denL, dn, List.getD_cons_zero, List.getD_cons_succ, List.length_map, phi_1000, Int.ofNat_zero], Nat.zero_le _, h2, h3, ?_⟩
  simp only [q_names, phi_names, List.drop_zero]
 ·rintro j h t d ds hj ht hf ⟨m, l, i, rfl, hi, hl, hs, rfl⟩
  obtain ⟨rfl, rfl⟩ : t = head_names_0 /\ h = heads_names[0] := by
   match j, ht, hj with
   | 0, ht, hj => exact ⟨(Option.some.inj ht).symm, (Option.some.inj hj).symm⟩
  obtain ⟨hm, _⟩ : FitM .s .b m /\ True := ⟨hf.1, trivial⟩
  by_cases hlt : i < l.length
  ·obtain ⟨x, hx, hxm, hd⟩ := drop_get hlt
   obtain ⟨b, hb⟩ := mfind_bool (k := sD x) hm false
   simp only [head_names_0, Tree.holds, Out.den, E.den, E.denL, dn, List.getD_cons_zero, List.getD_cons_succ, List.length_map, phi_1000, rowAt_map hx, phi_valid, wrap_succ hlt hl, hb]
   refine ⟨fun _ => ⟨by omega, by omega, fun h => ?_, fun h => ⟨hs x hxm, fun hv => ⟨⟨_, l, i + 1, rfl, hlt, hl, hs, ?_⟩, by omega⟩, fun hv => ?_⟩⟩, fun h => by omega⟩
   ·rw [hd, namesV, hb, bool_v, if_pos h]
   ·rw [hd, namesV, hb, bool_v, h, if_neg (by simp), if_pos hv]
   ·rw [hd, namesV, hb, bool_v, h, if_neg (by simp), hv, if_neg (by simp)]
  ·simp only [head_names_0, Tree.holds, Out.den, E.den, E.denL, dn, List.getD_cons_zero, List.getD_cons_succ, List.length_map, phi_1000]
   refine ⟨fun h => by omega, fun _ => ?_⟩
   rw [List.drop_eq_nil_of_le (by omega), namesV]
-- head 0 of loop 0: [t0 .sh (.cell (.sl 9)), t1 .sh (.fn 72 []), t7 .sh (.cell (.sc (.i .i64))), t8 .sh (.cell (.sc (.i .i64)))]
def heads_ixshort1 : List Hd := [⟨0, [.sh (.cell (.sl 9)), .sh (.fn 72 []), .any, .any, .any, .any, .any, .sh (.cell (.sc (.i .i64))), .sh (.cell (.sc (.i .i64))), .any, .any, .any, .any, .any, .any, .any, .any, .any, .any]⟩]
def entry_ixshort1 : Tree :=
 (.g 0 [.v0, (.pr .row []), (.n .v0), (.i 0)])
def head_ixshort1_0 : Tree :=
 (.ite (.lt .v3 .v2)
 (.giv (.le (.i 0) .v3)
 (.giv (.lt .v3 (.n .v0))
 (.ite (.gt (.pr .slen [(.c 0 (.a .v0 .v3))]) (.i 64))
 (.rt .v3)
 (.g 0 [.v0, (.pr .row []), .v2, (.pr (.iop .add .i64) [.v3, (.i 1)])]))))
 (.rt (.i (-1))))
def trees_ixshort1 : List Tree := [head_ixshort1_0]
noncomputable def deps_ixshort1 : List Sig := []
theorem ok_ixshort1 : check q_ixshort1 deps_ixshort1 heads_ixshort1 entry_ixshort1 trees_ixshort1 = true := by kernel_rfl
theorem ixshort1_ok (n : Nat) : @Ok (I n) q_ixshort1 (okD n) := by
 letI := I n
 refine fn_ok (hphi n) ok_ixshort1 (by intro q hq; simp only [deps_ixshort1, List.not_mem_nil] at hq)
  (fun _ d ds => ∃ (l : List ByteArray) (i : Nat), ds = [strsD l, .row [], iD l.length, iD i] /\ i <= l.length /\ l.length <= lim /\ d = iD (ixL (fun s : ByteArray => decide ((s.size : Int) > 64)) (l.drop i) i))
  (fun _ ds => (ds.getD 0 .nil).rows.length - (ds.getD 3 .nil).int.toNat) ?_ ?_
 ·intro ds hf hp
  obtain ⟨l, rfl⟩ := strs_fn hf
  have h2 : l.length <= lim := (lim_strs.1 (okD_two.1 hp).2.1).1
  refine ⟨l, 0, by simp only [Tree.holds, Out.den, E.den, E.denL, dn, List.getD_cons_zero, List.getD_cons_succ, List.length_map, phi_1000, Int.ofNat_zero], Nat.zero_le _, h2, ?_⟩
  simp only [q_ixshort1, phi_ixshort1, List.drop_zero]
 ·rintro j h t d ds hj ht hf ⟨l, i, rfl, hi, hl, rfl⟩
  obtain rfl : t = head_ixshort1_0 := by
   match j, ht with
   | 0, ht => exact (Option.some.inj ht).symm
  by_cases hlt : i < l.length
  ·obtain ⟨x, hx, hxm, hd⟩ := drop_get hlt
   simp only [head_ixshort1_0, Tree.holds, Out.den, E.den, E.denL, dn, List.getD_cons_zero, List.getD_cons_succ, List.length_map, phi_1000, rowAt_map hx, wrap_succ hlt hl]
   refine ⟨fun _ => ⟨by omega, by omega, fun hb => ?_, fun hb => ⟨⟨l, i + 1, rfl, hlt, hl, ?_⟩, by omega⟩⟩, fun h => by omega⟩
   ·rw [hd, ixL, if_pos (by simpa using hb)]
   ·rw [hd, ixL, if_neg (by simpa using hb)]
  ·simp only [head_ixshort1_0, Tree.holds, Out.den, E.den, E.denL, dn, List.getD_cons_zero, List.getD_cons_succ, List.length_map, phi_1000]
   refine ⟨fun h => by omega, fun _ => ?_⟩
   rw [List.drop_eq_nil_of_le (by omega), ixL]
-- head 0 of loop 0: [t0 .sh (.cell (.sl 33)), t1 .sh (.fn 73 []), t7 .sh (.cell (.sc (.i .i64))), t8 .sh (.cell (.sc (.i .i64)))]
def heads_ixshort2 : List Hd := [⟨0, [.sh (.cell (.sl 33)), .sh (.fn 73 []), .any, .any, .any, .any, .any, .sh (.cell (.sc (.i .i64))), .sh (.cell (.sc (.i .i64))), .any, .any, .any, .any, .any, .any, .any, .any, .any, .any]⟩]
def entry_ixshort2 : Tree :=
 (.g 0 [.v0, (.pr .row []), (.n .v0), (.i 0)])
def head_ixshort2_0 : Tree :=
 (.ite (.lt .v3 .v2)
 (.giv (.le (.i 0) .v3)
 (.giv (.lt .v3 (.n .v0))
 (.giv (.app 1000 [(.r9 (.a .v0 .v3))])
 (.ite (.app 8 [(.r9 (.a .v0 .v3))])
 (.g 0 [.v0, (.pr .row []), .v2, (.pr (.iop .add .i64) [.v3, (.i 1)])])
 (.rt .v3)))))
 (.rt (.i (-1))))
def trees_ixshort2 : List Tree := [head_ixshort2_0]
noncomputable def deps_ixshort2 : List Sig := [q_short]
theorem ok_ixshort2 : check q_ixshort2 deps_ixshort2 heads_ixshort2 entry_ixshort2 trees_ixshort2 = true := by kernel_rfl
theorem ixshort2_ok (n : Nat) (ih : @Ok (I n) q_short (okD n)) : @Ok (I n) q_ixshort2 (okD n) := by
 letI := I n
 refine fn_ok (hphi n) ok_ixshort2 (by intro q hq; simp only [deps_ixshort2, List.mem_singleton] at hq; subst hq; exact ih)
  (fun _ d ds => ∃ (l : List Val) (i : Nat), ds = [valsD l, .row [], iD l.length, iD i] /\ i <= l.length /\ l.length <= lim /\ (∀ x, x ∈ l -> okD n [x.toD]) /\ d = iD (shortL (l.drop i) i))
  (fun _ ds => (ds.getD 0 .nil).rows.length - (ds.getD 3 .nil).int.toNat) ?_ ?_
 ·intro ds hf hp
  obtain ⟨l, rfl⟩ := vals_fn hf
  obtain ⟨h2, h3⟩ := okD_vals hp
  refine ⟨l, 0, by simp only [Tree.holds, Out.den, E.den, E.denL, dn, List.getD_cons_zero, List.getD_cons_succ, List.length_map, phi_1000, Int.ofNat_zero], Nat.zero_le _, h2, h3, ?_⟩
  simp only [q_ixshort2, phi_ixshort2, List.drop_zero]
 ·rintro j h t d ds hj ht hf ⟨l, i, rfl, hi, hl, hs, rfl⟩
  obtain rfl : t = head_ixshort2_0 := by
   match j, ht with
   | 0, ht => exact (Option.some.inj ht).symm
  by_cases hlt : i < l.length
  ·obtain ⟨x, hx, hxm, hd⟩ := drop_get hlt
   simp only [head_ixshort2_0, Tree.holds, Out.den, E.den, E.denL, dn, List.getD_cons_zero, List.getD_cons_succ, List.length_map, phi_1000, rowAt_map hx, phi_short, wrap_succ hlt hl]
   refine ⟨fun _ => ⟨by omega, by omega, hs x hxm, fun hb => ⟨⟨l, i + 1, rfl, hlt, hl, hs, ?_⟩, by omega⟩, fun hb => ?_⟩, fun h => by omega⟩
   ·rw [hd, shortL, if_pos hb]
   ·rw [hd, shortL, hb]; rfl
  ·simp only [head_ixshort2_0, Tree.holds, Out.den, E.den, E.denL, dn, List.getD_cons_zero, List.getD_cons_succ, List.length_map, phi_1000]
   refine ⟨fun h => by omega, fun _ => ?_⟩
   rw [List.drop_eq_nil_of_le (by omega), shortL]
def heads_short : List Hd := []
def entry_short : Tree :=
 (.ite (.eq (.c 0 .v0) (.i 9))
 (.ite (.gt (.pr .slen [(.c 6 .v0)]) (.i 64)) .no
 (.ite (.gt (.n (.c 8 .v0)) (.i 256)) .no
 (.giv (.app 1000 [(.c 7 .v0), (.pr .row [])])
 (.ite (.ge (.app 9 [(.c 7 .v0), (.pr .row [])]) (.i 0)) .no
 (.giv (.app 1000 [(.c 8 .v0), (.pr .row [])])
 (.rt (.pr .not [(.ge (.app 10 [(.c 8 .v0), (.pr .row [])]) (.i 0))])))))))
 (.ite (.gt (.pr .slen [(.c 6 .v0)]) (.i 4096)) .no
 (.ite (.gt (.n (.c 8 .v0)) (.i 256)) .no
 (.giv (.app 1000 [(.c 7 .v0), (.pr .row [])])
 (.ite (.ge (.app 9 [(.c 7 .v0), (.pr .row [])]) (.i 0)) .no
 (.giv (.app 1000 [(.c 8 .v0), (.pr .row [])])
 (.rt (.pr .not [(.ge (.app 10 [(.c 8 .v0), (.pr .row [])]) (.i 0))]))))))))
def trees_short : List Tree := []
noncomputable def deps_short : List Sig := [q_ixshort1, q_ixshort2]
theorem ok_short : check q_short deps_short heads_short entry_short trees_short = true := by kernel_rfl
theorem okD_parts {n : Nat} {v : Val} (h : okD (n + 1) [v.toD]) : okD n [valsD v.list, .row []] /\ okD n [strsD v.names, .row []] /\ okD n [strsD v.names] /\ okD n [sD v.text] /\ okD n [.row [bD v.neg, sD v.dig, iD v.exp]] /\ v.text.size <= lim /\ v.dig.size <= lim := by
 have h' := h
 rw [okD_one, sz_toD, lim_toD] at h
 obtain ⟨h1, h2, h3, h4, h5⟩ := h
 have p1 := D.sz_pos (strsD v.names)
 have p2 := D.sz_pos (valsD v.list)
 refine ⟨okD_two.2 ⟨?_, h5, lim_nilrow⟩, okD_two.2 ⟨?_, h4, lim_nilrow⟩, okD_one.2 ⟨?_, h4⟩, okD_one.2 ⟨?_, lim_sD.2 h3⟩, okD_one.2 ⟨?_, ?_⟩, h3, h2⟩
 ·rw [sz_nilrow]; omega
 ·rw [sz_nilrow]; omega
 ·omega
 ·rw [sz_sD]; omega
 ·rw [sz_row]; simp only [D.szL, D.sz]; omega
 ·simp only [D.Lim, D.LimL, and_true, true_and]; exact h2
theorem short_step (n : Nat) (ih : @Ok (I n) q_short (okD n)) : @Ok (I n) q_short (okD (n + 1)) := by
 letI := I n
 refine fn_ok (hphi n) ok_short (by
  intro q hq
  simp only [deps_short, List.mem_cons, List.not_mem_nil, or_false] at hq
  rcases hq with rfl | rfl
  ·exact ixshort1_ok n
  ·exact ixshort2_ok n ih) (fun _ _ _ => False) (fun _ _ => 0) ?_ (fun j h t d ds hj => by simp [heads_short] at hj)
 intro ds hf hp
 obtain ⟨v, rfl⟩ := one_val hf
 obtain ⟨h1, h2, h3, h4, h5, _⟩ := okD_parts hp
 simp only [entry_short, q_short, Tree.holds, Out.den, E.den, E.denL, dn, List.getD_cons_zero, List.getD_cons_succ, List.length_map, phi_1000, phi_ixshort1, phi_ixshort2, phi_short, h1, h2]
 cases v with
 | mk k f ng d e b t ns l =>
  simp only [Val.kind, Val.text, Val.names, Val.list, shortV]
  by_cases hk : k = 9
  ·simp only [hk, if_true]
   refine ⟨fun _ => ⟨fun h => by rw [if_pos h], fun h => ⟨fun h' => by rw [if_neg h, if_pos h'], fun h' => ⟨fun h'' => by rw [if_neg h, if_neg h', if_pos h''], fun h'' => by rw [if_neg h, if_neg h', if_neg h'']; rfl⟩⟩⟩, fun h => absurd trivial h⟩
  ·simp only [hk, if_false]
   refine ⟨fun h => h.elim, fun _ => ⟨fun h => by rw [if_pos h], fun h => ⟨fun h' => by rw [if_neg h, if_pos h'], fun h' => ⟨fun h'' => by rw [if_neg h, if_neg h', if_pos h''], fun h'' => by rw [if_neg h, if_neg h', if_neg h'']; rfl⟩⟩⟩⟩
theorem short_ok : ∀ (n : Nat), @Ok (I n) q_short (okD n)
 | 0 => ok_zero
 | n + 1 => ok_irrel (by decide) (short_step n (short_ok n))
end Go.Proofs.YtaeeblcdggjokaaGreatDoor.Vk
/- Contracts: what Go's library brings, numbers, value.formed. -/
namespace Go.Proofs.YtaeeblcdggjokaaGreatDoor.Vk
open Go Go.Ab Go.RowKit
theorem ok_scalar [Interp] {q : Sig} {pre : List D -> Prop} {t : Ty} (hr : q.res = [.cell (.sc t)]) (h : ∀ (W : World) (vs : Array Value) (ds : List D), TabsMet tabs W -> ArgsR (kn [] tb).shape (fun b off => W.cell? ⟨b, off, none⟩) (fun _ _ => True) q.args vs.toList ds -> pre ds ->
  Calls Tryz.prog q.f vs W fun e W' => ∃ v, e = .returned v /\ Below W.heap.size W W' /\ Interp.phi q.g ds = .v v /\ tyV t v = true) : Ok q pre := by
 intro W J vs ds hL hI ha hp
 refine (callsIn_wide.2 (h W vs ds hL (ha.mono fun b off v hc _ => ⟨hc, trivial⟩) hp)).mono ?_
 rintro e W' ⟨v, rfl, hb, h1, h2⟩
 refine ⟨v, rfl, hb, ?_⟩
 rw [hr, h1]
 exact ⟨by unfold DV; exact ⟨rfl, tyV_ok h2⟩, by unfold fits; exact h2⟩
theorem arg_str {C : Nat -> Nat -> Option Value} {J : Nat -> Nat -> Prop} {v : Value} {d : D} (h : ArgR (kn [] tb).shape C J (.cell (.sc .s)) v d) : ∃ s, v = .string s /\ d = sD s := by
 obtain ⟨h1, h2⟩ := h
 obtain ⟨s, rfl⟩ := fits_str h2
 unfold DV at h1
 exact ⟨s, h1.1, rfl⟩
theorem args_one {C : Nat -> Nat -> Option Value} {J : Nat -> Nat -> Prop} {h : Sh} {vs : Array Value} {ds : List D} (k : ArgsR (kn [] tb).shape C J [h] vs.toList ds) : ∃ v d, vs = #[v] /\ ds = [d] /\ ArgR (kn [] tb).shape C J h v d := by
 obtain ⟨vs⟩ := vs
 match vs, ds, k with
 | [v], [d], k => exact ⟨v, d, rfl, rfl, k.1⟩
 | [], _ :: _, k => exact k.elim
 | [], [], k => exact k.elim
 | [_], [], k => exact k.elim
 | _ :: _ :: _, [], k => exact k.elim
 | _ :: _ :: _, [_], k => exact k.2.elim
 | [_], _ :: _ :: _, k => exact k.2.elim
 | _ :: _ :: _, _ :: _ :: _, k => exact k.2.elim
theorem args_two {C : Nat -> Nat -> Option Value} {J : Nat -> Nat -> Prop} {h h' : Sh} {vs : Array Value} {ds : List D} (k : ArgsR (kn [] tb).shape C J [h, h'] vs.toList ds) : ∃ v u d e, vs = #[v, u] /\ ds = [d, e] /\ ArgR (kn [] tb).shape C J h v d /\ ArgR (kn [] tb).shape C J h' u e := by
 obtain ⟨vs⟩ := vs
 cases vs with
 | nil => cases ds <;> exact k.elim
 | cons v vs =>
  cases ds with
  | nil => exact k.elim
  | cons d ds =>
   obtain ⟨k1, k⟩ := k
   cases vs with
   | nil => cases ds <;> exact k.elim
   | cons u vs =>
    cases ds with
    | nil => exact k.elim
    | cons e ds =>
     obtain ⟨k2, k⟩ := k
     cases vs with
     | nil =>
      cases ds with
      | nil => exact ⟨v, u, d, e, rfl, rfl, k1, k2⟩
      | cons _ _ => exact k.elim
     | cons _ _ => cases ds <;> exact k.elim
theorem utf_met {W : World} (h : TabsMet tabs W) : Lib.Utf8Tabs 1 2 W := by
 have e1 : ∃ us, (1, us) ∈ tabs /\ (List.range 256).all (fun c => match us[c]? with | some v => scEq v (.int .u8 (Lib.firstT c)) | none => false) = true := by
  have k1 : (match tabs.find? (fun x => x.1 == 1) with | some x => (List.range 256).all (fun c => match x.2[c]? with | some v => scEq v (.int .u8 (Lib.firstT c)) | none => false) | none => false) = true := by kernel_rfl
  split at k1
  ·rename_i x hx
   have hm := List.mem_of_find?_eq_some hx
   have hp := List.find?_some hx
   simp only [beq_iff_eq] at hp
   exact ⟨x.2, by rw [<- hp]; exact hm, k1⟩
  ·cases k1
 have e2 : ∃ us, (2, us) ∈ tabs /\ (List.range 16).all (fun c => match us[2 * c]?, us[2 * c + 1]? with | some v, some u => scEq v (.int .u8 (Lib.accLo c)) && scEq u (.int .u8 (Lib.accHi c)) | _, _ => false) = true := by
  have k1 : (match tabs.find? (fun x => x.1 == 2) with | some x => (List.range 16).all (fun c => match x.2[2 * c]?, x.2[2 * c + 1]? with | some v, some u => scEq v (.int .u8 (Lib.accLo c)) && scEq u (.int .u8 (Lib.accHi c)) | _, _ => false) | none => false) = true := by kernel_rfl
  split at k1
  ·rename_i x hx
   have hm := List.mem_of_find?_eq_some hx
   have hp := List.find?_some hx
   simp only [beq_iff_eq] at hp
   exact ⟨x.2, by rw [<- hp]; exact hm, k1⟩
  ·cases k1
 obtain ⟨us, m1, k1⟩ := e1
 obtain ⟨ws, m2, k2⟩ := e2
 refine ⟨fun c hc => ?_, fun i hi => ?_⟩
 ·have := List.all_eq_true.1 k1 c (List.mem_range.2 hc)
  split at this
  ·rename_i v hv
   have := scEq_eq this
   subst this
   have := (h _ us m1).2 c _ hv
   rwa [Nat.zero_add] at this
  ·cases this
 ·have := List.all_eq_true.1 k2 i (List.mem_range.2 hi)
  split at this
  ·rename_i v u hv hu
   rw [Bool.and_eq_true] at this
   have e1 := scEq_eq this.1
   have e2 := scEq_eq this.2
   subst e1 e2
   have g1 := (h _ ws m2).2 _ _ hv
   have g2 := (h _ ws m2).2 _ _ hu
   rw [Nat.zero_add] at g1 g2
   exact ⟨g1, g2⟩
  ·cases this
theorem valid_ok (n : Nat) : @Ok (I n) q_valid (okD n) := by
 letI := I n
 refine ok_scalar (t := .b) rfl fun W vs ds hL ha hp => ?_
 obtain ⟨v, d, rfl, rfl, h1⟩ := args_one ha
 ·obtain ⟨s, rfl, rfl⟩ := arg_str h1
  have hs := lim_sD.1 (okD_one.1 hp).2
  have hs : s.size <= 140737488355328 := hs
  refine (Tryz.utf8_ValidString s W (by omega) (utf_met hL)).mono ?_
  rintro e W' ⟨rfl, hb⟩
  exact ⟨_, rfl, hb, phi_valid n s, rfl⟩
theorem trim_ok (n : Nat) : @Ok (I n) q_trim (okD n) := by
 letI := I n
 refine ok_scalar (t := .s) rfl fun W vs ds hL ha hp => ?_
 obtain ⟨v, u, d, e, rfl, rfl, h1, h2, h3⟩ := args_two ha
 ·obtain ⟨s, rfl, rfl⟩ := arg_str h1
  subst h2 h3
  have hs := lim_sD.1 (okD_two.1 hp).2.1
  have hs : s.size <= 140737488355328 := hs
  refine (Tryz.strings_Trim_laid s tenDigits W (by omega) (by decide) (fun j b hj => ?_)).mono ?_
  ·have : (tenDigits.data.toList.all fun b => decide (b.toNat < 128)) = true := by decide
   have := List.all_eq_true.1 this b (List.mem_of_getElem? hj)
   simpa using this
  ·rintro e W' ⟨rfl, hb⟩
   exact ⟨_, rfl, hb, phi_trim n s tenDigits, rfl⟩
def heads_numcheck : List Hd := []
def entry_numcheck : Tree :=
 (.ite (.pr .and [(.pr (.bcmp .eql) [(.c 0 .v0), (.lit (.bool false))]), (.pr (.scmp .eql) [(.c 1 .v0), (.lit (.string (mkS [48])))]), (.eq (.c 2 .v0) (.i 0))])
 (.rt (.i 0))
 (.ite (.pr (.scmp .neq) [(.c 1 .v0), (.lit (.string .empty))])
 (.giv (.app 1000 [(.c 1 .v0), (.lit (.string (mkS [48, 49, 50, 51, 52, 53, 54, 55, 56, 57])))])
 (.ite (.pr (.scmp .eql) [(.app 6 [(.c 1 .v0), (.lit (.string (mkS [48, 49, 50, 51, 52, 53, 54, 55, 56, 57])))]), (.lit (.string .empty))])
 (.ite (.gt (.pr .slen [(.c 1 .v0)]) (.i 40))
 (.rt (.i 10))
 (.giv (.lt (.i 0) (.pr .slen [(.c 1 .v0)]))
 (.ite (.eq (.pr .sat [(.c 1 .v0), (.i 0)]) (.lit (.int .u8 48)))
 (.rt (.i 10))
 (.ite (.ge (.pr .slen [(.c 1 .v0)]) (.i 1))
 (.giv (.le (.i 0) (.pr (.iop .sub .i64) [(.pr .slen [(.c 1 .v0)]), (.i 1)]))
 (.giv (.le (.pr (.iop .sub .i64) [(.pr .slen [(.c 1 .v0)]), (.i 1)]) (.pr .slen [(.c 1 .v0)]))
 (.ite (.pr (.scmp .eql) [(.pr .ssub [(.c 1 .v0), (.pr (.iop .sub .i64) [(.pr .slen [(.c 1 .v0)]), (.i 1)]), (.pr .slen [(.c 1 .v0)])]), (.lit (.string (mkS [48])))])
 (.rt (.i 10))
 (.ite (.lt (.c 2 .v0) (.i (-400)))
 (.rt (.i 10))
 (.ite (.gt (.c 2 .v0) (.i 400))
 (.rt (.i 10))
 (.rt (.i 0)))))))
 (.ite (.lt (.c 2 .v0) (.i (-400)))
 (.rt (.i 10))
 (.ite (.gt (.c 2 .v0) (.i 400))
 (.rt (.i 10))
 (.rt (.i 0))))))))
 (.rt (.i 10))))
 (.rt (.i 10))))
def trees_numcheck : List Tree := []
noncomputable def deps_numcheck : List Sig := [q_trim]
theorem ok_numcheck : check q_numcheck deps_numcheck heads_numcheck entry_numcheck trees_numcheck = true := by kernel_rfl
theorem size_zero {d : ByteArray} : d.size = 0 ↔ d = ByteArray.empty := by
 constructor
 ·intro h
  exact ByteArray.ext (Array.eq_empty_of_size_eq_zero h)
 ·intro h; rw [h]; rfl
theorem numcheck_ok (n : Nat) : @Ok (I n) q_numcheck (okD n) := by
 letI := I n
 refine fn_ok (hphi n) ok_numcheck (by
  intro q hq
  simp only [deps_numcheck, List.mem_singleton] at hq
  subst hq
  exact trim_ok n) (fun _ _ _ => False) (fun _ _ => 0) ?_ (fun j h t d ds hj => by simp [heads_numcheck] at hj)
 intro ds hf hp
 obtain ⟨a, b, c, rfl⟩ := one_num hf
 have hb : okD n [sD b, sD tenDigits] := by
  rw [okD_one, sz_row] at hp
  simp only [D.szL, D.sz, D.Lim, D.LimL, and_true, true_and] at hp
  exact okD_two.2 ⟨by rw [sz_sD, sz_sD]; omega, lim_sD.2 hp.2, lim_sD.2 (by decide)⟩
 have hs : b.size <= 140737488355328 := lim_sD.1 (okD_two.1 hb).2.1
 have hz := @size_zero b
 have hw : 0 < b.size -> IntKind.i64.wrap ((b.size : Int) - 1) = ((b.size - 1 : Nat) : Int) := fun h => by rw [wrap_id (by omega) (by omega)]; omega
 simp only [entry_numcheck, q_numcheck, Tree.holds, Out.den, E.den, E.denL, dn, List.getD_cons_zero, List.getD_cons_succ, List.length_map, phi_1000, phi_trim, phi_numcheck, row_at0, row_at1, row_at2, List.all_cons, List.all_nil, Bool.and_true, Bool.and_eq_true, Bool.and_eq_false_iff, beq_iff_eq]
 unfold numV
 have ht : (mkS [48, 49, 50, 51, 52, 53, 54, 55, 56, 57]) = tenDigits := rfl
 have ho : (mkS [48]) = one := rfl
 simp only [ht, ho, Int.toNat_natCast, Int.toNat_zero]
 by_cases hb0 : b = .empty
 ·subst hb0
  grind
 ·have hb1 : 0 < b.size := by
   rcases Nat.eq_zero_or_pos b.size with h | h
   ·exact absurd (hz.1 h) hb0
   ·exact h
  rw [hw hb1]
  simp only [Int.toNat_natCast]
  grind
def heads_formed : List Hd := []
def entry_formed : Tree :=
 (.ite (.eq (.c 0 .v0) (.i 1))
 (.ite (.c 1 .v0) .no
 (.ite (.pr .and [(.pr (.bcmp .eql) [(.c 2 .v0), (.lit (.bool false))]), (.pr (.scmp .eql) [(.c 3 .v0), (.lit (.string .empty))]), (.eq (.c 4 .v0) (.i 0))])
 (.ite (.ne (.c 5 .v0) (.lit (.int .u64 0))) .no
 (.ite (.pr (.scmp .neq) [(.c 6 .v0), (.lit (.string .empty))]) .no
 (.ite (.gt (.n (.c 7 .v0)) (.i 0)) .no
 (.ite (.gt (.n (.c 8 .v0)) (.i 0)) .no
 (.giv (.app 1000 [(.c 8 .v0), (.pr .row [])])
 (.rt (.pr .not [(.ge (.app 3 [(.c 8 .v0), (.pr .row [])]) (.i 0))]))))))) .no))
 (.ite (.eq (.c 0 .v0) (.i 2))
 (.ite (.pr .and [(.pr (.bcmp .eql) [(.c 2 .v0), (.lit (.bool false))]), (.pr (.scmp .eql) [(.c 3 .v0), (.lit (.string .empty))]), (.eq (.c 4 .v0) (.i 0))])
 (.ite (.ne (.c 5 .v0) (.lit (.int .u64 0))) .no
 (.ite (.pr (.scmp .neq) [(.c 6 .v0), (.lit (.string .empty))]) .no
 (.ite (.gt (.n (.c 7 .v0)) (.i 0)) .no
 (.ite (.gt (.n (.c 8 .v0)) (.i 0)) .no
 (.giv (.app 1000 [(.c 8 .v0), (.pr .row [])])
 (.rt (.pr .not [(.ge (.app 3 [(.c 8 .v0), (.pr .row [])]) (.i 0))]))))))) .no)
 (.ite (.eq (.c 0 .v0) (.i 3))
 (.giv (.app 1000 [(.pr .row [(.c 2 .v0), (.c 3 .v0), (.c 4 .v0)])])
 (.ite (.eq (.app 5 [(.pr .row [(.c 2 .v0), (.c 3 .v0), (.c 4 .v0)])]) (.i 0))
 (.ite (.c 1 .v0) .no
 (.ite (.ne (.c 5 .v0) (.lit (.int .u64 0))) .no
 (.ite (.pr (.scmp .neq) [(.c 6 .v0), (.lit (.string .empty))]) .no
 (.ite (.gt (.n (.c 7 .v0)) (.i 0)) .no
 (.ite (.gt (.n (.c 8 .v0)) (.i 0)) .no
 (.giv (.app 1000 [(.c 8 .v0), (.pr .row [])])
 (.rt (.pr .not [(.ge (.app 3 [(.c 8 .v0), (.pr .row [])]) (.i 0))])))))))) .no))
 (.ite (.eq (.c 0 .v0) (.i 4))
 (.ite (.c 1 .v0) .no
 (.ite (.pr .and [(.pr (.bcmp .eql) [(.c 2 .v0), (.lit (.bool false))]), (.pr (.scmp .eql) [(.c 3 .v0), (.lit (.string .empty))]), (.eq (.c 4 .v0) (.i 0))])
 (.ite (.pr (.scmp .neq) [(.c 6 .v0), (.lit (.string .empty))]) .no
 (.ite (.gt (.n (.c 7 .v0)) (.i 0)) .no
 (.ite (.gt (.n (.c 8 .v0)) (.i 0)) .no
 (.giv (.app 1000 [(.c 8 .v0), (.pr .row [])])
 (.rt (.pr .not [(.ge (.app 3 [(.c 8 .v0), (.pr .row [])]) (.i 0))])))))) .no))
 (.ite (.eq (.c 0 .v0) (.i 5))
 (.giv (.app 1000 [(.c 6 .v0)])
 (.ite (.app 7 [(.c 6 .v0)])
 (.ite (.c 1 .v0) .no
 (.ite (.pr .and [(.pr (.bcmp .eql) [(.c 2 .v0), (.lit (.bool false))]), (.pr (.scmp .eql) [(.c 3 .v0), (.lit (.string .empty))]), (.eq (.c 4 .v0) (.i 0))])
 (.ite (.ne (.c 5 .v0) (.lit (.int .u64 0))) .no
 (.ite (.gt (.n (.c 7 .v0)) (.i 0)) .no
 (.ite (.gt (.n (.c 8 .v0)) (.i 0)) .no
 (.giv (.app 1000 [(.c 8 .v0), (.pr .row [])])
 (.rt (.pr .not [(.ge (.app 3 [(.c 8 .v0), (.pr .row [])]) (.i 0))])))))) .no)) .no))
 (.ite (.eq (.c 0 .v0) (.i 6))
 (.ite (.c 1 .v0) .no
 (.ite (.pr .and [(.pr (.bcmp .eql) [(.c 2 .v0), (.lit (.bool false))]), (.pr (.scmp .eql) [(.c 3 .v0), (.lit (.string .empty))]), (.eq (.c 4 .v0) (.i 0))])
 (.ite (.ne (.c 5 .v0) (.lit (.int .u64 0))) .no
 (.ite (.gt (.n (.c 7 .v0)) (.i 0)) .no
 (.ite (.gt (.n (.c 8 .v0)) (.i 0)) .no
 (.giv (.app 1000 [(.c 8 .v0), (.pr .row [])])
 (.rt (.pr .not [(.ge (.app 3 [(.c 8 .v0), (.pr .row [])]) (.i 0))])))))) .no))
 (.ite (.eq (.c 0 .v0) (.i 7))
 (.ite (.c 1 .v0) .no
 (.ite (.pr .and [(.pr (.bcmp .eql) [(.c 2 .v0), (.lit (.bool false))]), (.pr (.scmp .eql) [(.c 3 .v0), (.lit (.string .empty))]), (.eq (.c 4 .v0) (.i 0))])
 (.ite (.ne (.c 5 .v0) (.lit (.int .u64 0))) .no
 (.ite (.pr (.scmp .neq) [(.c 6 .v0), (.lit (.string .empty))]) .no
 (.ite (.gt (.n (.c 7 .v0)) (.i 0)) .no
 (.giv (.app 1000 [(.c 8 .v0), (.pr .row [])])
 (.rt (.pr .not [(.ge (.app 3 [(.c 8 .v0), (.pr .row [])]) (.i 0))])))))) .no))
 (.ite (.eq (.c 0 .v0) (.i 8))
 (.ite (.eq (.n (.c 7 .v0)) (.n (.c 8 .v0)))
 (.giv (.app 1000 [(.c 7 .v0)])
 (.ite (.app 4 [(.c 7 .v0)])
 (.ite (.c 1 .v0) .no
 (.ite (.pr .and [(.pr (.bcmp .eql) [(.c 2 .v0), (.lit (.bool false))]), (.pr (.scmp .eql) [(.c 3 .v0), (.lit (.string .empty))]), (.eq (.c 4 .v0) (.i 0))])
 (.ite (.ne (.c 5 .v0) (.lit (.int .u64 0))) .no
 (.ite (.pr (.scmp .neq) [(.c 6 .v0), (.lit (.string .empty))]) .no
 (.giv (.app 1000 [(.c 8 .v0), (.pr .row [])])
 (.rt (.pr .not [(.ge (.app 3 [(.c 8 .v0), (.pr .row [])]) (.i 0))]))))) .no)) .no)) .no)
 (.ite (.eq (.c 0 .v0) (.i 9))
 (.ite (.eq (.n (.c 8 .v0)) (.i 1))
 (.giv (.app 1000 [(.c 6 .v0)])
 (.ite (.app 7 [(.c 6 .v0)])
 (.ite (.c 1 .v0) .no
 (.ite (.pr .and [(.pr (.bcmp .eql) [(.c 2 .v0), (.lit (.bool false))]), (.pr (.scmp .eql) [(.c 3 .v0), (.lit (.string .empty))]), (.eq (.c 4 .v0) (.i 0))])
 (.ite (.ne (.c 5 .v0) (.lit (.int .u64 0))) .no
 (.ite (.gt (.n (.c 7 .v0)) (.i 0)) .no
 (.giv (.app 1000 [(.c 8 .v0), (.pr .row [])])
 (.rt (.pr .not [(.ge (.app 3 [(.c 8 .v0), (.pr .row [])]) (.i 0))]))))) .no)) .no)) .no) .no)))))))))
def trees_formed : List Tree := []
noncomputable def deps_formed : List Sig := [q_ixformed, q_numcheck, q_names, q_valid]
theorem ok_formed : check q_formed deps_formed heads_formed entry_formed trees_formed = true := by kernel_rfl
theorem formed_step (n : Nat) (ih : @Ok (I n) q_formed (okD n)) : @Ok (I n) q_formed (okD (n + 1)) := by
 letI := I n
 refine fn_ok (hphi n) ok_formed (by
  intro q hq
  simp only [deps_formed, List.mem_cons, List.not_mem_nil, or_false] at hq
  rcases hq with rfl | rfl | rfl | rfl
  ·exact ixformed_ok n ih
  ·exact numcheck_ok n
  ·exact names_ok n (valid_ok n)
  ·exact valid_ok n) (fun _ _ _ => False) (fun _ _ => 0) ?_ (fun j h t d ds hj => by simp [heads_formed] at hj)
 intro ds hf hp
 obtain ⟨v, rfl⟩ := one_val hf
 obtain ⟨h1, h2, h3, h4, h5, _⟩ := okD_parts hp
 simp only [entry_formed, q_formed, Tree.holds, Out.den, E.den, E.denL, dn, List.getD_cons_zero, List.getD_cons_succ, List.length_map, phi_1000, phi_ixformed, phi_numcheck, phi_names, phi_valid, phi_formed, h1, h2, h3, h4, h5, List.all_cons, List.all_nil, Bool.and_true, Bool.and_eq_true, Bool.and_eq_false_iff, beq_iff_eq]
 cases v with
 | mk k f ng d e b t ns l =>
  obtain ⟨k1, k2, k3, k4, k5, k6, k7, k8, k9, k0⟩ := formedV_iff k f ng d e b t ns l
  simp only [Val.kind, Val.text, Val.names, Val.list, Val.flag, Val.neg, Val.dig, Val.exp, Val.bits, bD_inj]
  generalize formedV (.mk k f ng d e b t ns l) = F at *
  have hl0 : l.length = 0 -> formedL l 0 = -1 := fun h => by rw [List.length_eq_zero_iff.1 h]; exact formedL_nil
  generalize formedL l 0 = fl at *
  have hle : (!leI 0 fl) = true ↔ fl < 0 := by rw [Bool.not_eq_true', leI_f]; omega
  generalize (!leI 0 fl) = nl at *
  clear hf hp h1 h2 h3 h4 h5 ih
  by_cases e1 : k = 1
  ·have := k1 e1; clear k1 k2 k3 k4 k5 k6 k7 k8 k9 k0; subst e1; grind
  by_cases e2 : k = 2
  ·have := k2 e2; clear k1 k2 k3 k4 k5 k6 k7 k8 k9 k0; subst e2; grind
  by_cases e3 : k = 3
  ·have := k3 e3; clear k1 k2 k3 k4 k5 k6 k7 k8 k9 k0; subst e3; grind
  by_cases e4 : k = 4
  ·have := k4 e4; clear k1 k2 k3 k4 k5 k6 k7 k8 k9 k0; subst e4; grind
  by_cases e5 : k = 5
  ·have := k5 e5; clear k1 k2 k3 k4 k5 k6 k7 k8 k9 k0; subst e5; grind
  by_cases e6 : k = 6
  ·have := k6 e6; clear k1 k2 k3 k4 k5 k6 k7 k8 k9 k0; subst e6; grind
  by_cases e7 : k = 7
  ·have := k7 e7; clear k1 k2 k3 k4 k5 k6 k7 k8 k9 k0; subst e7; grind
  by_cases e8 : k = 8
  ·have := k8 e8; clear k1 k2 k3 k4 k5 k6 k7 k8 k9 k0; subst e8; grind
  by_cases e9 : k = 9
  ·have := k9 e9; clear k1 k2 k3 k4 k5 k6 k7 k8 k9 k0; subst e9; grind
  have := k0 e1 e2 e3 e4 e5 e6 e7 e8 e9
  clear k1 k2 k3 k4 k5 k6 k7 k8 k9 k0; grind
theorem formed_ok : ∀ (n : Nat), @Ok (I n) q_formed (okD n)
 | 0 => ok_zero
 | n + 1 => ok_irrel (by decide) (formed_step n (formed_ok n))
def heads_check : List Hd := []
def entry_check : Tree :=
 (.giv (.app 1000 [(.r9 .v0)])
 (.ite (.app 2 [(.r9 .v0)])
 (.ite (.app 8 [(.r9 .v0)])
 (.ite (.gt (.app 0 [(.r9 .v0)]) (.i 16))
 (.rt (.i 2))
 (.ite (.gt (.app 1 [(.r9 .v0)]) (.i 4096))
 (.rt (.i 2))
 (.rt (.i 0))))
 (.rt (.i 2)))
 (.rt (.i 40))))
def trees_check : List Tree := []
noncomputable def deps_check : List Sig := [q_depth, q_size, q_formed, q_short]
theorem ok_check : check q_check deps_check heads_check entry_check trees_check = true := by kernel_rfl
theorem check_ok (n : Nat) : @Ok (I n) q_check (okD n) := by
 letI := I n
 refine fn_ok (hphi n) ok_check (by
  intro q hq
  simp only [deps_check, List.mem_cons, List.not_mem_nil, or_false] at hq
  rcases hq with rfl | rfl | rfl | rfl
  ·exact depth_ok n
  ·exact size_ok n
  ·exact formed_ok n
  ·exact short_ok n) (fun _ _ _ => False) (fun _ _ => 0) ?_ (fun j h t d ds hj => by simp [heads_check] at hj)
 intro ds hf hp
 obtain ⟨v, rfl⟩ := one_val hf
 simp only [entry_check, q_check, Tree.holds, Out.den, E.den, E.denL, dn, List.getD_cons_zero, List.getD_cons_succ, List.length_map, phi_1000, phi_depth, phi_size, phi_formed, phi_short, phi_check, hp, checkV]
 grind
end Go.Proofs.YtaeeblcdggjokaaGreatDoor.Vk
/- Contracts: what is looked at of a value. -/
namespace Go.Proofs.YtaeeblcdggjokaaGreatDoor.Vk
open Go Go.Ab Go.RowKit
theorem sz_int {k : IntKind} (i : Int) : (D.v (.int k i)).sz = 1 := by simp only [D.sz]
theorem lim_int {k : IntKind} (i : Int) : (D.v (.int k i)).Lim := by simp only [D.Lim]
theorem fit_val {d : D} (h : FitS tb (.row 33) d) : ∃ v : Val, d = v.toD := by
 obtain ⟨cs, rfl, hf⟩ := h
 exact fits_val shV shS (.row cs) (by unfold fitsW; exact hf)
theorem val_int3 {d : List D} (h : FitL tb [.row 33, .cell (.sc (.i .i64)), .cell (.sc (.i .i64)), .cell (.sc (.i .i64))] d) : ∃ (v : Val) (a b c : Int), d = [v.toD, iD a, iD b, iD c] := by
 match d, h with
 | [x, y, z, u], ⟨h1, h2, h3, h4, _⟩ =>
  obtain ⟨v, rfl⟩ := fit_val h1
  obtain ⟨a, rfl⟩ := fits_int h2
  obtain ⟨b, rfl⟩ := fits_int h3
  obtain ⟨c, rfl⟩ := fits_int h4
  exact ⟨v, a, b, c, rfl⟩
-- head 0 of loop 0: [t1 .rf 33, t3 .sh (.cell (.sc (.i .i64)))]
def heads_many : List Hd := [⟨0, [.any, .rf 33, .any, .sh (.cell (.sc (.i .i64))), .any, .any, .any, .any, .any, .any, .any, .any, .any, .any, .any, .any, .any, .any, .any, .any, .any]⟩]
def entry_many : Tree :=
 (.ite (.gt (.n (.c 7 .v0)) (.i 2000)) .ye
 (.g 0 [(.r9 .v0), (.i 0)]))
def head_many_0 : Tree :=
 (.ite (.lt .v1 (.n (.c 8 .v0)))
 (.giv (.le (.i 0) .v1)
 (.giv (.app 1000 [(.r9 (.a (.c 8 .v0) .v1))])
 (.ite (.app 12 [(.r9 (.a (.c 8 .v0) .v1))]) .ye
 (.g 0 [.v0, (.pr (.iop .add .i64) [.v1, (.i 1)])])))) .no)
def trees_many : List Tree := [head_many_0]
noncomputable def deps_many : List Sig := [q_many]
theorem ok_many : check q_many deps_many heads_many entry_many trees_many = true := by kernel_rfl
theorem many_step (n : Nat) (ih : @Ok (I n) q_many (okD n)) : @Ok (I n) q_many (okD (n + 1)) := by
 letI := I n
 refine fn_ok (hphi n) ok_many (by intro q hq; simp only [deps_many, List.mem_singleton] at hq; subst hq; exact ih)
  (fun _ d ds => ∃ (v : Val) (i : Nat), ds = [v.toD, iD i] /\ i <= v.list.length /\ v.list.length <= lim /\ (∀ x, x ∈ v.list -> okD n [x.toD]) /\ d = bD (manyL (v.list.drop i)))
  (fun _ ds => (cellAt (ds.getD 0 .nil) 8).rows.length - (ds.getD 1 .nil).int.toNat) ?_ ?_
 ·intro ds hf hp
  obtain ⟨v, rfl⟩ := one_val hf
  obtain ⟨h1, h2, h3⟩ := okD_list hp
  simp only [entry_many, q_many, Tree.holds, Out.den, E.den, E.denL, dn, List.getD_cons_zero, List.getD_cons_succ, List.length_map, phi_1000, phi_many]
  refine ⟨fun h => ?_, fun h => ⟨v, 0, rfl, Nat.zero_le _, h2, h3, ?_⟩⟩
  ·cases v with
   | mk k f ng d e b t ns l => rw [manyV, if_pos (show (ns.length : Int) > 2000 from h)]
  ·cases v with
   | mk k f ng d e b t ns l => rw [manyV, if_neg (show ¬ (ns.length : Int) > 2000 from h)]; rfl
 ·rintro j h t d ds hj ht hf ⟨v, i, rfl, hi, hl, hs, rfl⟩
  obtain rfl : t = head_many_0 := by
   match j, ht with
   | 0, ht => exact (Option.some.inj ht).symm
  by_cases hlt : i < v.list.length
  ·obtain ⟨x, hx, hxm, hd⟩ := drop_get hlt
   simp only [head_many_0, Tree.holds, Out.den, E.den, E.denL, dn, List.getD_cons_zero, List.getD_cons_succ, List.length_map, phi_1000, rowAt_map hx, phi_many, wrap_succ hlt hl]
   refine ⟨fun _ => ⟨by omega, hs x hxm, fun hb => ?_, fun hb => ⟨⟨v, i + 1, rfl, hlt, hl, hs, ?_⟩, by omega⟩⟩, fun h => by omega⟩
   ·rw [hd, manyL, if_pos hb]
   ·rw [hd, manyL, hb, if_neg (by simp)]
  ·simp only [head_many_0, Tree.holds, Out.den, E.den, E.denL, dn, List.getD_cons_zero, List.getD_cons_succ, List.length_map, phi_1000]
   refine ⟨fun h => by omega, fun _ => ?_⟩
   rw [List.drop_eq_nil_of_le (by omega), manyL]
theorem many_ok : ∀ (n : Nat), @Ok (I n) q_many (okD n)
 | 0 => ok_zero
 | n + 1 => ok_irrel (by decide) (many_step n (many_ok n))
-- head 0 of loop 0: [t1 .sh (.cell (.sc (.i .i64))), t2 .sh (.cell (.sc (.i .i64))), t3 .sh (.cell (.sc (.i .i64))), t4 .rf 33, t9 .sh (.cell (.sc (.i .i64)))]
-- head 1 of loop 1: [t1 .sh (.cell (.sc (.i .i64))), t2 .sh (.cell (.sc (.i .i64))), t3 .sh (.cell (.sc (.i .i64))), t4 .rf 33, t10 .sh (.cell (.sc (.i .i64)))]
def heads_parts : List Hd := [⟨0, [.any, .sh (.cell (.sc (.i .i64))), .sh (.cell (.sc (.i .i64))), .sh (.cell (.sc (.i .i64))), .rf 33, .any, .any, .any, .any, .sh (.cell (.sc (.i .i64))), .any, .any, .any, .any, .any, .any, .any, .any, .any, .any, .any, .any, .any, .any, .any, .any, .any, .any, .any, .any, .any, .any, .any, .any, .any, .any, .any, .any, .any, .any, .any, .any, .any, .any, .any, .any, .any, .any, .any, .any, .any, .any, .any, .any, .any, .any, .any, .any, .any, .any, .any, .any, .any, .any, .any, .any, .any, .any, .any, .any, .any, .any, .any]⟩, ⟨1, [.any, .sh (.cell (.sc (.i .i64))), .sh (.cell (.sc (.i .i64))), .sh (.cell (.sc (.i .i64))), .rf 33, .any, .any, .any, .any, .any, .sh (.cell (.sc (.i .i64))), .any, .any, .any, .any, .any, .any, .any, .any, .any, .any, .any, .any, .any, .any, .any, .any, .any, .any, .any, .any, .any, .any, .any, .any, .any, .any, .any, .any, .any, .any, .any, .any, .any, .any, .any, .any, .any, .any, .any, .any, .any, .any, .any, .any, .any, .any, .any, .any, .any, .any, .any, .any, .any, .any, .any, .any, .any, .any, .any, .any, .any, .any]⟩]
def entry_parts : Tree :=
 (.ite (.gt .v3 (.i 300))
 (.rt (.pr (.iop .add .i64) [.v2, (.i 1)]))
 (.g 0 [(.pr (.iop .add .i64) [(.pr (.iop .add .i64) [(.pr (.iop .add .i64) [(.pr (.iop .add .i64) [.v1, (.i 1)]), (.pr .slen [(.c 6 .v0)])]), (.pr .slen [(.c 3 .v0)])]), (.n (.c 7 .v0))]), .v2, .v3, (.r9 .v0), (.i 0)]))
def head_parts_0 : Tree :=
 (.ite (.lt .v4 (.n (.c 7 .v3)))
 (.ite (.le .v0 .v1)
 (.giv (.le (.i 0) .v4)
 (.g 0 [(.pr (.iop .add .i64) [.v0, (.pr .slen [(.c 0 (.a (.c 7 .v3) .v4))])]), .v1, .v2, .v3, (.pr (.iop .add .i64) [.v4, (.i 1)])]))
 (.g 1 [.v0, .v1, .v2, .v3, (.i 0)]))
 (.g 1 [.v0, .v1, .v2, .v3, (.i 0)]))
def head_parts_1 : Tree :=
 (.ite (.lt .v4 (.n (.c 8 .v3)))
 (.ite (.le .v0 .v1)
 (.giv (.le (.i 0) .v4)
 (.giv (.app 1000 [(.r9 (.a (.c 8 .v3) .v4)), .v0, .v1, (.pr (.iop .add .i64) [.v2, (.i 1)])])
 (.g 1 [(.app 11 [(.r9 (.a (.c 8 .v3) .v4)), .v0, .v1, (.pr (.iop .add .i64) [.v2, (.i 1)])]), .v1, .v2, .v3, (.pr (.iop .add .i64) [.v4, (.i 1)])])))
 (.rt .v0))
 (.rt .v0))
def trees_parts : List Tree := [head_parts_0, head_parts_1]
noncomputable def deps_parts : List Sig := [q_parts]
theorem ok_parts : check q_parts deps_parts heads_parts entry_parts trees_parts = true := by kernel_rfl
theorem okD_val3 {n : Nat} {v : Val} {a b c : Int} : okD n [v.toD, iD a, iD b, iD c] ↔ v.toD.sz + 3 < n /\ v.toD.Lim := by
 unfold okD
 simp only [D.szL, D.LimL, sz_int, lim_int, and_true, true_and]
theorem parts_step (n : Nat) (ih : @Ok (I n) q_parts (okD n)) : @Ok (I n) q_parts (okD (n + 1)) := by
 letI := I n
 refine fn_ok (hphi n) ok_parts (by intro q hq; simp only [deps_parts, List.mem_singleton] at hq; subst hq; exact ih)
  (fun j d ds => ∃ (m most w : Int) (v : Val) (i : Nat), ds = [iD m, iD most, iD w, v.toD, iD i] /\ v.names.length <= lim /\ v.list.length <= lim /\ (∀ x, x ∈ v.list -> ∀ a b c, okD n [x.toD, iD a, iD b, iD c]) /\
   (j = 0 -> i <= v.names.length /\ d = iD (partsL most w (partsN most m (v.names.drop i)) v.list)) /\ (j ≠ 0 -> i <= v.list.length /\ d = iD (partsL most w m (v.list.drop i))))
  (fun j ds => if j = 0 then (cellAt (ds.getD 3 .nil) 7).rows.length - (ds.getD 4 .nil).int.toNat + (cellAt (ds.getD 3 .nil) 8).rows.length + 1 else (cellAt (ds.getD 3 .nil) 8).rows.length - (ds.getD 4 .nil).int.toNat) ?_ ?_
 ·intro ds hf hp
  obtain ⟨v, a, b, c, rfl⟩ := val_int3 hf
  rw [okD_val3, sz_toD, lim_toD] at hp
  obtain ⟨p1, _, _, p2, p3⟩ := hp
  have p2 := (lim_strs.1 p2).1
  obtain ⟨p3, p4⟩ := lim_vals.1 p3
  have hs : ∀ x, x ∈ v.list -> ∀ a b c, okD n [x.toD, iD a, iD b, iD c] := fun x hx a b c => okD_val3.2 ⟨by have := sz_vals_mem hx; omega, p4 x hx⟩
  simp only [entry_parts, q_parts, Tree.holds, Out.den, E.den, E.denL, dn, List.getD_cons_zero, List.getD_cons_succ, List.length_map, phi_1000, phi_parts]
  refine ⟨fun h => ?_, fun h => ⟨_, b, c, v, 0, rfl, p2, p3, hs, fun _ => ⟨Nat.zero_le _, ?_⟩, fun h => absurd rfl h⟩⟩
  ·cases v with
   | mk k f ng d e b' t ns l => rw [partsV, if_pos h]
  ·cases v with
   | mk k f ng d e b' t ns l => rw [partsV, if_neg (by omega)]; rfl
 ·rintro j h t d ds hj ht hf ⟨m, most, w, v, i, rfl, p2, p3, hs, h0, h1⟩
  match j, ht with
  | 0, ht =>
   obtain rfl : t = head_parts_0 := (Option.some.inj ht).symm
   obtain ⟨hi, rfl⟩ := h0 rfl
   by_cases hlt : i < v.names.length
   ·obtain ⟨x, hx, hxm, hd⟩ := drop_get hlt
    simp only [head_parts_0, Tree.holds, Out.den, E.den, E.denL, dn, List.getD_cons_zero, List.getD_cons_succ, List.length_map, phi_1000, rowAt_map hx, wrap_succ hlt p2]
    refine ⟨fun _ => ⟨fun hm => ⟨by omega, ⟨_, most, w, v, i + 1, rfl, p2, p3, hs, fun _ => ⟨hlt, ?_⟩, fun h => absurd rfl h⟩, ?_⟩, fun hm => ⟨⟨_, most, w, v, 0, rfl, p2, p3, hs, fun h => absurd h (by decide), fun _ => ⟨Nat.zero_le _, ?_⟩⟩, ?_⟩⟩, fun h => by omega⟩
    ·rw [hd, partsN, if_pos hm]
    ·simp only [if_true]; omega
    ·rw [hd, partsN, if_neg hm]; rfl
    ·simp only [if_true]; simp only [Nat.one_ne_zero, if_false]; omega
   ·simp only [head_parts_0, Tree.holds, Out.den, E.den, E.denL, dn, List.getD_cons_zero, List.getD_cons_succ, List.length_map, phi_1000]
    refine ⟨fun h => by omega, fun _ => ⟨⟨_, most, w, v, 0, rfl, p2, p3, hs, fun h => absurd h (by decide), fun _ => ⟨Nat.zero_le _, ?_⟩⟩, ?_⟩⟩
    ·rw [List.drop_eq_nil_of_le (by omega), partsN]; rfl
    ·simp only [if_true]; simp only [Nat.one_ne_zero, if_false]; omega
  | 1, ht =>
   obtain rfl : t = head_parts_1 := (Option.some.inj ht).symm
   obtain ⟨hi, rfl⟩ := h1 (by decide)
   by_cases hlt : i < v.list.length
   ·obtain ⟨x, hx, hxm, hd⟩ := drop_get hlt
    simp only [head_parts_1, Tree.holds, Out.den, E.den, E.denL, dn, List.getD_cons_zero, List.getD_cons_succ, List.length_map, phi_1000, rowAt_map hx, wrap_succ hlt p3, phi_parts]
    refine ⟨fun _ => ⟨fun hm => ⟨by omega, hs x hxm _ _ _, ⟨_, most, w, v, i + 1, rfl, p2, p3, hs, fun h => absurd h (by decide), fun _ => ⟨hlt, ?_⟩⟩, ?_⟩, fun hm => ?_⟩, fun h => by omega⟩
    ·rw [hd, partsL, if_pos hm]
    ·simp only [Nat.one_ne_zero, if_false]; omega
    ·rw [hd, partsL, if_neg hm]
   ·simp only [head_parts_1, Tree.holds, Out.den, E.den, E.denL, dn, List.getD_cons_zero, List.getD_cons_succ, List.length_map, phi_1000]
    refine ⟨fun h => by omega, fun _ => ?_⟩
    rw [List.drop_eq_nil_of_le (by omega), partsL]
theorem parts_ok : ∀ (n : Nat), @Ok (I n) q_parts (okD n)
 | 0 => ok_zero
 | n + 1 => ok_irrel (by decide) (parts_step n (parts_ok n))
end Go.Proofs.YtaeeblcdggjokaaGreatDoor.Vk
/- Contracts of package types: places, formed, span, Check. -/
namespace Go.Proofs.YtaeeblcdggjokaaGreatDoor.Vk
open Go Go.Ab Go.RowKit
theorem shT : (kn [] tb).shape 26 = typCT 26 9 := rfl
theorem one_typ {d : List D} (h : FitL tb [.row 26] d) : ∃ v : Typ, d = [v.toD] := by
 match d, h with
 | [d], ⟨⟨cs, e, hf⟩, _⟩ =>
  subst e
  obtain ⟨v, hv⟩ := fits_typ shT shS (.row cs) (by unfold fitsW; exact hf)
  exact ⟨v, by rw [hv]⟩
theorem typs_fn {f : Nat} {d : List D} (h : FitL tb [.cell (.sl 26), .fn f []] d) : ∃ l : List Typ, d = [typsD l, .row []] := by
 match d, h with
 | [a, b], ⟨h1, h2, _⟩ =>
  obtain ⟨l, rfl⟩ := fits_typs shT shS h1
  rw [fit_fn h2]
  exact ⟨l, rfl⟩
-- head 0 of loop 0: [t3 .mp .s (.i .i64), t7 .sh (.cell (.sl 9)), t8 .sh (.cell (.sc (.i .i64))), t9 .sh (.cell (.sc (.i .i64)))]
def heads_tplaces : List HdM := [⟨0, [.any, .any, .any, .mp .s (.i .i64), .any, .any, .any, .sh (.cell (.sl 9)), .sh (.cell (.sc (.i .i64))), .sh (.cell (.sc (.i .i64))), .any, .any, .any, .any, .any, .any, .any, .any, .any], []⟩]
def entry_tplaces : Tree :=
 (.g 0 [(.pr .lst []), .v0, (.n .v0), (.i 0)])
def head_tplaces_0 : Tree :=
 (.ite (.lt .v3 .v2)
 (.giv (.le (.i 0) .v3)
 (.giv (.lt .v3 (.n .v1))
 (.g 0 [(.pr .mset [.v0, (.c 0 (.a .v1 .v3)), .v3]), .v1, .v2, (.pr (.iop .add .i64) [.v3, (.i 1)])])))
 (.rt (.pr .row [.v0])))
def trees_tplaces : List Tree := [head_tplaces_0]
noncomputable def deps_tplaces : List Sig := []
noncomputable def depsM_tplaces : List SigM := []
theorem ok_tplaces : checkM q_tplaces deps_tplaces depsM_tplaces heads_tplaces entry_tplaces trees_tplaces = true := by kernel_rfl
theorem tplaces_ok (n : Nat) : @OkM (I n) q_tplaces (okD n) := by
 letI := I n
 refine fn_okM (hphi n) ok_tplaces (by intro q hq; simp [deps_tplaces] at hq) (by intro q hq; simp [depsM_tplaces] at hq)
  (fun _ d ds => ∃ (m : List D) (l : List ByteArray) (i : Nat), ds = [.lst m, strsD l, iD l.length, iD i] /\ i <= l.length /\ l.length <= lim /\ d = .row [.lst (placesL (l.drop i) i m)])
  (fun _ ds => (ds.getD 1 .nil).rows.length - (ds.getD 3 .nil).int.toNat) ?_ ?_
 ·intro ds hf hp
  obtain ⟨l, rfl⟩ : ∃ l : List ByteArray, ds = [strsD l] := by
   match ds, hf with
   | [a], ⟨h1, _⟩ =>
    obtain ⟨l, rfl⟩ := fits_strs shS h1
    exact ⟨l, rfl⟩
  have hl := (lim_strs.1 (okD_one.1 hp).2).1
  simp only [entry_tplaces, q_tplaces, Tree.holds, Out.den, E.den, E.denL, dn, List.getD_cons_zero, List.getD_cons_succ, List.length_map, phi_1000, phi_tplaces]
  exact ⟨[], l, 0, rfl, Nat.zero_le _, hl, rfl⟩
 ·rintro j h t d ds hj ht hf ⟨m, l, i, rfl, hi, hl, rfl⟩
  obtain rfl : t = head_tplaces_0 := by
   match j, ht with
   | 0, ht => exact (Option.some.inj ht).symm
  by_cases hlt : i < l.length
  ·obtain ⟨x, hx, hxm, hd⟩ := drop_get hlt
   simp only [head_tplaces_0, Tree.holds, Out.den, E.den, E.denL, dn, List.getD_cons_zero, List.getD_cons_succ, List.length_map, phi_1000, rowAt_map hx, wrap_succ hlt hl]
   refine ⟨fun _ => ⟨by omega, by omega, ⟨mput (sD x) (iD i) m, l, i + 1, rfl, hlt, hl, ?_⟩, by omega⟩, fun h => by omega⟩
   rw [hd, placesL]
  ·simp only [head_tplaces_0, Tree.holds, Out.den, E.den, E.denL, dn, List.getD_cons_zero, List.getD_cons_succ, List.length_map, phi_1000]
   refine ⟨fun h => by omega, fun _ => ?_⟩
   rw [List.drop_eq_nil_of_le (by omega), placesL]
theorem tplaces_goes (n : Nat) : @Goes (I n) q_tplaces := fun h => by cases h
theorem mput_new {s : ByteArray} {v : D} : ∀ {m : List D}, (∀ r, r ∈ m -> ∃ t v, r = .row [sD t, v]) -> mfind (sD s) m = none -> (mput (sD s) v m).length = m.length + 1 /\ mput (sD s) v m = m ++ [.row [sD s, v]]
 | [], _, _ => ⟨rfl, rfl⟩
 | d :: r, h, hn => by
  obtain ⟨t, u, rfl⟩ := h d (List.mem_cons_self ..)
  have hk : dkeyIs (sD s) (sD t) = false := by
   cases hb : dkeyIs (sD s) (sD t) with
   | false => rfl
   | true => unfold mfind at hn; rw [hb] at hn; cases hn
  unfold mfind at hn
  rw [hk] at hn
  obtain ⟨k1, k2⟩ := mput_new (v := v) (fun r hr => h r (List.mem_cons_of_mem _ hr)) hn
  unfold mput
  rw [hk]
  exact ⟨by show (D.row _ :: mput _ _ _).length = _; rw [List.length_cons, k1, List.length_cons], by show D.row _ :: mput _ _ _ = _; rw [k2]; rfl⟩
theorem mput_old {s : ByteArray} {v u : D} : ∀ {m : List D}, mfind (sD s) m = some u -> (mput (sD s) v m).length = m.length
 | [], h => by cases h
 | d :: r, h => by
  cases d with
  | row cs =>
   match cs with
   | [x, y] =>
    unfold mfind at h
    unfold mput
    cases hb : dkeyIs (sD s) x with
    | true => rfl
    | false =>
     rw [hb] at h
     show (D.row _ :: mput _ _ _).length = _
     rw [List.length_cons, mput_old h, List.length_cons]
   | [] => unfold mfind at h; unfold mput; rw [List.length_cons, mput_old h, List.length_cons]
   | [_] => unfold mfind at h; unfold mput; rw [List.length_cons, mput_old h, List.length_cons]
   | _ :: _ :: _ :: _ => unfold mfind at h; unfold mput; rw [List.length_cons, mput_old h, List.length_cons]
  | v _ => unfold mfind at h; unfold mput; rw [List.length_cons, mput_old h, List.length_cons]
  | nil => unfold mfind at h; unfold mput; rw [List.length_cons, mput_old h, List.length_cons]
  | lst _ => unfold mfind at h; unfold mput; rw [List.length_cons, mput_old h, List.length_cons]
def placeRow (p : ByteArray × Nat) : D := .row [sD p.1, iD p.2]
theorem find_rows (s : ByteArray) : ∀ (R : List (ByteArray × Nat)), mfind (sD s) (R.map placeRow) = (R.find? fun p => decide (s = p.1)).map fun p => iD p.2
 | [] => rfl
 | p :: r => by
  rw [List.map_cons, List.find?_cons]
  show (bif decide (s = p.1) then some (iD p.2) else mfind (sD s) (r.map placeRow)) = _
  by_cases e : s = p.1
  ·rw [decide_eq_true e]; rfl
  ·rw [decide_eq_false e]; exact find_rows s r
theorem places_nodup : ∀ (l : List ByteArray) (i : Nat) (R : List (ByteArray × Nat)), l.Nodup -> (∀ s, s ∈ l -> s ∉ R.map (·.1)) -> placesL l i (R.map placeRow) = (R ++ l.zipIdx i).map placeRow
 | [], i, R, _, _ => by rw [placesL]; simp
 | s :: r, i, R, hn, hd => by
  rw [List.nodup_cons] at hn
  have hnone : mfind (sD s) (R.map placeRow) = none := by
   rw [find_rows]
   have : (R.find? fun p => decide (s = p.1)) = none := by
    rw [List.find?_eq_none]
    intro p hp
    have := hd s (List.mem_cons_self ..)
    simp only [decide_eq_true_eq]
    rintro rfl
    exact this (List.mem_map_of_mem hp)
   rw [this]; rfl
  have hrows : ∀ d, d ∈ R.map placeRow -> ∃ t v, d = .row [sD t, v] := fun d hd => by
   obtain ⟨p, _, rfl⟩ := List.mem_map.1 hd
   exact ⟨p.1, _, rfl⟩
  rw [placesL, (mput_new hrows hnone).2]
  have e : R.map placeRow ++ [D.row [sD s, iD i]] = (R ++ [(s, i)]).map placeRow := by rw [List.map_append]; rfl
  rw [e, places_nodup r (i + 1) (R ++ [(s, i)]) hn.2 fun t ht => ?_]
  ·rw [List.zipIdx_cons, List.append_assoc]; rfl
  ·rw [List.map_append, List.mem_append, not_or]
   refine ⟨hd t (List.mem_cons_of_mem _ ht), fun h => ?_⟩
   rw [List.map_cons, List.map_nil, List.mem_singleton] at h
   subst h
   exact hn.1 ht
theorem places_len : ∀ (l : List ByteArray) (i : Nat) (R : List D), (∀ d, d ∈ R -> ∃ t v, d = .row [sD t, v]) -> (placesL l i R).length <= R.length + l.length /\ ((placesL l i R).length = R.length + l.length -> l.Nodup /\ ∀ s, s ∈ l -> mfind (sD s) R = none)
 | [], i, R, _ => by rw [placesL]; exact ⟨Nat.le_refl _, fun _ => ⟨List.nodup_nil, fun s hs => by cases hs⟩⟩
 | s :: r, i, R, hR => by
  rw [placesL, List.length_cons]
  have hrow : ∀ d, d ∈ mput (sD s) (iD i) R -> ∃ t v, d = .row [sD t, v] := by
   have key : ∀ (R : List D), (∀ d, d ∈ R -> ∃ t v, d = .row [sD t, v]) -> ∀ d, d ∈ mput (sD s) (iD i) R -> ∃ t v, d = .row [sD t, v] := by
    intro R
    induction R with
    | nil => intro _ d hd; rcases List.mem_singleton.1 hd with rfl; exact ⟨s, _, rfl⟩
    | cons x R ih =>
     intro h d hd
     obtain ⟨t, u, rfl⟩ := h x (List.mem_cons_self ..)
     unfold mput at hd
     cases hb : dkeyIs (sD s) (sD t) with
     | true =>
      rw [hb] at hd
      rcases List.mem_cons.1 hd with rfl | hd
      ·exact ⟨s, _, rfl⟩
      ·exact h d (List.mem_cons_of_mem _ hd)
     | false =>
      rw [hb] at hd
      rcases List.mem_cons.1 hd with rfl | hd
      ·exact ⟨t, u, rfl⟩
      ·exact ih (fun d hd => h d (List.mem_cons_of_mem _ hd)) d hd
   exact key R hR
  obtain ⟨h1, h2⟩ := places_len r (i + 1) (mput (sD s) (iD i) R) hrow
  cases hf : mfind (sD s) R with
  | some u =>
   rw [mput_old hf] at h1 h2
   exact ⟨by omega, fun h => by omega⟩
  | none =>
   obtain ⟨e1, e2⟩ := mput_new (v := iD i) hR hf
   rw [e1] at h1 h2
   refine ⟨by omega, fun h => ?_⟩
   obtain ⟨k1, k2⟩ := h2 (by omega)
   have split : ∀ t, mfind (sD t) (R ++ [.row [sD s, iD i]]) = none -> mfind (sD t) R = none /\ t ≠ s := by
    intro t
    clear e1 e2 hf h1 h2 k1 k2 h hrow
    induction R with
    | nil =>
     intro h
     refine ⟨rfl, ?_⟩
     rintro rfl
     have h : mfind (sD t) [.row [sD t, iD i]] = none := h
     unfold mfind at h
     rw [show dkeyIs (sD t) (sD t) = true from decide_eq_true rfl] at h
     cases h
    | cons x R ih =>
     intro h
     obtain ⟨a, u, rfl⟩ := hR x (List.mem_cons_self ..)
     rw [List.cons_append] at h
     unfold mfind at h ⊢
     cases hb : dkeyIs (sD t) (sD a) with
     | true => rw [hb] at h; cases h
     | false =>
      rw [hb] at h
      exact ih (fun d hd => hR d (List.mem_cons_of_mem _ hd)) h
   rw [List.nodup_cons]
   refine ⟨⟨fun hm => ?_, k1⟩, fun t ht => ?_⟩
   ·have := k2 s hm
    rw [e2] at this
    exact (split s this).2 rfl
   ·rcases List.mem_cons.1 ht with rfl | ht
    ·exact hf
    ·have := k2 t ht
     rw [e2] at this
     exact (split t this).1
theorem places_iff (l : List ByteArray) : (placesL l 0 []).length = l.length ↔ l.Nodup := by
 constructor
 ·intro h
  exact ((places_len l 0 [] (fun d hd => by cases hd)).2 (by simpa using h)).1
 ·intro h
  have := places_nodup l 0 [] h (fun s _ => by simp)
  rw [show ([] : List (ByteArray × Nat)).map placeRow = [] from rfl] at this
  rw [this]; simp
-- head 0 of loop 0: [t0 .sh (.cell (.sl 9)), t1 .sh (.fn 55 []), t7 .sh (.cell (.sc (.i .i64))), t8 .sh (.cell (.sc (.i .i64)))]
def heads_tixval : List Hd := [⟨0, [.sh (.cell (.sl 9)), .sh (.fn 55 []), .any, .any, .any, .any, .any, .sh (.cell (.sc (.i .i64))), .sh (.cell (.sc (.i .i64))), .any, .any, .any, .any, .any, .any, .any, .any, .any, .any]⟩]
def entry_tixval : Tree :=
 (.g 0 [.v0, (.pr .row []), (.n .v0), (.i 0)])
def head_tixval_0 : Tree :=
 (.ite (.lt .v3 .v2)
 (.giv (.le (.i 0) .v3)
 (.giv (.lt .v3 (.n .v0))
 (.giv (.app 1000 [(.c 0 (.a .v0 .v3))])
 (.ite (.app 7 [(.c 0 (.a .v0 .v3))])
 (.g 0 [.v0, (.pr .row []), .v2, (.pr (.iop .add .i64) [.v3, (.i 1)])])
 (.rt .v3)))))
 (.rt (.i (-1))))
def trees_tixval : List Tree := [head_tixval_0]
noncomputable def deps_tixval : List Sig := [q_valid]
theorem ok_tixval : check q_tixval deps_tixval heads_tixval entry_tixval trees_tixval = true := by kernel_rfl
theorem tixval_ok (n : Nat) : @Ok (I n) q_tixval (okD n) := by
 letI := I n
 refine fn_ok (hphi n) ok_tixval (by intro q hq; simp only [deps_tixval, List.mem_singleton] at hq; subst hq; exact valid_ok n)
  (fun _ d ds => ∃ (l : List ByteArray) (i : Nat), ds = [strsD l, .row [], iD l.length, iD i] /\ i <= l.length /\ l.length <= lim /\ (∀ s, s ∈ l -> okD n [sD s]) /\ d = iD (ixL (fun s => !validV s) (l.drop i) i))
  (fun _ ds => (ds.getD 0 .nil).rows.length - (ds.getD 3 .nil).int.toNat) ?_ ?_
 ·intro ds hf hp
  obtain ⟨l, rfl⟩ := strs_fn hf
  obtain ⟨h1, h2, _⟩ := okD_two.1 hp
  obtain ⟨h3, h4⟩ := okD_strs (okD_one.2 ⟨by omega, h2⟩ : okD n [strsD l])
  refine ⟨l, 0, by simp only [Tree.holds, Out.den, E.den, E.denL, dn, List.getD_cons_zero, List.getD_cons_succ, List.length_map, phi_1000, Int.ofNat_zero], Nat.zero_le _, h3, h4, ?_⟩
  simp only [q_tixval, phi_tixval, List.drop_zero]
 ·rintro j h t d ds hj ht hf ⟨l, i, rfl, hi, hl, hs, rfl⟩
  obtain rfl : t = head_tixval_0 := by
   match j, ht with
   | 0, ht => exact (Option.some.inj ht).symm
  by_cases hlt : i < l.length
  ·obtain ⟨x, hx, hxm, hd⟩ := drop_get hlt
   simp only [head_tixval_0, Tree.holds, Out.den, E.den, E.denL, dn, List.getD_cons_zero, List.getD_cons_succ, List.length_map, phi_1000, rowAt_map hx, phi_valid, wrap_succ hlt hl]
   refine ⟨fun _ => ⟨by omega, by omega, hs x hxm, fun hb => ⟨⟨l, i + 1, rfl, hlt, hl, hs, ?_⟩, by omega⟩, fun hb => ?_⟩, fun h => by omega⟩
   ·rw [hd, ixL, hb]; rfl
   ·rw [hd, ixL, hb]; rfl
  ·simp only [head_tixval_0, Tree.holds, Out.den, E.den, E.denL, dn, List.getD_cons_zero, List.getD_cons_succ, List.length_map, phi_1000]
   refine ⟨fun h => by omega, fun _ => ?_⟩
   rw [List.drop_eq_nil_of_le (by omega), ixL]
-- head 0 of loop 0: [t0 .sh (.cell (.sl 26)), t1 .sh (.fn 58 []), t7 .sh (.cell (.sc (.i .i64))), t8 .sh (.cell (.sc (.i .i64)))]
def heads_tixform : List Hd := [⟨0, [.sh (.cell (.sl 26)), .sh (.fn 58 []), .any, .any, .any, .any, .any, .sh (.cell (.sc (.i .i64))), .sh (.cell (.sc (.i .i64))), .any, .any, .any, .any, .any, .any, .any, .any, .any, .any]⟩]
def entry_tixform : Tree :=
 (.g 0 [.v0, (.pr .row []), (.n .v0), (.i 0)])
def head_tixform_0 : Tree :=
 (.ite (.lt .v3 .v2)
 (.giv (.le (.i 0) .v3)
 (.giv (.lt .v3 (.n .v0))
 (.giv (.app 1000 [(.r3 (.a .v0 .v3))])
 (.ite (.app 58 [(.r3 (.a .v0 .v3))])
 (.g 0 [.v0, (.pr .row []), .v2, (.pr (.iop .add .i64) [.v3, (.i 1)])])
 (.rt .v3)))))
 (.rt (.i (-1))))
def trees_tixform : List Tree := [head_tixform_0]
noncomputable def deps_tixform : List Sig := [q_tformed]
theorem ok_tixform : check q_tixform deps_tixform heads_tixform entry_tixform trees_tixform = true := by kernel_rfl
theorem tixform_ok (n : Nat) (ih : @Ok (I n) q_tformed (okD n)) : @Ok (I n) q_tixform (okD n) := by
 letI := I n
 refine fn_ok (hphi n) ok_tixform (by intro q hq; simp only [deps_tixform, List.mem_singleton] at hq; subst hq; exact ih)
  (fun _ d ds => ∃ (l : List Typ) (i : Nat), ds = [typsD l, .row [], iD l.length, iD i] /\ i <= l.length /\ l.length <= lim /\ (∀ x, x ∈ l -> okD n [x.toD]) /\ d = iD (formedTL (l.drop i) i))
  (fun _ ds => (ds.getD 0 .nil).rows.length - (ds.getD 3 .nil).int.toNat) ?_ ?_
 ·intro ds hf hp
  obtain ⟨l, rfl⟩ := typs_fn hf
  obtain ⟨h2, h3⟩ := okD_typs hp
  refine ⟨l, 0, by simp only [Tree.holds, Out.den, E.den, E.denL, dn, List.getD_cons_zero, List.getD_cons_succ, List.length_map, phi_1000, Int.ofNat_zero], Nat.zero_le _, h2, h3, ?_⟩
  simp only [q_tixform, phi_tixform, List.drop_zero]
 ·rintro j h t d ds hj ht hf ⟨l, i, rfl, hi, hl, hs, rfl⟩
  obtain rfl : t = head_tixform_0 := by
   match j, ht with
   | 0, ht => exact (Option.some.inj ht).symm
  by_cases hlt : i < l.length
  ·obtain ⟨x, hx, hxm, hd⟩ := drop_get hlt
   simp only [head_tixform_0, Tree.holds, Out.den, E.den, E.denL, dn, List.getD_cons_zero, List.getD_cons_succ, List.length_map, phi_1000, rowAt_map hx, tat_0, tat_1, tat_2, toDT_put, phi_tformed, wrap_succ hlt hl]
   refine ⟨fun _ => ⟨by omega, by omega, hs x hxm, fun hb => ⟨⟨l, i + 1, rfl, hlt, hl, hs, ?_⟩, by omega⟩, fun hb => ?_⟩, fun h => by omega⟩
   ·rw [hd, formedTL, if_pos hb]
   ·rw [hd, formedTL, hb]; rfl
  ·simp only [head_tixform_0, Tree.holds, Out.den, E.den, E.denL, dn, List.getD_cons_zero, List.getD_cons_succ, List.length_map, phi_1000]
   refine ⟨fun h => by omega, fun _ => ?_⟩
   rw [List.drop_eq_nil_of_le (by omega), formedTL]
def heads_tformed : List Hd := []
def entry_tformed : Tree :=
 (.ite (.eq (.c 0 .v0) (.i 9))
 (.ite (.gt (.n (.c 1 .v0)) (.i 0)) .no
 (.ite (.ne (.n (.c 2 .v0)) (.i 1)) .no
 (.giv (.app 1000 [(.c 2 .v0), (.pr .row [])])
 (.rt (.pr .not [(.ge (.app 60 [(.c 2 .v0), (.pr .row [])]) (.i 0))])))))
 (.ite (.eq (.c 0 .v0) (.i 10))
 (.ite (.ne (.n (.c 1 .v0)) (.n (.c 2 .v0))) .no
 (.giv (.app 1000 [(.c 1 .v0)])
 (.ite (.ne (.n (.c 0 (.app 57 [(.c 1 .v0)]))) (.n (.c 1 .v0))) .no
 (.giv (.app 1000 [(.c 1 .v0), (.pr .row [])])
 (.ite (.ge (.app 59 [(.c 1 .v0), (.pr .row [])]) (.i 0)) .no
 (.giv (.app 1000 [(.c 2 .v0), (.pr .row [])])
 (.rt (.pr .not [(.ge (.app 60 [(.c 2 .v0), (.pr .row [])]) (.i 0))]))))))))
 (.ite (.eq (.c 0 .v0) (.i 11))
 (.ite (.ne (.n (.c 1 .v0)) (.n (.c 2 .v0))) .no
 (.giv (.app 1000 [(.c 1 .v0)])
 (.ite (.ne (.n (.c 0 (.app 57 [(.c 1 .v0)]))) (.n (.c 1 .v0))) .no
 (.giv (.app 1000 [(.c 1 .v0), (.pr .row [])])
 (.ite (.ge (.app 59 [(.c 1 .v0), (.pr .row [])]) (.i 0)) .no
 (.giv (.app 1000 [(.c 2 .v0), (.pr .row [])])
 (.rt (.pr .not [(.ge (.app 60 [(.c 2 .v0), (.pr .row [])]) (.i 0))]))))))))
 (.ite (.ge (.c 0 .v0) (.i 1))
 (.ite (.le (.c 0 .v0) (.i 8))
 (.rt (.eq (.pr (.iop .add .i64) [(.n (.c 1 .v0)), (.n (.c 2 .v0))]) (.i 0))) .no) .no))))
def trees_tformed : List Tree := []
noncomputable def deps_tformed : List Sig := [q_tixval, q_tixform]
noncomputable def depsM_tformed : List SigM := [q_tplaces]
theorem ok_tformed : checkN q_tformed deps_tformed depsM_tformed heads_tformed entry_tformed trees_tformed = true := by kernel_rfl
theorem formedT_iff (k : Int) (ns : List ByteArray) (l : List Typ) :
  (k = 9 -> (formedT (.mk k ns l) = true ↔ ns.length = 0 /\ l.length = 1 /\ formedTL l 0 < 0)) /\
  (k = 10 \/ k = 11 -> (formedT (.mk k ns l) = true ↔ ns.length = l.length /\ ns.Nodup /\ ixL (fun s => !validV s) ns 0 < 0 /\ formedTL l 0 < 0)) /\
  (k ≠ 9 -> k ≠ 10 -> k ≠ 11 -> (formedT (.mk k ns l) = true ↔ 1 <= k /\ k <= 8 /\ ns.length = 0 /\ l.length = 0)) := by
 refine ⟨fun h => ?_, fun h => ?_, fun h1 h2 h3 => ?_⟩
 ·subst h; simp [formedT, ltI_t, and_assoc]
 ·rw [formedT, if_neg (by omega), if_pos h]; simp [ltI_t, and_assoc]
 ·rw [formedT, if_neg h1, if_neg (by omega)]; simp [and_assoc]
theorem bD_of {b : Bool} {x : Bool} (h : x = true ↔ b = true) : bD x = bD b := by rw [Bool.eq_iff_iff.2 h]
theorem tformed_step (n : Nat) (ih : @Ok (I n) q_tformed (okD n)) : @Ok (I n) q_tformed (okD (n + 1)) := by
 letI := I n
 refine fn_okN (hphi n) ok_tformed (by
  intro q hq
  simp only [deps_tformed, List.mem_cons, List.not_mem_nil, or_false] at hq
  rcases hq with rfl | rfl
  ·exact okS_of (tixval_ok n)
  ·exact okS_of (tixform_ok n ih)) (by
  intro q hq
  simp only [depsM_tformed, List.mem_singleton] at hq
  subst hq
  exact ⟨okSM_of (tplaces_ok n), tplaces_goes n⟩) (fun _ _ _ => False) (fun _ _ => 0) ?_ (fun j h t d ds hj => by simp [heads_tformed] at hj)
 intro ds hf hp
 obtain ⟨v, rfl⟩ := one_typ hf
 obtain ⟨p1, p2, p3, p4, p5, p6⟩ := okD_listT hp
 have hl : ∀ m : List D, (D.lst m).rows = m := fun _ => rfl
 simp only [entry_tformed, q_tformed, Tree.holds, Out.den, E.den, E.denL, dn, List.getD_cons_zero, List.getD_cons_succ, List.length_map, phi_1000, tat_0, tat_1, tat_2, toDT_put, phi_tplaces, phi_tixval, phi_tixform, phi_tformed, p4, p5, p6, row_at0, hl]
 cases v with
 | mk k ns l =>
  simp only [Typ.kind, Typ.names, Typ.list] at p1 p2 ⊢
  obtain ⟨f1, f2, f3⟩ := formedT_iff k ns l
  have hw : IntKind.i64.wrap ((ns.length : Int) + l.length) = (ns.length : Int) + l.length := by
   have : (lim : Nat) = 140737488355328 := rfl
   exact wrap_id (by omega) (by omega)
  have hpl := places_iff ns
  rw [hw]
  have key : ∀ {x : Bool} {p : Prop}, (formedT (.mk k ns l) = true ↔ p) -> (x = true ↔ p) -> bD x = bD (formedT (.mk k ns l)) := fun h1 h2 => bD_of (h2.trans h1.symm)
  have hge : ∀ i : Int, (!leI 0 i) = true ↔ i < 0 := fun i => by rw [Bool.not_eq_true', leI_f]; omega
  refine ⟨fun c => ⟨fun h => ?_, fun h => ⟨fun h' => ?_, fun h' => ?_⟩⟩, fun c => ⟨fun c' => ⟨fun h => ?_, fun h => ⟨fun h' => ?_, fun h' => ⟨fun h'' => ?_, fun h'' => ?_⟩⟩⟩, fun c' => ⟨fun c'' => ⟨fun h => ?_, fun h => ⟨fun h' => ?_, fun h' => ⟨fun h'' => ?_, fun h'' => ?_⟩⟩⟩, fun c'' => ⟨fun d1 => ⟨fun d2 => ?_, fun d2 => ?_⟩, fun d1 => ?_⟩⟩⟩⟩
  ·exact key (f1 c) ⟨fun h => (by cases h), fun h => by omega⟩
  ·exact key (f1 c) ⟨fun h => (by cases h), fun h => by omega⟩
  ·refine key (f1 c) ?_
   rw [hge]
   exact ⟨fun h => ⟨by omega, by omega, h⟩, fun h => h.2.2⟩
  ·exact key (f2 (.inl c')) ⟨fun h => (by cases h), fun h => by omega⟩
  ·refine key (f2 (.inl c')) ⟨fun h => (by cases h), fun h => ?_⟩
   exact absurd (hpl.2 h.2.1) (by omega)
  ·exact key (f2 (.inl c')) ⟨fun h => (by cases h), fun h => by omega⟩
  ·refine key (f2 (.inl c')) ?_
   rw [hge]
   exact ⟨fun h => ⟨by omega, hpl.1 (by omega), by omega, h⟩, fun h => h.2.2.2⟩
  ·exact key (f2 (.inr c'')) ⟨fun h => (by cases h), fun h => by omega⟩
  ·refine key (f2 (.inr c'')) ⟨fun h => (by cases h), fun h => ?_⟩
   exact absurd (hpl.2 h.2.1) (by omega)
  ·exact key (f2 (.inr c'')) ⟨fun h => (by cases h), fun h => by omega⟩
  ·refine key (f2 (.inr c'')) ?_
   rw [hge]
   exact ⟨fun h => ⟨by omega, hpl.1 (by omega), by omega, h⟩, fun h => h.2.2.2⟩
  ·refine key (f3 c c' c'') ?_
   rw [eqI_t]
   exact ⟨fun h => ⟨by omega, by omega, by omega, by omega⟩, fun h => by omega⟩
  ·exact key (f3 c c' c'') ⟨fun h => (by cases h), fun h => by omega⟩
  ·exact key (f3 c c' c'') ⟨fun h => (by cases h), fun h => by omega⟩
theorem tformed_ok : ∀ (n : Nat), @Ok (I n) q_tformed (okD n)
 | 0 => ok_zero
 | n + 1 => ok_irrel (by decide) (tformed_step n (tformed_ok n))
-- head 0 of loop 0: [t0 .sh (.cell (.sl 9)), t1 .sh (.fn 59 []), t7 .sh (.cell (.sc (.i .i64))), t8 .sh (.cell (.sc (.i .i64)))]
def heads_tixspan : List Hd := [⟨0, [.sh (.cell (.sl 9)), .sh (.fn 59 []), .any, .any, .any, .any, .any, .sh (.cell (.sc (.i .i64))), .sh (.cell (.sc (.i .i64))), .any, .any, .any, .any, .any, .any, .any, .any, .any, .any]⟩]
def entry_tixspan : Tree :=
 (.g 0 [.v0, (.pr .row []), (.n .v0), (.i 0)])
def head_tixspan_0 : Tree :=
 (.ite (.lt .v3 .v2)
 (.giv (.le (.i 0) .v3)
 (.giv (.lt .v3 (.n .v0))
 (.ite (.gt (.pr .slen [(.c 0 (.a .v0 .v3))]) (.i 64))
 (.rt .v3)
 (.g 0 [.v0, (.pr .row []), .v2, (.pr (.iop .add .i64) [.v3, (.i 1)])]))))
 (.rt (.i (-1))))
def trees_tixspan : List Tree := [head_tixspan_0]
noncomputable def deps_tixspan : List Sig := []
theorem ok_tixspan : check q_tixspan deps_tixspan heads_tixspan entry_tixspan trees_tixspan = true := by kernel_rfl
theorem tixspan_ok (n : Nat) : @Ok (I n) q_tixspan (okD n) := by
 letI := I n
 refine fn_ok (hphi n) ok_tixspan (by intro q hq; simp only [deps_tixspan, List.not_mem_nil] at hq)
  (fun _ d ds => ∃ (l : List ByteArray) (i : Nat), ds = [strsD l, .row [], iD l.length, iD i] /\ i <= l.length /\ l.length <= lim /\ d = iD (ixL (fun s : ByteArray => decide ((s.size : Int) > 64)) (l.drop i) i))
  (fun _ ds => (ds.getD 0 .nil).rows.length - (ds.getD 3 .nil).int.toNat) ?_ ?_
 ·intro ds hf hp
  obtain ⟨l, rfl⟩ := strs_fn hf
  have h2 : l.length <= lim := (lim_strs.1 (okD_two.1 hp).2.1).1
  refine ⟨l, 0, by simp only [Tree.holds, Out.den, E.den, E.denL, dn, List.getD_cons_zero, List.getD_cons_succ, List.length_map, phi_1000, Int.ofNat_zero], Nat.zero_le _, h2, ?_⟩
  simp only [q_tixspan, phi_tixspan, List.drop_zero]
 ·rintro j h t d ds hj ht hf ⟨l, i, rfl, hi, hl, rfl⟩
  obtain rfl : t = head_tixspan_0 := by
   match j, ht with
   | 0, ht => exact (Option.some.inj ht).symm
  by_cases hlt : i < l.length
  ·obtain ⟨x, hx, hxm, hd⟩ := drop_get hlt
   simp only [head_tixspan_0, Tree.holds, Out.den, E.den, E.denL, dn, List.getD_cons_zero, List.getD_cons_succ, List.length_map, phi_1000, rowAt_map hx, wrap_succ hlt hl]
   refine ⟨fun _ => ⟨by omega, by omega, fun hb => ?_, fun hb => ⟨⟨l, i + 1, rfl, hlt, hl, ?_⟩, by omega⟩⟩, fun h => by omega⟩
   ·rw [hd, ixL, if_pos (by simpa using hb)]
   ·rw [hd, ixL, if_neg (by simpa using hb)]
  ·simp only [head_tixspan_0, Tree.holds, Out.den, E.den, E.denL, dn, List.getD_cons_zero, List.getD_cons_succ, List.length_map, phi_1000]
   refine ⟨fun h => by omega, fun _ => ?_⟩
   rw [List.drop_eq_nil_of_le (by omega), ixL]
-- head 0 of loop 0: [t2 .sh (.cell (.sc (.i .i64))), t3 .sh (.cell (.sc (.i .i64))), t4 .sh (.cell (.sc .b)), t21 .sh (.cell (.sl 26)), t22 .sh (.cell (.sc (.i .i64))), t23 .sh (.cell (.sc (.i .i64)))]
def heads_tspan : List Hd := [⟨0, [.any, .any, .sh (.cell (.sc (.i .i64))), .sh (.cell (.sc (.i .i64))), .sh (.cell (.sc .b)), .any, .any, .any, .any, .any, .any, .any, .any, .any, .any, .any, .any, .any, .any, .any, .any, .sh (.cell (.sl 26)), .sh (.cell (.sc (.i .i64))), .sh (.cell (.sc (.i .i64))), .any, .any, .any, .any, .any, .any, .any, .any, .any, .any, .any, .any, .any, .any, .any, .any, .any, .any, .any, .any, .any, .any, .any, .any]⟩]
def entry_tspan : Tree :=
 (.ite (.le (.n (.c 2 .v0)) (.i 256))
 (.giv (.app 1000 [(.c 1 .v0), (.pr .row [])])
 (.g 0 [(.i 0), (.i 1), (.pr .not [(.ge (.app 62 [(.c 1 .v0), (.pr .row [])]) (.i 0))]), (.c 2 .v0), (.n (.c 2 .v0)), (.i 0)]))
 (.g 0 [(.i 0), (.i 1), (.lit (.bool false)), (.c 2 .v0), (.n (.c 2 .v0)), (.i 0)]))
def head_tspan_0 : Tree :=
 (.ite (.lt .v5 .v4)
 (.giv (.le (.i 0) .v5)
 (.giv (.lt .v5 (.n .v3))
 (.giv (.app 1000 [(.r3 (.a .v3 .v5))])
 (.ite .v2
 (.g 0 [(.pr .ite [(.gt (.c 0 (.app 61 [(.r3 (.a .v3 .v5))])) .v0), (.c 0 (.app 61 [(.r3 (.a .v3 .v5))])), .v0]), (.pr (.iop .add .i64) [.v1, (.c 1 (.app 61 [(.r3 (.a .v3 .v5))]))]), (.c 2 (.app 61 [(.r3 (.a .v3 .v5))])), .v3, .v4, (.pr (.iop .add .i64) [.v5, (.i 1)])])
 (.g 0 [(.pr .ite [(.gt (.c 0 (.app 61 [(.r3 (.a .v3 .v5))])) .v0), (.c 0 (.app 61 [(.r3 (.a .v3 .v5))])), .v0]), (.pr (.iop .add .i64) [.v1, (.c 1 (.app 61 [(.r3 (.a .v3 .v5))]))]), (.lit (.bool false)), .v3, .v4, (.pr (.iop .add .i64) [.v5, (.i 1)])])))))
 (.rt (.pr .row [(.pr (.iop .add .i64) [.v0, (.i 1)]), .v1, .v2])))
def trees_tspan : List Tree := [head_tspan_0]
noncomputable def deps_tspan : List Sig := [q_tspan, q_tixspan]
theorem ok_tspan : check q_tspan deps_tspan heads_tspan entry_tspan trees_tspan = true := by kernel_rfl
theorem spanT_eq (v : Typ) : spanT v = (wrap ((spanTL v.list (0, 1, if (v.list.length : Int) <= 256 then !decide (ixL (fun s : ByteArray => decide ((s.size : Int) > 64)) v.names 0 ≥ 0) else false)).1 + 1), (spanTL v.list (0, 1, if (v.list.length : Int) <= 256 then !decide (ixL (fun s : ByteArray => decide ((s.size : Int) > 64)) v.names 0 ≥ 0) else false)).2.1, (spanTL v.list (0, 1, if (v.list.length : Int) <= 256 then !decide (ixL (fun s : ByteArray => decide ((s.size : Int) > 64)) v.names 0 ≥ 0) else false)).2.2) := by
 cases v; rw [spanT]; rfl
def spanR (x : Int × Int × Bool) : D := .row [iD (wrap (x.1 + 1)), iD x.2.1, bD x.2.2]
theorem tspan_step (n : Nat) (ih : @Ok (I n) q_tspan (okD n)) : @Ok (I n) q_tspan (okD (n + 1)) := by
 letI := I n
 refine fn_ok (hphi n) ok_tspan (by
  intro q hq
  simp only [deps_tspan, List.mem_cons, List.not_mem_nil, or_false] at hq
  rcases hq with rfl | rfl
  ·exact ih
  ·exact tixspan_ok n)
  (fun _ d ds => ∃ (a b : Int) (o : Bool) (l : List Typ) (i : Nat), ds = [iD a, iD b, bD o, typsD l, iD l.length, iD i] /\ i <= l.length /\ l.length <= lim /\ (∀ x, x ∈ l -> okD n [x.toD]) /\ d = spanR (spanTL (l.drop i) (a, b, o)))
  (fun _ ds => (ds.getD 3 .nil).rows.length - (ds.getD 5 .nil).int.toNat) ?_ ?_
 ·intro ds hf hp
  obtain ⟨v, rfl⟩ := one_typ hf
  obtain ⟨p1, p2, p3, p4, p5, p6⟩ := okD_listT hp
  simp only [entry_tspan, q_tspan, Tree.holds, Out.den, E.den, E.denL, dn, List.getD_cons_zero, List.getD_cons_succ, List.length_map, phi_1000, tat_0, tat_1, tat_2, toDT_put, phi_tixspan, phi_tspan, p5]
  have hge : ∀ i : Int, (!leI 0 i) = !decide (i ≥ 0) := fun i => rfl
  rw [spanT_eq]
  refine ⟨fun h => ⟨0, 1, _, v.list, 0, rfl, Nat.zero_le _, p1, p3, ?_⟩, fun h => ⟨0, 1, _, v.list, 0, rfl, Nat.zero_le _, p1, p3, ?_⟩⟩
  ·rw [if_pos h, hge]; rfl
  ·rw [if_neg h]; rfl
 ·rintro j h t d ds hj ht hf ⟨a, b, o, l, i, rfl, hi, hl, hs, rfl⟩
  obtain rfl : t = head_tspan_0 := by
   match j, ht with
   | 0, ht => exact (Option.some.inj ht).symm
  have hmax : ∀ x : Int, (bif ltI a x then iD x else iD a) = iD (if x > a then x else a) := fun x => by
   by_cases c : x > a
   ·rw [ltI_t.2 c, if_pos c]; rfl
   ·rw [ltI_f.2 c, if_neg c]; rfl
  by_cases hlt : i < l.length
  ·obtain ⟨x, hx, hxm, hd⟩ := drop_get hlt
   simp only [head_tspan_0, Tree.holds, Out.den, E.den, E.denL, dn, List.getD_cons_zero, List.getD_cons_succ, List.length_map, phi_1000, rowAt_map hx, tat_0, tat_1, tat_2, toDT_put, phi_tspan, wrap_succ hlt hl, row_at0, row_at1, row_at2, hmax]
   rw [hd, spanTL]
   refine ⟨fun _ => ⟨by omega, by omega, hs x hxm, fun ho => ⟨⟨_, _, _, l, i + 1, rfl, hlt, hl, hs, ?_⟩, by omega⟩, fun ho => ⟨⟨_, _, _, l, i + 1, rfl, hlt, hl, hs, ?_⟩, by omega⟩⟩, fun h => by omega⟩
   ·rw [ho]; rfl
   ·rw [ho]; rfl
  ·simp only [head_tspan_0, Tree.holds, Out.den, E.den, E.denL, dn, List.getD_cons_zero, List.getD_cons_succ, List.length_map, phi_1000]
   refine ⟨fun h => by omega, fun _ => ?_⟩
   rw [List.drop_eq_nil_of_le (by omega), spanTL]
   rfl
theorem tspan_ok : ∀ (n : Nat), @Ok (I n) q_tspan (okD n)
 | 0 => ok_zero
 | n + 1 => ok_irrel (by decide) (tspan_step n (tspan_ok n))
def heads_tcheck : List Hd := []
def entry_tcheck : Tree :=
 (.giv (.app 1000 [(.r3 .v0)])
 (.ite (.app 58 [(.r3 .v0)])
 (.ite (.c 2 (.app 61 [(.r3 .v0)]))
 (.ite (.gt (.c 0 (.app 61 [(.r3 .v0)])) (.i 16))
 (.rt (.i 2))
 (.ite (.gt (.c 1 (.app 61 [(.r3 .v0)])) (.i 4096))
 (.rt (.i 2))
 (.rt (.i 0))))
 (.rt (.i 2)))
 (.rt (.i 110))))
def trees_tcheck : List Tree := []
noncomputable def deps_tcheck : List Sig := [q_tformed, q_tspan]
theorem ok_tcheck : check q_tcheck deps_tcheck heads_tcheck entry_tcheck trees_tcheck = true := by kernel_rfl
theorem tcheck_ok (n : Nat) : @Ok (I n) q_tcheck (okD n) := by
 letI := I n
 refine fn_ok (hphi n) ok_tcheck (by
  intro q hq
  simp only [deps_tcheck, List.mem_cons, List.not_mem_nil, or_false] at hq
  rcases hq with rfl | rfl
  ·exact tformed_ok n
  ·exact tspan_ok n) (fun _ _ _ => False) (fun _ _ => 0) ?_ (fun j h t d ds hj => by simp [heads_tcheck] at hj)
 intro ds hf hp
 obtain ⟨v, rfl⟩ := one_typ hf
 simp only [entry_tcheck, q_tcheck, Tree.holds, Out.den, E.den, E.denL, dn, List.getD_cons_zero, List.getD_cons_succ, List.length_map, phi_1000, tat_0, tat_1, tat_2, toDT_put, phi_tformed, phi_tspan, phi_tcheck, row_at0, row_at1, row_at2, hp]
 unfold checkT
 refine ⟨fun h => ⟨fun h' => ⟨fun a => ?_, fun a => ⟨fun b => ?_, fun b => ?_⟩⟩, fun h' => ?_⟩, fun h => ?_⟩
 ·rw [if_pos h, if_pos h', if_pos a]
 ·rw [if_pos h, if_pos h', if_neg a, if_pos b]
 ·rw [if_pos h, if_pos h', if_neg a, if_neg b]
 ·rw [if_pos h, h']; rfl
 ·rw [h]; rfl
end Go.Proofs.YtaeeblcdggjokaaGreatDoor.Vk
/- Plain laws of what the functions come to: depth, size, what is looked at. -/
namespace Go.Proofs.YtaeeblcdggjokaaGreatDoor.Vk
open Go Go.Ab Go.RowKit
mutual
def siz : Val -> Nat
 | .mk _ _ _ _ _ _ _ _ l => 1 + sizs l
def sizs : List Val -> Nat
 | [] => 0
 | v :: r => siz v + sizs r
end
mutual
def dep : Val -> Nat
 | .mk _ _ _ _ _ _ _ _ l => 1 + deps l
def deps : List Val -> Nat
 | [] => 0
 | v :: r => max (dep v) (deps r)
end
theorem siz_eq (v : Val) : siz v = 1 + sizs v.list := by cases v; rw [siz]; rfl
theorem dep_eq (v : Val) : dep v = 1 + deps v.list := by cases v; rw [dep]; rfl
theorem sizV_eq (v : Val) : sizV v = sizL 1 v.list := by cases v; rw [sizV]; rfl
theorem depV_eq (v : Val) : depV v = wrap (depL 0 v.list + 1) := by cases v; rw [depV]; rfl
theorem siz_pos (v : Val) : 1 <= siz v := by rw [siz_eq]; omega
theorem dep_le : ∀ v, dep v <= siz v := by
 apply val_ind
 intro v ih
 rw [dep_eq, siz_eq]
 have : ∀ l : List Val, (∀ x, x ∈ l -> dep x <= siz x) -> deps l <= sizs l := by
  intro l
  induction l with
  | nil => intro _; rw [deps, sizs]; exact Nat.le_refl _
  | cons x r ihl =>
   intro h
   rw [deps, sizs]
   have h1 := h x (List.mem_cons_self ..)
   have h2 := ihl fun y hy => h y (List.mem_cons_of_mem _ hy)
   omega
 have := this v.list ih
 omega
theorem wrapi {i : Int} (h0 : -4611686018427387904 <= i) (h : i <= 4611686018427387904) : wrap i = i := wrap_id (by omega) (by omega)
theorem sizL_of : ∀ (l : List Val), (∀ x, x ∈ l -> siz x <= 4611686018427387904 -> sizV x = siz x) -> ∀ acc : Int, 0 <= acc -> acc + sizs l <= 4611686018427387904 -> sizL acc l = acc + sizs l
 | [], _, acc, _, _ => by rw [sizL, sizs]; omega
 | x :: r, h, acc, h0, h1 => by
  rw [sizs] at h1
  rw [sizL, sizs, h x (List.mem_cons_self ..) (by omega), wrapi (by omega) (by omega), sizL_of r (fun y hy => h y (List.mem_cons_of_mem _ hy)) _ (by omega) (by omega)]
  omega
theorem siz_of : ∀ v, siz v <= 4611686018427387904 -> sizV v = siz v := by
 apply val_ind
 intro v ih h
 rw [siz_eq] at h ⊢
 rw [sizV_eq, sizL_of v.list ih 1 (by omega) (by omega)]
 omega
theorem depL_of : ∀ (l : List Val), (∀ x, x ∈ l -> depV x = dep x) -> ∀ acc : Nat, depL acc l = max acc (deps l)
 | [], _, acc => by rw [depL, deps]; omega
 | x :: r, h, acc => by
  rw [depL, deps, h x (List.mem_cons_self ..)]
  have : (if (dep x : Int) > acc then (dep x : Int) else acc) = ((max acc (dep x) : Nat) : Int) := by split <;> omega
  rw [this, depL_of r (fun y hy => h y (List.mem_cons_of_mem _ hy))]
  omega
theorem dep_of : ∀ v, siz v <= 4611686018427387904 -> depV v = dep v := by
 apply val_ind
 intro v ih h
 have hs : ∀ (l : List Val) (x : Val), x ∈ l -> siz x <= sizs l := by
  intro l
  induction l with
  | nil => intro x hx; cases hx
  | cons y r ihl =>
   intro x hx
   rw [sizs]
   rcases List.mem_cons.1 hx with rfl | hx
   ·omega
   ·have := ihl x hx; omega
 rw [siz_eq] at h
 have hd := dep_le v
 rw [siz_eq, dep_eq] at hd
 have h0 := depL_of v.list (fun x hx => ih x hx (by have := hs v.list x hx; omega)) 0
 have h0 : depL 0 v.list = ((max 0 (deps v.list) : Nat) : Int) := h0
 rw [depV_eq, dep_eq, h0, wrapi (by omega) (by omega)]
 omega
def big : Int := 65537 + 3 * 140737488355328
theorem partsN_of : ∀ (ns : List ByteArray) (n : Int), (∀ s, s ∈ ns -> s.size <= lim) -> 0 <= n -> n <= big -> n <= partsN 65536 n ns /\ partsN 65536 n ns <= big
 | [], n, _, h0, h1 => by rw [partsN]; exact ⟨Int.le_refl _, h1⟩
 | s :: r, n, hs, h0, h1 => by
  have h2 := hs s (List.mem_cons_self ..)
  have h2 : s.size <= 140737488355328 := h2
  unfold big at *
  rw [partsN]
  split
  ·rename_i hn
   rw [wrapi (by omega) (by omega)]
   obtain ⟨k1, k2⟩ := partsN_of r (n + s.size) (fun x hx => hs x (List.mem_cons_of_mem _ hx)) (by omega) (by unfold big; omega)
   unfold big at k2
   exact ⟨by omega, k2⟩
  ·exact ⟨Int.le_refl _, h1⟩
theorem parts_of : ∀ v : Val, ∀ n w : Int, v.toD.Lim -> 0 <= n -> n <= 65536 -> 0 <= w -> w <= 301 -> n <= partsV 65536 n w v /\ partsV 65536 n w v <= big /\ (partsV 65536 n w v <= 65536 -> n + siz v <= partsV 65536 n w v) := by
 apply val_ind
 intro v ih n w hl h0 h1 hw0 hw1
 rw [lim_toD] at hl
 obtain ⟨l1, l2, l3, l4⟩ := hl
 obtain ⟨l3, l5⟩ := lim_strs.1 l3
 obtain ⟨_, l6⟩ := lim_vals.1 l4
 have l1 : v.dig.size <= 140737488355328 := l1
 have l2 : v.text.size <= 140737488355328 := l2
 have l3 : v.names.length <= 140737488355328 := l3
 have hlist : ∀ (l : List Val), (∀ x, x ∈ l -> ∀ n w : Int, x.toD.Lim -> 0 <= n -> n <= 65536 -> 0 <= w -> w <= 301 -> n <= partsV 65536 n w x /\ partsV 65536 n w x <= big /\ (partsV 65536 n w x <= 65536 -> n + siz x <= partsV 65536 n w x)) -> (∀ x, x ∈ l -> x.toD.Lim) -> ∀ m w : Int, 0 <= m -> m <= big -> 0 <= w -> w <= 300 ->
   m <= partsL 65536 w m l /\ partsL 65536 w m l <= big /\ (partsL 65536 w m l <= 65536 -> m + sizs l <= partsL 65536 w m l) := by
  intro l
  induction l with
  | nil => intro _ _ m w g0 g1 _ _; rw [partsL, sizs]; exact ⟨Int.le_refl _, g1, fun _ => by omega⟩
  | cons x r ihl =>
   intro h hx m w g0 g1 g2 g3
   rw [partsL, sizs]
   split
   ·rename_i hm
    obtain ⟨k1, k2, k3⟩ := h x (List.mem_cons_self ..) m (w + 1) (hx x (List.mem_cons_self ..)) g0 hm (by omega) (by omega)
    rw [wrapi (by omega) (by omega)]
    obtain ⟨j1, j2, j3⟩ := ihl (fun y hy => h y (List.mem_cons_of_mem _ hy)) (fun y hy => hx y (List.mem_cons_of_mem _ hy)) (partsV 65536 m (w + 1) x) w (by omega) k2 g2 g3
    refine ⟨by omega, j2, fun hr => ?_⟩
    have := j3 hr
    have := k3 (by omega)
    omega
   ·rename_i hm
    exact ⟨Int.le_refl _, g1, fun hr => absurd hr hm⟩
 have e : partsV 65536 n w v = if w > 300 then wrap (65536 + 1) else partsL 65536 w (partsN 65536 (wrap (wrap (wrap (wrap (n + 1) + v.text.size) + v.dig.size) + v.names.length)) v.names) v.list := by cases v; rw [partsV]; rfl
 rw [e, siz_eq]
 split
 ·rw [wrapi (by omega) (by omega)]
  unfold big
  exact ⟨by omega, by omega, fun h => by omega⟩
 ·rw [wrapi (i := n + 1) (by omega) (by omega), wrapi (i := n + 1 + v.text.size) (by omega) (by omega), wrapi (i := n + 1 + v.text.size + v.dig.size) (by omega) (by omega), wrapi (by omega) (by omega)]
  obtain ⟨k1, k2⟩ := partsN_of v.names (n + 1 + v.text.size + v.dig.size + v.names.length) l5 (by omega) (by unfold big; omega)
  obtain ⟨j1, j2, j3⟩ := hlist v.list ih l6 _ w (by omega) k2 hw0 (by omega)
  exact ⟨by omega, j2, fun h => by have := j3 h; omega⟩
theorem small_of {v : Val} (hl : v.toD.Lim) (h : ¬ 65536 < partsV 65536 0 0 v) : depV v = dep v /\ sizV v = siz v /\ siz v <= 65536 := by
 obtain ⟨_, _, h3⟩ := parts_of v 0 0 hl (by omega) (by omega) (by omega) (by omega)
 have := h3 (by omega)
 have hs : siz v <= 65536 := by omega
 exact ⟨dep_of v (by omega), siz_of v (by omega), hs⟩
end Go.Proofs.YtaeeblcdggjokaaGreatDoor.Vk
/- Contracts: value.Equal, strings.Compare, strings.Repeat, num.Cmp. -/
namespace Go.Proofs.YtaeeblcdggjokaaGreatDoor.Vk
open Go Go.Ab Go.RowKit
theorem strs_two {d : List D} (h : FitL tb [.cell (.sl 9), .cell (.sl 9)] d) : ∃ a b : List ByteArray, d = [strsD a, strsD b] := by
 match d, h with
 | [x, y], ⟨h1, h2, _⟩ =>
  obtain ⟨a, rfl⟩ := fits_strs shS h1
  obtain ⟨b, rfl⟩ := fits_strs shS h2
  exact ⟨a, b, rfl⟩
-- head 0 of loop 0: [t0 .sh (.cell (.sl 9)), t1 .sh (.cell (.sl 9)), t12 .sh (.cell (.sc (.i .i64))), t13 .sh (.cell (.sc (.i .i64)))]
def heads_eqstrs : List Hd := [⟨0, [.sh (.cell (.sl 9)), .sh (.cell (.sl 9)), .any, .any, .any, .any, .any, .any, .any, .any, .any, .any, .sh (.cell (.sc (.i .i64))), .sh (.cell (.sc (.i .i64))), .any, .any, .any, .any, .any, .any, .any, .any, .any, .any, .any, .any]⟩]
def entry_eqstrs : Tree :=
 (.ite (.ne (.n .v0) (.n .v1)) .no
 (.g 0 [.v0, .v1, (.n .v0), (.i 0)]))
def head_eqstrs_0 : Tree :=
 (.ite (.lt .v3 .v2)
 (.giv (.le (.i 0) .v3)
 (.giv (.lt .v3 (.n .v0))
 (.giv (.lt .v3 (.n .v1))
 (.ite (.pr (.scmp .neq) [(.c 0 (.a .v0 .v3)), (.c 0 (.a .v1 .v3))]) .no
 (.g 0 [.v0, .v1, .v2, (.pr (.iop .add .i64) [.v3, (.i 1)])]))))) .ye)
def trees_eqstrs : List Tree := [head_eqstrs_0]
noncomputable def deps_eqstrs : List Sig := []
theorem ok_eqstrs : check q_eqstrs deps_eqstrs heads_eqstrs entry_eqstrs trees_eqstrs = true := by kernel_rfl
theorem eqstrs_ok (n : Nat) : @Ok (I n) q_eqstrs (okD n) := by
 letI := I n
 refine fn_ok (hphi n) ok_eqstrs (by intro q hq; simp [deps_eqstrs] at hq)
  (fun _ d ds => ∃ (a b : List ByteArray) (i : Nat), ds = [strsD a, strsD b, iD a.length, iD i] /\ i <= a.length /\ a.length = b.length /\ a.length <= lim /\ d = bD (decide (a.drop i = b.drop i)))
  (fun _ ds => (ds.getD 2 .nil).int.toNat - (ds.getD 3 .nil).int.toNat) ?_ ?_
 ·intro ds hf hp
  obtain ⟨a, b, rfl⟩ := strs_two hf
  obtain ⟨h1, h2, h3⟩ := okD_two.1 hp
  have h2 := (lim_strs.1 h2).1
  simp only [entry_eqstrs, q_eqstrs, Tree.holds, Out.den, E.den, E.denL, dn, List.getD_cons_zero, List.getD_cons_succ, List.length_map, phi_1000, phi_eqstrs]
  refine ⟨fun h => ?_, fun h => ⟨a, b, 0, by simp only [Int.ofNat_zero], Nat.zero_le _, by omega, h2, rfl⟩⟩
  rw [decide_eq_false (fun e => h (by rw [e]))]
 ·rintro j h t d ds hj ht hf ⟨a, b, i, rfl, hi, hab, hl, rfl⟩
  obtain rfl : t = head_eqstrs_0 := by
   match j, ht with
   | 0, ht => exact (Option.some.inj ht).symm
  by_cases hlt : i < a.length
  ·obtain ⟨x, hx, hxm, hd⟩ := drop_get hlt
   obtain ⟨y, hy, hym, hd'⟩ := drop_get (show i < b.length by omega)
   simp only [head_eqstrs_0, Tree.holds, Out.den, E.den, E.denL, dn, List.getD_cons_zero, List.getD_cons_succ, List.length_map, phi_1000, rowAt_map hx, rowAt_map hy, wrap_succ hlt hl]
   refine ⟨fun _ => ⟨by omega, by omega, by omega, fun hb => ?_, fun hb => ⟨⟨a, b, i + 1, rfl, hlt, hab, hl, ?_⟩, by omega⟩⟩, fun h => by omega⟩
   ·rw [hd, hd', decide_eq_false (fun e => hb (List.cons.inj e).1)]
   ·rw [hd, hd', hb]; simp
  ·simp only [head_eqstrs_0, Tree.holds, Out.den, E.den, E.denL, dn, List.getD_cons_zero, List.getD_cons_succ, List.length_map, phi_1000]
   refine ⟨fun h => by omega, fun _ => ?_⟩
   rw [List.drop_eq_nil_of_le (by omega), List.drop_eq_nil_of_le (by omega)]
   rfl
-- head 0 of loop 0: [t1 .sh (.cell (.sl 33)), t2 .sh (.fn 26 []), t15 .sh (.cell (.sl 33)), t16 .sh (.cell (.sc (.i .i64))), t17 .sh (.cell (.sc (.i .i64)))]
end Go.Proofs.YtaeeblcdggjokaaGreatDoor.Vk
/- Contracts of package types: has, Has, sub, Sub. -/
namespace Go.Proofs.YtaeeblcdggjokaaGreatDoor.Vk
open Go Go.Ab Go.RowKit
theorem formedTL_all : ∀ (l : List Typ) (i : Nat), formedTL l i < 0 -> ∀ x, x ∈ l -> formedT x = true
 | [], _, _, x, hx => by cases hx
 | v :: r, i, h, x, hx => by
  rw [formedTL] at h
  cases hv : formedT v with
  | false => rw [hv] at h; simp only [Bool.false_eq_true, if_false] at h; omega
  | true =>
   rw [hv, if_pos rfl] at h
   rcases List.mem_cons.1 hx with rfl | hx
   ·exact hv
   ·exact formedTL_all r (i + 1) h x hx
theorem formedT_parts {t : Typ} (h : formedT t = true) : (∀ x, x ∈ t.list -> formedT x = true) /\ (t.kind = 9 -> t.list.length = 1) /\ (t.kind = 10 \/ t.kind = 11 -> t.names.length = t.list.length /\ t.names.Nodup) /\ 1 <= t.kind /\ t.kind <= 11 /\ (t.kind <= 8 -> t.names = [] /\ t.list = []) := by
 cases t with
 | mk k ns l =>
  obtain ⟨f1, f2, f3⟩ := formedT_iff k ns l
  simp only [Typ.kind, Typ.names, Typ.list]
  by_cases c1 : k = 9
  ·obtain ⟨h1, h2, h3⟩ := (f1 c1).1 h
   exact ⟨formedTL_all l 0 h3, fun _ => h2, fun h => by omega, by omega, by omega, fun h => by omega⟩
  by_cases c2 : k = 10 \/ k = 11
  ·obtain ⟨h1, h2, h3, h4⟩ := (f2 c2).1 h
   exact ⟨formedTL_all l 0 h4, fun h => absurd h c1, fun _ => ⟨h1, h2⟩, by omega, by omega, fun h => by omega⟩
  ·obtain ⟨h1, h2, h3, h4⟩ := (f3 c1 (by omega) (by omega)).1 h
   have e1 : ns = [] := List.length_eq_zero_iff.1 h3
   have e2 : l = [] := List.length_eq_zero_iff.1 h4
   subst e1 e2
   exact ⟨fun x hx => (by cases hx), fun h => absurd h c1, fun h => absurd h c2, h1, by omega, fun _ => ⟨rfl, rfl⟩⟩
theorem formedL_all2 : ∀ (l : List Val) (i : Nat), formedL l i < 0 -> ∀ x, x ∈ l -> formedV x = true
 | [], _, _, x, hx => by cases hx
 | v :: r, i, h, x, hx => by
  rw [formedL] at h
  cases hv : formedV v with
  | false => rw [hv] at h; simp only [Bool.false_eq_true, if_false] at h; omega
  | true =>
   rw [hv, if_pos rfl] at h
   rcases List.mem_cons.1 hx with rfl | hx
   ·exact hv
   ·exact formedL_all2 r (i + 1) h x hx
theorem formedV_parts {v : Val} (h : formedV v = true) : (∀ x, x ∈ v.list -> formedV x = true) /\ (v.kind = 8 -> v.names.length = v.list.length) /\ (v.kind = 9 -> v.list.length = 1) := by
 cases v with
 | mk k f ng d e b t ns l =>
  obtain ⟨k1, k2, k3, k4, k5, k6, k7, k8, k9, k0⟩ := formedV_iff k f ng d e b t ns l
  simp only [Val.list, Val.names, Val.kind]
  have z : l.length = 0 -> ∀ x, x ∈ l -> formedV x = true := fun h x hx => by rw [List.length_eq_zero_iff.1 h] at hx; cases hx
  have a := formedL_all2 l 0
  by_cases e1 : k = 1
  ·obtain ⟨_, _, _, _, _, g⟩ := (k1 e1).1 h; exact ⟨z g, fun h => by omega, fun h => by omega⟩
  by_cases e2 : k = 2
  ·obtain ⟨_, _, _, _, g⟩ := (k2 e2).1 h; exact ⟨z g, fun h => by omega, fun h => by omega⟩
  by_cases e3 : k = 3
  ·obtain ⟨n, _, _, _, _, g⟩ := (k3 e3).1 h; exact ⟨z g, fun h => by omega, fun h => by omega⟩
  by_cases e4 : k = 4
  ·obtain ⟨_, _, _, _, g⟩ := (k4 e4).1 h; exact ⟨z g, fun h => by omega, fun h => by omega⟩
  by_cases e5 : k = 5
  ·obtain ⟨_, _, _, _, _, g⟩ := (k5 e5).1 h; exact ⟨z g, fun h => by omega, fun h => by omega⟩
  by_cases e6 : k = 6
  ·obtain ⟨_, _, _, _, g⟩ := (k6 e6).1 h; exact ⟨z g, fun h => by omega, fun h => by omega⟩
  by_cases e7 : k = 7
  ·obtain ⟨_, _, _, _, _, g⟩ := (k7 e7).1 h; exact ⟨a g, fun h => by omega, fun h => by omega⟩
  by_cases e8 : k = 8
  ·obtain ⟨n, _, _, _, _, _, g⟩ := (k8 e8).1 h; exact ⟨a g, fun _ => n, fun h => by omega⟩
  by_cases e9 : k = 9
  ·obtain ⟨n, _, _, _, _, _, g⟩ := (k9 e9).1 h; exact ⟨a g, fun h => by omega, fun _ => n⟩
  ·rw [k0 e1 e2 e3 e4 e5 e6 e7 e8 e9] at h; cases h
theorem hgtT_mem : ∀ {l : List Typ} {x : Typ}, x ∈ l -> hgtT x <= hgtTs l
 | v :: r, x, h => by
  rw [hgtTs]
  rcases List.mem_cons.1 h with rfl | h
  ·omega
  ·have := hgtT_mem h; omega
theorem hgtT_eq (v : Typ) : hgtT v = hgtTs v.list + 1 := by cases v; rw [hgtT]; rfl
theorem optB_congr {α : Type} {o : Option α} {f g : α -> Bool} (h : ∀ x, o = some x -> f x = g x) : optB o f = optB o g := by
 cases o with
 | none => rfl
 | some x => exact h x rfl
theorem hasF_more : ∀ (n m : Nat) (t : Typ) (v : Val), hgtT t <= n -> hgtT t <= m -> hasF n t v = hasF m t v
 | 0, _, t, v, h, _ => by rw [hgtT_eq] at h; omega
 | _ + 1, 0, t, v, _, h => by rw [hgtT_eq] at h; omega
 | n + 1, m + 1, t, v, h, k => by
  rw [hgtT_eq] at h k
  have e : ∀ x, x ∈ t.list -> ∀ y, hasF n x y = hasF m x y := fun x hx y => hasF_more n m x y (by have := hgtT_mem hx; omega) (by have := hgtT_mem hx; omega)
  have e1 : (optB t.list[0]? fun x => v.list.all (hasF n x)) = optB t.list[0]? fun x => v.list.all (hasF m x) := optB_congr fun x hx => by rw [funext fun y => e x (List.mem_of_getElem? hx) y]
  have e2 : ((t.list.zip v.list).all fun p => hasF n p.1 p.2) = (t.list.zip v.list).all fun p => hasF m p.1 p.2 := by
   rw [Bool.eq_iff_iff, List.all_eq_true, List.all_eq_true]
   exact ⟨fun h p hp => by rw [<- e p.1 (List.of_mem_zip hp).1]; exact h p hp, fun h p hp => by rw [e p.1 (List.of_mem_zip hp).1]; exact h p hp⟩
  have e3 : (optB t.list[(idxI v.text t.names 0).toNat]? fun x => optB v.list[0]? (hasF n x)) = optB t.list[(idxI v.text t.names 0).toNat]? fun x => optB v.list[0]? (hasF m x) := optB_congr fun x hx => by rw [funext fun y => e x (List.mem_of_getElem? hx) y]
  rw [hasF, hasF, e1, e2, e3]
theorem hasT_eq (t : Typ) (v : Val) : hasT t v =
  if t.kind = 1 then true
  else if t.kind = 9 then decide (v.kind = 7) && optB t.list[0]? fun x => v.list.all (hasT x)
  else if t.kind = 10 then decide (v.kind = 8) && decide (v.names = t.names) && (t.list.zip v.list).all fun p => hasT p.1 p.2
  else if t.kind = 11 then decide (v.kind = 9) && (decide (0 <= idxI v.text t.names 0) && optB t.list[(idxI v.text t.names 0).toNat]? fun x => optB v.list[0]? (hasT x))
  else decide (v.kind = kindsT t.kind) && (decide (t.kind ≠ 5) || decide (v.exp ≥ 0)) := by
 have e : ∀ x, x ∈ t.list -> ∀ y, hasF (hgtTs t.list) x y = hasT x y := fun x hx y => hasF_more _ _ _ _ (hgtT_mem hx) (Nat.le_refl _)
 have e1 : (optB t.list[0]? fun x => v.list.all (hasF (hgtTs t.list) x)) = optB t.list[0]? fun x => v.list.all (hasT x) := optB_congr fun x hx => by rw [funext fun y => e x (List.mem_of_getElem? hx) y]
 have e2 : ((t.list.zip v.list).all fun p => hasF (hgtTs t.list) p.1 p.2) = (t.list.zip v.list).all fun p => hasT p.1 p.2 := by
  rw [Bool.eq_iff_iff, List.all_eq_true, List.all_eq_true]
  exact ⟨fun h p hp => by rw [<- e p.1 (List.of_mem_zip hp).1]; exact h p hp, fun h p hp => by rw [e p.1 (List.of_mem_zip hp).1]; exact h p hp⟩
 have e3 : (optB t.list[(idxI v.text t.names 0).toNat]? fun x => optB v.list[0]? (hasF (hgtTs t.list) x)) = optB t.list[(idxI v.text t.names 0).toNat]? fun x => optB v.list[0]? (hasT x) := optB_congr fun x hx => by rw [funext fun y => e x (List.mem_of_getElem? hx) y]
 show hasF (hgtT t) t v = _
 rw [hgtT_eq, hasF, e1, e2, e3]
-- head 0 of loop 0: [t0 .sh (.cell (.sl 9)), t1 .sh (.cell (.sc .s)), t7 .sh (.cell (.sc (.i .i64))), t8 .sh (.cell (.sc (.i .i64)))]
def heads_sindex : List Hd := [⟨0, [.sh (.cell (.sl 9)), .sh (.cell (.sc .s)), .any, .any, .any, .any, .any, .sh (.cell (.sc (.i .i64))), .sh (.cell (.sc (.i .i64))), .any, .any, .any, .any, .any, .any, .any, .any, .any, .any]⟩]
def entry_sindex : Tree :=
 (.g 0 [.v0, .v1, (.n .v0), (.i 0)])
def head_sindex_0 : Tree :=
 (.ite (.lt .v3 .v2)
 (.giv (.le (.i 0) .v3)
 (.giv (.lt .v3 (.n .v0))
 (.ite (.pr (.scmp .eql) [.v1, (.c 0 (.a .v0 .v3))])
 (.rt .v3)
 (.g 0 [.v0, .v1, .v2, (.pr (.iop .add .i64) [.v3, (.i 1)])]))))
 (.rt (.i (-1))))
def trees_sindex : List Tree := [head_sindex_0]
noncomputable def deps_sindex : List Sig := []
theorem ok_sindex : check q_sindex deps_sindex heads_sindex entry_sindex trees_sindex = true := by kernel_rfl
theorem strs_str {d : List D} (h : FitL tb [.cell (.sl 9), .cell (.sc .s)] d) : ∃ (l : List ByteArray) (s : ByteArray), d = [strsD l, sD s] := by
 match d, h with
 | [a, b], ⟨h1, h2, _⟩ =>
  obtain ⟨l, rfl⟩ := fits_strs shS h1
  obtain ⟨s, rfl⟩ := fits_str h2
  exact ⟨l, s, rfl⟩
theorem sindex_ok (n : Nat) : @Ok (I n) q_sindex (okD n) := by
 letI := I n
 refine fn_ok (hphi n) ok_sindex (by intro q hq; simp only [deps_sindex, List.not_mem_nil] at hq)
  (fun _ d ds => ∃ (l : List ByteArray) (s : ByteArray) (i : Nat), ds = [strsD l, sD s, iD l.length, iD i] /\ i <= l.length /\ l.length <= lim /\ d = iD (idxI s (l.drop i) i))
  (fun _ ds => (ds.getD 0 .nil).rows.length - (ds.getD 3 .nil).int.toNat) ?_ ?_
 ·intro ds hf hp
  obtain ⟨l, s, rfl⟩ := strs_str hf
  have h2 : l.length <= lim := (lim_strs.1 (okD_two.1 hp).2.1).1
  refine ⟨l, s, 0, by simp only [Tree.holds, Out.den, E.den, E.denL, dn, List.getD_cons_zero, List.getD_cons_succ, List.length_map, phi_1000, Int.ofNat_zero], Nat.zero_le _, h2, ?_⟩
  simp only [q_sindex, phi_sindex, List.drop_zero]
 ·rintro j h t d ds hj ht hf ⟨l, s, i, rfl, hi, hl, rfl⟩
  obtain rfl : t = head_sindex_0 := by
   match j, ht with
   | 0, ht => exact (Option.some.inj ht).symm
  by_cases hlt : i < l.length
  ·obtain ⟨x, hx, hxm, hd⟩ := drop_get hlt
   simp only [head_sindex_0, Tree.holds, Out.den, E.den, E.denL, dn, List.getD_cons_zero, List.getD_cons_succ, List.length_map, phi_1000, rowAt_map hx, wrap_succ hlt hl]
   refine ⟨fun _ => ⟨by omega, by omega, fun hb => ?_, fun hb => ⟨⟨l, s, i + 1, rfl, hlt, hl, ?_⟩, by omega⟩⟩, fun h => by omega⟩
   ·rw [hd, idxI, if_pos hb]
   ·rw [hd, idxI, if_neg hb]
  ·simp only [head_sindex_0, Tree.holds, Out.den, E.den, E.denL, dn, List.getD_cons_zero, List.getD_cons_succ, List.length_map, phi_1000]
   refine ⟨fun h => by omega, fun _ => ?_⟩
   rw [List.drop_eq_nil_of_le (by omega), idxI]
theorem idxI_lt (s : ByteArray) : ∀ (l : List ByteArray) (i : Nat), 0 <= idxI s l i -> (i : Int) <= idxI s l i /\ (idxI s l i).toNat < i + l.length
 | [], i, h => by rw [idxI] at h; omega
 | x :: r, i, h => by
  rw [idxI] at h ⊢
  split
  ·rw [List.length_cons]; omega
  ·rename_i hne
   rw [if_neg hne] at h
   have := idxI_lt s r (i + 1) h
   rw [List.length_cons]; omega
theorem typ_val {d : List D} (h : FitL tb [.row 26, .row 33] d) : ∃ (t : Typ) (v : Val), d = [t.toD, v.toD] := by
 match d, h with
 | [a, b], ⟨⟨cs, e, hf⟩, ⟨cs', e', hf'⟩, _⟩ =>
  subst e e'
  obtain ⟨v, hv⟩ := fits_typ shT shS (.row cs) (by unfold fitsW; exact hf)
  obtain ⟨v', hv'⟩ := fits_val shV shS (.row cs') (by unfold fitsW; exact hf')
  exact ⟨v, v', by rw [hv, hv']⟩
theorem two_typ {d : List D} (h : FitL tb [.row 26, .row 26] d) : ∃ (a b : Typ), d = [a.toD, b.toD] := by
 match d, h with
 | [a, b], ⟨⟨cs, e, hf⟩, ⟨cs', e', hf'⟩, _⟩ =>
  subst e e'
  obtain ⟨v, hv⟩ := fits_typ shT shS (.row cs) (by unfold fitsW; exact hf)
  obtain ⟨v', hv'⟩ := fits_typ shT shS (.row cs') (by unfold fitsW; exact hf')
  exact ⟨v, v', by rw [hv, hv']⟩
-- head 0 of loop 0: [t0 .sh (.cell (.sl 33)), t1 .sh (.fn 61 [26]), t7 .sh (.cell (.sc (.i .i64))), t8 .sh (.cell (.sc (.i .i64)))]
def heads_tixhas : List Hd := [⟨0, [.sh (.cell (.sl 33)), .sh (.fn 61 [26]), .any, .any, .any, .any, .any, .sh (.cell (.sc (.i .i64))), .sh (.cell (.sc (.i .i64))), .any, .any, .any, .any, .any, .any, .any, .any, .any, .any]⟩]
def entry_tixhas : Tree :=
 (.g 0 [.v0, (.pr .row [(.c 0 .v1)]), (.n .v0), (.i 0)])
def head_tixhas_0 : Tree :=
 (.ite (.lt .v3 .v2)
 (.giv (.le (.i 0) .v3)
 (.giv (.lt .v3 (.n .v0))
 (.giv (.lt (.i 0) (.n (.c 2 (.c 0 .v1))))
 (.giv (.app 1000 [(.r3 (.a (.c 2 (.c 0 .v1)) (.i 0))), (.r9 (.a .v0 .v3))])
 (.giv (.app 2064 [(.r3 (.a (.c 2 (.c 0 .v1)) (.i 0))), (.r9 (.a .v0 .v3))])
 (.ite (.app 64 [(.r3 (.a (.c 2 (.c 0 .v1)) (.i 0))), (.r9 (.a .v0 .v3))])
 (.g 0 [.v0, (.pr .row [(.c 0 .v1)]), .v2, (.pr (.iop .add .i64) [.v3, (.i 1)])])
 (.rt .v3)))))))
 (.rt (.i (-1))))
def trees_tixhas : List Tree := [head_tixhas_0]
noncomputable def deps_tixhas : List Sig := [q_thas]
theorem ok_tixhas : check q_tixhas deps_tixhas heads_tixhas entry_tixhas trees_tixhas = true := by kernel_rfl
theorem tixhas_ok (n : Nat) (ih : @Ok (I n) q_thas (@okS (I n) n q_thas.g)) : @Ok (I n) q_tixhas (@okS (I n) n q_tixhas.g) := by
 letI := I n
 refine fn_okS (hphi n) ok_tixhas (by intro q hq; simp only [deps_tixhas, List.mem_singleton] at hq; subst hq; exact ih)
  (fun _ d ds => ∃ (l : List Val) (t x : Typ) (i : Nat), ds = [valsD l, .row [t.toD], iD l.length, iD i] /\ t.list = [x] /\ formedT x = true /\ i <= l.length /\ l.length <= lim /\ (∀ y, y ∈ l -> formedV y = true /\ okD n [x.toD, y.toD]) /\ d = iD (ixL (fun v => !hasT x v) (l.drop i) i))
  (fun _ ds => (ds.getD 0 .nil).rows.length - (ds.getD 3 .nil).int.toNat) ?_ ?_
 ·intro ds hf hp
  obtain ⟨l, t, rfl⟩ : ∃ (l : List Val) (t : Typ), ds = [valsD l, .row [t.toD]] := by
   match ds, hf with
   | [a, b], ⟨h1, ⟨us, e, h2⟩, _⟩ =>
    subst e
    obtain ⟨l, rfl⟩ := fits_vals shV shS h1
    match us, h2 with
    | [u], ⟨⟨cs, e', h3⟩, _⟩ =>
     subst e'
     obtain ⟨v, hv⟩ := fits_typ shT shS (.row cs) (by unfold fitsW; exact h3)
     exact ⟨l, v, by rw [hv]⟩
  obtain ⟨g1, g2, g3⟩ := (pre_tixhas n l t).1 (hp.2 rfl)
  obtain ⟨x, hx⟩ := List.length_eq_one_iff.1 g2
  obtain ⟨h1, h2, h3⟩ := okD_two.1 hp.1
  obtain ⟨h4, h5⟩ := lim_vals.1 h2
  have hxm : x ∈ t.list := by rw [hx]; exact List.mem_singleton.2 rfl
  have e1 := sz_toDT t
  have e2 := sz_typs_mem hxm
  have h6 : t.toD.Lim := by simpa [D.Lim, D.LimL] using h3
  have h7 := (lim_typs.1 ((lim_toDT t).1 h6).2).2 x hxm
  have h8 : D.sz (.row [t.toD]) = t.toD.sz + 1 := by rw [sz_row]; simp only [D.szL]
  simp only [entry_tixhas, q_tixhas, Tree.holds, Out.den, E.den, E.denL, dn, List.getD_cons_zero, List.getD_cons_succ, List.length_map, phi_1000, phi_tixhas, row_at0]
  refine ⟨l, t, x, 0, rfl, hx, (formedT_parts g1).1 x hxm, Nat.zero_le _, h4, fun y hy => ⟨g3 y hy, okD_two.2 ⟨?_, h7, h5 y hy⟩⟩, ?_⟩
  ·have := sz_vals_mem hy
   omega
  ·rw [hx]; rfl
 ·rintro j h t d ds hj ht hf ⟨l, a, x, i, rfl, ha, hx', hi, hl, hs, rfl⟩
  obtain rfl : t = head_tixhas_0 := by
   match j, ht with
   | 0, ht => exact (Option.some.inj ht).symm
  by_cases hlt : i < l.length
  ·obtain ⟨y, hy, hym, hd⟩ := drop_get hlt
   have hr : Ab.rowAt (typsD a.list) 0 = x.toD := by rw [ha]; rfl
   have hlen : (a.list.length : Int) = 1 := by rw [ha]; rfl
   simp only [head_tixhas_0, Tree.holds, Out.den, E.den, E.denL, dn, List.getD_cons_zero, List.getD_cons_succ, List.length_map, phi_1000, rowAt_map hy, row_at0, tat_0, tat_1, tat_2, hr, toDT_put, phi_thas, pre_thas, wrap_succ hlt hl, (hs y hym).2, hlen]
   refine ⟨fun _ => ⟨by omega, by omega, by omega, ⟨hx', (hs y hym).1⟩, fun hb => ⟨⟨l, a, x, i + 1, rfl, ha, hx', hlt, hl, hs, ?_⟩, by omega⟩, fun hb => ?_⟩, fun h => by omega⟩
   ·rw [hd, ixL, hb]; rfl
   ·rw [hd, ixL, hb]; rfl
  ·simp only [head_tixhas_0, Tree.holds, Out.den, E.den, E.denL, dn, List.getD_cons_zero, List.getD_cons_succ, List.length_map, phi_1000]
   refine ⟨fun h => by omega, fun _ => ?_⟩
   rw [List.drop_eq_nil_of_le (by omega), ixL]
end Go.Proofs.YtaeeblcdggjokaaGreatDoor.Vk
/- Contracts of package types: has, Has. -/
namespace Go.Proofs.YtaeeblcdggjokaaGreatDoor.Vk
open Go Go.Ab Go.RowKit
theorem okD_tv {n : Nat} {t : Typ} {v : Val} (h : okD (n + 1) [t.toD, v.toD]) : t.list.length <= lim /\ v.list.length <= lim /\ okD n [valsD v.list, .row [t.toD]] /\ okD n [strsD v.names, strsD t.names] /\ okD n [strsD t.names, sD v.text] /\ ∀ x, x ∈ t.list -> ∀ y, y ∈ v.list -> okD n [x.toD, y.toD] := by
 obtain ⟨h1, h2, h3⟩ := okD_two.1 h
 have ht := (lim_toDT t).1 h2
 have hv := (lim_toD v).1 h3
 have e1 := sz_toDT t
 have e2 := sz_toD v
 have p1 := D.sz_pos (strsD t.names)
 have p2 := D.sz_pos (typsD t.list)
 have p3 := D.sz_pos (strsD v.names)
 have p4 := D.sz_pos (valsD v.list)
 have p5 : (sD v.text).sz = 1 := by simp only [D.sz]
 have e3 : D.sz (.row [t.toD]) = t.toD.sz + 1 := by rw [sz_row]; simp only [D.szL]
 refine ⟨(lim_typs.1 ht.2).1, (lim_vals.1 hv.2.2.2).1, okD_two.2 ⟨by omega, hv.2.2.2, by simpa [D.Lim, D.LimL] using h2⟩, okD_two.2 ⟨by omega, hv.2.2.1, ht.1⟩, okD_two.2 ⟨by omega, ht.1, by simp only [D.Lim]; exact hv.2.1⟩, fun x hx y hy => okD_two.2 ⟨?_, (lim_typs.1 ht.2).2 x hx, (lim_vals.1 hv.2.2.2).2 y hy⟩⟩
 have := sz_typs_mem hx
 have := sz_vals_mem hy
 omega
theorem zip_drop {α β : Type} : ∀ (a : List α) (b : List β) (i : Nat), (a.zip b).drop i = (a.drop i).zip (b.drop i)
 | a, b, 0 => rfl
 | [], b, i + 1 => by simp
 | _ :: _, [], i + 1 => by simp
 | _ :: a, _ :: b, i + 1 => by simpa using zip_drop a b i
theorem rowAt_mapI {α : Type} {f : α -> D} {l : List α} {j : Int} {x : α} (h : l[j.toNat]? = some x) : Ab.rowAt (.lst (l.map f)) j = f x := by
 unfold Ab.rowAt
 show (l.map f).getD j.toNat (.row []) = f x
 rw [List.getD_eq_getElem?_getD, List.getElem?_map, h]; rfl
theorem ixL_any {α : Type} (p : α -> Bool) : ∀ (l : List α) (i : Nat), leI 0 (ixL p l i) = l.any p
 | [], i => by rw [ixL]; rfl
 | x :: r, i => by
  rw [ixL, List.any_cons]
  cases hp : p x with
  | true => rw [if_pos rfl, Bool.true_or]; exact leI_t.2 (by omega)
  | false => rw [if_neg (by simp), Bool.false_or]; exact ixL_any p r (i + 1)
-- head 0 of loop 0: [t2 .rf 26, t38 .sh (.cell (.sl 33)), t39 .sh (.cell (.sc (.i .i64))), t40 .sh (.cell (.sc (.i .i64)))]
def heads_thas : List Hd := [⟨0, [.any, .any, .rf 26, .any, .any, .any, .any, .any, .any, .any, .any, .any, .any, .any, .any, .any, .any, .any, .any, .any, .any, .any, .any, .any, .any, .any, .any, .any, .any, .any, .any, .any, .any, .any, .any, .any, .any, .any, .sh (.cell (.sl 33)), .sh (.cell (.sc (.i .i64))), .sh (.cell (.sc (.i .i64))), .any, .any, .any, .any, .any, .any, .any, .any, .any, .any, .any, .any, .any, .any, .any, .any, .any, .any, .any, .any, .any, .any, .any, .any, .any, .any, .any, .any, .any, .any, .any, .any, .any, .any, .any, .any, .any, .any, .any, .any, .any, .any, .any, .any, .any, .any, .any, .any, .any, .any, .any, .any, .any, .any, .any, .any, .any]⟩]
def entry_thas : Tree :=
 (.ite (.eq (.c 0 .v0) (.i 1)) .ye
 (.ite (.eq (.c 0 .v0) (.i 9))
 (.ite (.eq (.c 0 .v1) (.i 7))
 (.giv (.app 1000 [(.c 8 .v1), (.pr .row [(.r3 .v0)])])
 (.giv (.app 2065 [(.c 8 .v1), (.pr .row [(.r3 .v0)])])
 (.rt (.pr .not [(.ge (.app 65 [(.c 8 .v1), (.pr .row [(.r3 .v0)])]) (.i 0))])))) .no)
 (.ite (.eq (.c 0 .v0) (.i 10))
 (.ite (.ne (.c 0 .v1) (.i 8)) .no
 (.giv (.app 1000 [(.c 7 .v1), (.c 1 .v0)])
 (.ite (.app 16 [(.c 7 .v1), (.c 1 .v0)])
 (.g 0 [(.r3 .v0), (.c 8 .v1), (.n (.c 8 .v1)), (.i 0)]) .no)))
 (.ite (.eq (.c 0 .v0) (.i 11))
 (.giv (.app 1000 [(.c 1 .v0), (.c 6 .v1)])
 (.ite (.eq (.c 0 .v1) (.i 9))
 (.ite (.ge (.app 66 [(.c 1 .v0), (.c 6 .v1)]) (.i 0))
 (.giv (.le (.i 0) (.app 66 [(.c 1 .v0), (.c 6 .v1)]))
 (.giv (.lt (.app 66 [(.c 1 .v0), (.c 6 .v1)]) (.n (.c 2 .v0)))
 (.giv (.lt (.i 0) (.n (.c 8 .v1)))
 (.giv (.app 1000 [(.r3 (.a (.c 2 .v0) (.app 66 [(.c 1 .v0), (.c 6 .v1)]))), (.r9 (.a (.c 8 .v1) (.i 0)))])
 (.giv (.app 2064 [(.r3 (.a (.c 2 .v0) (.app 66 [(.c 1 .v0), (.c 6 .v1)]))), (.r9 (.a (.c 8 .v1) (.i 0)))])
 (.rt (.app 64 [(.r3 (.a (.c 2 .v0) (.app 66 [(.c 1 .v0), (.c 6 .v1)]))), (.r9 (.a (.c 8 .v1) (.i 0)))]))))))) .no) .no))
 (.ite (.eq (.c 0 .v0) (.i 0))
 (.ite (.eq (.c 0 .v1) (.i 0))
 (.ite (.ne (.c 0 .v0) (.i 5)) .ye
 (.rt (.ge (.c 4 .v1) (.i 0)))) .no)
 (.ite (.eq (.c 0 .v0) (.i 2))
 (.ite (.eq (.c 0 .v1) (.i 1))
 (.ite (.ne (.c 0 .v0) (.i 5)) .ye
 (.rt (.ge (.c 4 .v1) (.i 0)))) .no)
 (.ite (.eq (.c 0 .v0) (.i 3))
 (.ite (.eq (.c 0 .v1) (.i 2))
 (.ite (.ne (.c 0 .v0) (.i 5)) .ye
 (.rt (.ge (.c 4 .v1) (.i 0)))) .no)
 (.ite (.eq (.c 0 .v0) (.i 4))
 (.ite (.eq (.c 0 .v1) (.i 3))
 (.ite (.ne (.c 0 .v0) (.i 5)) .ye
 (.rt (.ge (.c 4 .v1) (.i 0)))) .no)
 (.ite (.eq (.c 0 .v0) (.i 5))
 (.ite (.eq (.c 0 .v1) (.i 3))
 (.ite (.ne (.c 0 .v0) (.i 5)) .ye
 (.rt (.ge (.c 4 .v1) (.i 0)))) .no)
 (.ite (.eq (.c 0 .v0) (.i 6))
 (.ite (.eq (.c 0 .v1) (.i 4))
 (.ite (.ne (.c 0 .v0) (.i 5)) .ye
 (.rt (.ge (.c 4 .v1) (.i 0)))) .no)
 (.ite (.eq (.c 0 .v0) (.i 7))
 (.ite (.eq (.c 0 .v1) (.i 5))
 (.ite (.ne (.c 0 .v0) (.i 5)) .ye
 (.rt (.ge (.c 4 .v1) (.i 0)))) .no)
 (.giv (.eq (.c 0 .v0) (.i 8))
 (.ite (.eq (.c 0 .v1) (.i 6))
 (.ite (.ne (.c 0 .v0) (.i 5)) .ye
 (.rt (.ge (.c 4 .v1) (.i 0)))) .no)))))))))))))
def head_thas_0 : Tree :=
 (.ite (.lt .v3 .v2)
 (.giv (.le (.i 0) .v3)
 (.giv (.lt .v3 (.n .v1))
 (.giv (.lt .v3 (.n (.c 2 .v0)))
 (.giv (.app 1000 [(.r3 (.a (.c 2 .v0) .v3)), (.r9 (.a .v1 .v3))])
 (.giv (.app 2064 [(.r3 (.a (.c 2 .v0) .v3)), (.r9 (.a .v1 .v3))])
 (.ite (.app 64 [(.r3 (.a (.c 2 .v0) .v3)), (.r9 (.a .v1 .v3))])
 (.g 0 [.v0, .v1, .v2, (.pr (.iop .add .i64) [.v3, (.i 1)])]) .no)))))) .ye)
def trees_thas : List Tree := [head_thas_0]
noncomputable def deps_thas : List Sig := [q_thas, q_tixhas, q_sindex, q_eqstrs]
theorem ok_thas : check q_thas deps_thas heads_thas entry_thas trees_thas = true := by kernel_rfl
theorem thas_step (n : Nat) (ih : @Ok (I n) q_thas (@okS (I n) n q_thas.g)) (ih2 : @Ok (I n) q_tixhas (@okS (I n) n q_tixhas.g)) : @Ok (I n) q_thas (@okS (I n) (n + 1) q_thas.g) := by
 letI := I n
 refine fn_okS (hphi n) ok_thas (by
  intro q hq
  simp only [deps_thas, List.mem_cons, List.not_mem_nil, or_false] at hq
  rcases hq with rfl | rfl | rfl | rfl
  ·exact ih
  ·exact ih2
  ·exact okS_of (sindex_ok n)
  ·exact okS_of (eqstrs_ok n))
  (fun _ d ds => ∃ (t : Typ) (l : List Val) (i : Nat), ds = [t.toD, valsD l, iD l.length, iD i] /\ t.list.length = l.length /\ i <= l.length /\ l.length <= lim /\ (∀ x, x ∈ t.list -> formedT x = true) /\ (∀ y, y ∈ l -> formedV y = true) /\ (∀ x, x ∈ t.list -> ∀ y, y ∈ l -> okD n [x.toD, y.toD]) /\ d = bD (((t.list.zip l).drop i).all fun p => hasT p.1 p.2))
  (fun _ ds => (ds.getD 1 .nil).rows.length - (ds.getD 3 .nil).int.toNat) ?_ ?_
 ·intro ds hf hp
  obtain ⟨t, v, rfl⟩ := typ_val hf
  obtain ⟨o1, o2, o3, o4, o5, o6⟩ := okD_tv hp.1
  obtain ⟨g1, g2⟩ := (pre_thas n t v).1 (hp.2 rfl)
  obtain ⟨t1, t2, t3, t4, t5, t6⟩ := formedT_parts g1
  obtain ⟨v1, v2, v3⟩ := formedV_parts g2
  simp only [entry_thas, q_thas, Tree.holds, Out.den, E.den, E.denL, dn, List.getD_cons_zero, List.getD_cons_succ, List.length_map, phi_1000, phi_thas, tat_0, tat_1, tat_2, toDT_put, phi_tixhas, pre_tixhas, phi_eqstrs, phi_sindex, o3, o4, o5]
  have hH := hasT_eq t v
  refine ⟨fun k1 => ?_, fun k1 => ⟨fun k9 => ⟨fun w7 => ⟨⟨g1, t2 k9, v1⟩, ?_⟩, fun w7 => ?_⟩, fun k9 => ⟨fun k10 => ⟨fun w8 => ?_, fun w8 => ⟨fun hn => ?_, fun hn => ?_⟩⟩, fun k10 => ⟨fun k11 => ⟨fun w9 => ⟨fun hx => ?_, fun hx => ?_⟩, fun w9 => ?_⟩, fun k11 => ?_⟩⟩⟩⟩
  ·rw [hH, if_pos k1]
  ·obtain ⟨x, hx⟩ := List.length_eq_one_iff.1 (t2 k9)
   rw [hH, if_neg k1, if_pos k9, w7, hx, ixL_any]
   show bD (!v.list.any fun y => !hasT x y) = bD (v.list.all (hasT x))
   rw [<- List.not_all_eq_any_not, Bool.not_not]
  ·rw [hH, if_neg k1, if_pos k9, decide_eq_false w7]; rfl
  ·rw [hH, if_neg k1, if_neg k9, if_pos k10, decide_eq_false w8]; rfl
  ·have hn := of_decide_eq_true hn
   have e1 := (t3 (.inl k10)).1
   have e2 := v2 w8
   refine ⟨t, v.list, 0, rfl, by rw [<- e1, <- e2, hn], Nat.zero_le _, o2, t1, v1, o6, ?_⟩
   rw [hH, if_neg k1, if_neg k9, if_pos k10, decide_eq_true w8, decide_eq_true hn]; rfl
  ·rw [hH, if_neg k1, if_neg k9, if_pos k10, decide_eq_true w8, hn]; rfl
  ·have e1 := (t3 (.inr k11)).1
   obtain ⟨i1, i2⟩ := idxI_lt v.text t.names 0 hx
   obtain ⟨y, hy⟩ := List.length_eq_one_iff.1 (v3 w9)
   have hxl : (idxI v.text t.names 0).toNat < t.list.length := by omega
   have hx0 := List.getElem?_eq_getElem hxl
   generalize t.list[(idxI v.text t.names 0).toNat] = x at hx0
   have hy0 : v.list[(0 : Int).toNat]? = some y := by rw [hy]; rfl
   rw [rowAt_mapI hx0, rowAt_mapI hy0]
   simp only [tat_0, tat_1, tat_2, toDT_put, at_0, at_1, at_2, at_3, at_4, at_5, at_6, at_7, at_8, toD_put, phi_thas, pre_thas]
   have hxm := List.mem_of_getElem? hx0
   have hym := List.mem_of_getElem? hy0
   refine ⟨hx, by omega, by rw [hy]; simp, o6 x hxm y hym, ⟨t1 x hxm, v1 y hym⟩, ?_⟩
   rw [hH, if_neg k1, if_neg k9, if_neg k10, if_pos k11, decide_eq_true w9, decide_eq_true hx, hx0, hy]
   rfl
  ·rw [hH, if_neg k1, if_neg k9, if_neg k10, if_pos k11, decide_eq_true w9, decide_eq_false hx]; rfl
  ·rw [hH, if_neg k1, if_neg k9, if_neg k10, if_pos k11, decide_eq_false w9]; rfl
  ·have hK : hasT t v = (decide (v.kind = kindsT t.kind) && (decide (t.kind ≠ 5) || decide (v.exp ≥ 0))) := by rw [hH, if_neg k1, if_neg k9, if_neg k10, if_neg k11]
   have fin : ∀ c e : Int, t.kind = c -> kindsT c = e -> (v.kind = e -> (¬t.kind = 5 -> D.v (Value.bool true) = bD (hasT t v)) /\ (t.kind = 5 -> bD (leI 0 v.exp) = bD (hasT t v))) /\ (¬v.kind = e -> D.v (Value.bool false) = bD (hasT t v)) := fun c e hc he => by
    rw [hK, hc, he]
    refine ⟨fun h => ⟨fun h5 => ?_, fun h5 => ?_⟩, fun h => ?_⟩
    ·rw [decide_eq_true h, decide_eq_true h5]; rfl
    ·rw [decide_eq_true h, decide_eq_false (by simpa using h5)]; rfl
    ·rw [decide_eq_false h]; rfl
   exact ⟨fun k => fin 0 0 k rfl, fun _ => ⟨fun k => fin 2 1 k rfl, fun _ => ⟨fun k => fin 3 2 k rfl, fun _ => ⟨fun k => fin 4 3 k rfl, fun _ => ⟨fun k => fin 5 3 k rfl, fun _ => ⟨fun k => fin 6 4 k rfl, fun _ => ⟨fun k => fin 7 5 k rfl, fun _ => ⟨by omega, fin 8 6 (by omega) rfl⟩⟩⟩⟩⟩⟩⟩⟩
 ·rintro j h t d ds hj ht hf ⟨t0, l, i, rfl, ha, hi, hl, f1, f2, ho, rfl⟩
  obtain rfl : t = head_thas_0 := by
   match j, ht with
   | 0, ht => exact (Option.some.inj ht).symm
  by_cases hlt : i < l.length
  ·obtain ⟨y, hy, hym, hd⟩ := drop_get hlt
   obtain ⟨x, hx, hxm, hd'⟩ := drop_get (l := t0.list) (i := i) (by omega)
   have hz : (t0.list.zip l).drop i = (x, y) :: (t0.list.zip l).drop (i + 1) := by
    rw [zip_drop, zip_drop, hd, hd']; rfl
   simp only [head_thas_0, Tree.holds, Out.den, E.den, E.denL, dn, List.getD_cons_zero, List.getD_cons_succ, List.length_map, phi_1000, rowAt_map hy, rowAt_map hx, tat_0, tat_1, tat_2, toDT_put, toD_put, phi_thas, pre_thas, wrap_succ hlt hl]
   refine ⟨fun _ => ⟨by omega, by omega, by omega, ho x hxm y hym, ⟨f1 x hxm, f2 y hym⟩, fun hb => ⟨⟨t0, l, i + 1, rfl, ha, hlt, hl, f1, f2, ho, ?_⟩, by omega⟩, fun hb => ?_⟩, fun h => by omega⟩
   ·rw [hz, List.all_cons, hb, Bool.true_and]
   ·rw [hz, List.all_cons, hb, Bool.false_and]
  ·simp only [head_thas_0, Tree.holds, Out.den, E.den, E.denL, dn, List.getD_cons_zero, List.getD_cons_succ, List.length_map, phi_1000]
   refine ⟨fun h => by omega, fun _ => ?_⟩
   rw [List.drop_eq_nil_of_le (by rw [List.length_zip]; omega)]; rfl
theorem thas_both : ∀ (n : Nat), @Ok (I n) q_thas (@okS (I n) n q_thas.g)
 | 0 => fun W J vs ds hL hI ha hp => absurd hp.1.1 (Nat.not_lt_zero _)
 | n + 1 => ok_irrel (by decide) (thas_step n (thas_both n) (tixhas_ok n (thas_both n)))
theorem checkT_formed {t : Typ} (h : checkT t = 0) : formedT t = true := by
 cases hf : formedT t with
 | true => rfl
 | false => unfold checkT at h; rw [hf] at h; simp at h
theorem checkV_formed {v : Val} (h : checkV v = 0) : formedV v = true := by
 cases hf : formedV v with
 | true => rfl
 | false => unfold checkV at h; rw [hf] at h; simp at h
def heads_tHas : List Hd := []
def entry_tHas : Tree :=
 (.giv (.app 1000 [(.r3 .v0)])
 (.ite (.ne (.app 63 [(.r3 .v0)]) (.i 0))
 (.rt (.pr .row [(.lit (.bool false)), (.app 63 [(.r3 .v0)])]))
 (.giv (.app 1000 [(.r9 .v1)])
 (.ite (.ne (.app 13 [(.r9 .v1)]) (.i 0))
 (.rt (.pr .row [(.lit (.bool false)), (.app 13 [(.r9 .v1)])]))
 (.giv (.app 1000 [(.r3 .v0), (.r9 .v1)])
 (.giv (.app 2064 [(.r3 .v0), (.r9 .v1)])
 (.rt (.pr .row [(.app 64 [(.r3 .v0), (.r9 .v1)]), (.i 0)]))))))))
def trees_tHas : List Tree := []
noncomputable def deps_tHas : List Sig := [q_tcheck, q_check, q_thas]
theorem ok_tHas : check q_tHas deps_tHas heads_tHas entry_tHas trees_tHas = true := by kernel_rfl
theorem tHas_ok (n : Nat) : @Ok (I n) q_tHas (okD n) := by
 letI := I n
 refine fn_okS (hphi n) ok_tHas (by
  intro q hq
  simp only [deps_tHas, List.mem_cons, List.not_mem_nil, or_false] at hq
  rcases hq with rfl | rfl | rfl
  ·exact okS_of (tcheck_ok n)
  ·exact okS_of (check_ok n)
  ·exact thas_both n) (fun _ _ _ => False) (fun _ _ => 0) ?_ (fun j h t d ds hj => by simp [heads_tHas] at hj)
 intro ds hf hp
 obtain ⟨t, v, rfl⟩ := typ_val hf
 obtain ⟨h1, h2, h3⟩ := okD_two.1 hp
 have o1 : okD n [t.toD] := okD_one.2 ⟨by omega, h2⟩
 have o2 : okD n [v.toD] := okD_one.2 ⟨by omega, h3⟩
 simp only [entry_tHas, q_tHas, Tree.holds, Out.den, E.den, E.denL, dn, List.getD_cons_zero, List.getD_cons_succ, List.length_map, phi_1000, phi_tHas, tat_0, tat_1, tat_2, toDT_put, toD_put, phi_tcheck, phi_check, phi_thas, pre_thas, o1, o2, hp]
 refine ⟨fun c => ?_, fun c => ⟨fun c' => ?_, fun c' => ⟨⟨checkT_formed c, checkV_formed c'⟩, ?_⟩⟩⟩
 ·unfold HasT; rw [if_pos c]
 ·unfold HasT; rw [if_neg (by simpa using c), if_pos c']
 ·unfold HasT; rw [if_neg (by simpa using c), if_neg (by simpa using c')]
end Go.Proofs.YtaeeblcdggjokaaGreatDoor.Vk
/- Contracts of package types: sub, Sub; of calamuskeep: parts, wide. -/
namespace Go.Proofs.YtaeeblcdggjokaaGreatDoor.Vk
open Go Go.Ab Go.RowKit
-- head 0 of loop 0: [t2 .rf 26, t3 .rf 26, t5 .mp .s (.i .i64), t38 .sh (.cell (.sl 9)), t39 .sh (.cell (.sc (.i .i64))), t40 .sh (.cell (.sc (.i .i64)))]
-- head 0 of loop 0: [t1 .sh (.cell (.sl 26)), t2 .sh (.fn 65 []), t15 .sh (.cell (.sl 26)), t16 .sh (.cell (.sc (.i .i64))), t17 .sh (.cell (.sc (.i .i64)))]
end Go.Proofs.YtaeeblcdggjokaaGreatDoor.Vk
/- Contracts of calamuskeep: parts, wide. -/
namespace Go.Proofs.YtaeeblcdggjokaaGreatDoor.Vk
open Go Go.Ab Go.RowKit
theorem typ_int3 {d : List D} (h : FitL tb [.row 26, .cell (.sc (.i .i64)), .cell (.sc (.i .i64)), .cell (.sc (.i .i64))] d) : ∃ (v : Typ) (a b c : Int), d = [v.toD, iD a, iD b, iD c] := by
 match d, h with
 | [d1, d2, d3, d4], ⟨⟨cs, e, hf⟩, h2, h3, h4, _⟩ =>
  subst e
  obtain ⟨v, hv⟩ := fits_typ shT shS (.row cs) (by unfold fitsW; exact hf)
  obtain ⟨a, rfl⟩ := fits_int h2
  obtain ⟨b, rfl⟩ := fits_int h3
  obtain ⟨c, rfl⟩ := fits_int h4
  exact ⟨v, a, b, c, by rw [hv]⟩
-- head 0 of loop 0: [t1 .rf 26, t3 .sh (.cell (.sc (.i .i64)))]
def heads_kwide : List Hd := [⟨0, [.any, .rf 26, .any, .sh (.cell (.sc (.i .i64))), .any, .any, .any, .any, .any, .any, .any, .any, .any, .any, .any, .any, .any, .any, .any, .any, .any]⟩]
def entry_kwide : Tree :=
 (.ite (.gt (.n (.c 1 .v0)) (.i 1000)) .ye
 (.g 0 [(.r3 .v0), (.i 0)]))
def head_kwide_0 : Tree :=
 (.ite (.lt .v1 (.n (.c 2 .v0)))
 (.giv (.le (.i 0) .v1)
 (.giv (.app 1000 [(.r3 (.a (.c 2 .v0) .v1))])
 (.ite (.app 73 [(.r3 (.a (.c 2 .v0) .v1))]) .ye
 (.g 0 [.v0, (.pr (.iop .add .i64) [.v1, (.i 1)])])))) .no)
def trees_kwide : List Tree := [head_kwide_0]
noncomputable def deps_kwide : List Sig := [q_kwide]
theorem ok_kwide : check q_kwide deps_kwide heads_kwide entry_kwide trees_kwide = true := by kernel_rfl
theorem kwide_step (n : Nat) (ih : @Ok (I n) q_kwide (okD n)) : @Ok (I n) q_kwide (okD (n + 1)) := by
 letI := I n
 refine fn_ok (hphi n) ok_kwide (by intro q hq; simp only [deps_kwide, List.mem_singleton] at hq; subst hq; exact ih)
  (fun _ d ds => ∃ (v : Typ) (i : Nat), ds = [v.toD, iD i] /\ i <= v.list.length /\ v.list.length <= lim /\ (∀ x, x ∈ v.list -> okD n [x.toD]) /\ d = bD (wideTL (v.list.drop i)))
  (fun _ ds => (cellAt (ds.getD 0 .nil) 2).rows.length - (ds.getD 1 .nil).int.toNat) ?_ ?_
 ·intro ds hf hp
  obtain ⟨v, rfl⟩ := one_typ hf
  obtain ⟨h2, _, h3, _⟩ := okD_listT hp
  simp only [entry_kwide, q_kwide, Tree.holds, Out.den, E.den, E.denL, dn, List.getD_cons_zero, List.getD_cons_succ, List.length_map, phi_1000, tat_0, tat_1, tat_2, toDT_put, phi_kwide]
  refine ⟨fun h => ?_, fun h => ⟨v, 0, rfl, Nat.zero_le _, h2, h3, ?_⟩⟩
  ·cases v with
   | mk k ns l => rw [wideT, if_pos (show (ns.length : Int) > 1000 from h)]
  ·cases v with
   | mk k ns l => rw [wideT, if_neg (show ¬ (ns.length : Int) > 1000 from h)]; rfl
 ·rintro j h t d ds hj ht hf ⟨v, i, rfl, hi, hl, hs, rfl⟩
  obtain rfl : t = head_kwide_0 := by
   match j, ht with
   | 0, ht => exact (Option.some.inj ht).symm
  by_cases hlt : i < v.list.length
  ·obtain ⟨x, hx, hxm, hd⟩ := drop_get hlt
   simp only [head_kwide_0, Tree.holds, Out.den, E.den, E.denL, dn, List.getD_cons_zero, List.getD_cons_succ, List.length_map, phi_1000, rowAt_map hx, tat_0, tat_1, tat_2, toDT_put, phi_kwide, wrap_succ hlt hl]
   refine ⟨fun _ => ⟨by omega, hs x hxm, fun hb => ?_, fun hb => ⟨⟨v, i + 1, rfl, hlt, hl, hs, ?_⟩, by omega⟩⟩, fun h => by omega⟩
   ·rw [hd, wideTL, if_pos hb]
   ·rw [hd, wideTL, hb, if_neg (by simp)]
  ·simp only [head_kwide_0, Tree.holds, Out.den, E.den, E.denL, dn, List.getD_cons_zero, List.getD_cons_succ, List.length_map, phi_1000, tat_0, tat_1, tat_2, toDT_put]
   refine ⟨fun h => by omega, fun _ => ?_⟩
   rw [List.drop_eq_nil_of_le (by omega), wideTL]
theorem kwide_ok : ∀ (n : Nat), @Ok (I n) q_kwide (okD n)
 | 0 => ok_zero
 | n + 1 => ok_irrel (by decide) (kwide_step n (kwide_ok n))
-- head 0 of loop 0: [t1 .sh (.cell (.sc (.i .i64))), t2 .sh (.cell (.sc (.i .i64))), t3 .sh (.cell (.sc (.i .i64))), t4 .rf 26, t9 .sh (.cell (.sc (.i .i64)))]
-- head 1 of loop 1: [t1 .sh (.cell (.sc (.i .i64))), t2 .sh (.cell (.sc (.i .i64))), t3 .sh (.cell (.sc (.i .i64))), t4 .rf 26, t10 .sh (.cell (.sc (.i .i64)))]
def heads_kparts : List Hd := [⟨0, [.any, .sh (.cell (.sc (.i .i64))), .sh (.cell (.sc (.i .i64))), .sh (.cell (.sc (.i .i64))), .rf 26, .any, .any, .any, .any, .sh (.cell (.sc (.i .i64))), .any, .any, .any, .any, .any, .any, .any, .any, .any, .any, .any, .any, .any, .any, .any, .any, .any, .any, .any, .any, .any, .any, .any, .any, .any, .any, .any, .any, .any, .any, .any, .any, .any, .any, .any, .any, .any, .any, .any, .any, .any, .any, .any, .any, .any, .any, .any, .any, .any, .any, .any, .any, .any, .any]⟩, ⟨1, [.any, .sh (.cell (.sc (.i .i64))), .sh (.cell (.sc (.i .i64))), .sh (.cell (.sc (.i .i64))), .rf 26, .any, .any, .any, .any, .any, .sh (.cell (.sc (.i .i64))), .any, .any, .any, .any, .any, .any, .any, .any, .any, .any, .any, .any, .any, .any, .any, .any, .any, .any, .any, .any, .any, .any, .any, .any, .any, .any, .any, .any, .any, .any, .any, .any, .any, .any, .any, .any, .any, .any, .any, .any, .any, .any, .any, .any, .any, .any, .any, .any, .any, .any, .any, .any, .any]⟩]
def entry_kparts : Tree :=
 (.ite (.gt .v3 (.i 300))
 (.rt (.pr (.iop .add .i64) [.v2, (.i 1)]))
 (.g 0 [(.pr (.iop .add .i64) [(.pr (.iop .add .i64) [.v1, (.i 1)]), (.n (.c 1 .v0))]), .v2, .v3, (.r3 .v0), (.i 0)]))
def head_kparts_0 : Tree :=
 (.ite (.lt .v4 (.n (.c 1 .v3)))
 (.ite (.le .v0 .v1)
 (.giv (.le (.i 0) .v4)
 (.g 0 [(.pr (.iop .add .i64) [.v0, (.pr .slen [(.c 0 (.a (.c 1 .v3) .v4))])]), .v1, .v2, .v3, (.pr (.iop .add .i64) [.v4, (.i 1)])]))
 (.g 1 [.v0, .v1, .v2, .v3, (.i 0)]))
 (.g 1 [.v0, .v1, .v2, .v3, (.i 0)]))
def head_kparts_1 : Tree :=
 (.ite (.lt .v4 (.n (.c 2 .v3)))
 (.ite (.le .v0 .v1)
 (.giv (.le (.i 0) .v4)
 (.giv (.app 1000 [(.r3 (.a (.c 2 .v3) .v4)), .v0, .v1, (.pr (.iop .add .i64) [.v2, (.i 1)])])
 (.g 1 [(.app 72 [(.r3 (.a (.c 2 .v3) .v4)), .v0, .v1, (.pr (.iop .add .i64) [.v2, (.i 1)])]), .v1, .v2, .v3, (.pr (.iop .add .i64) [.v4, (.i 1)])])))
 (.rt .v0))
 (.rt .v0))
def trees_kparts : List Tree := [head_kparts_0, head_kparts_1]
noncomputable def deps_kparts : List Sig := [q_kparts]
theorem ok_kparts : check q_kparts deps_kparts heads_kparts entry_kparts trees_kparts = true := by kernel_rfl
theorem okD_typ3 {n : Nat} {v : Typ} {a b c : Int} : okD n [v.toD, iD a, iD b, iD c] ↔ v.toD.sz + 3 < n /\ v.toD.Lim := by
 unfold okD
 simp only [D.szL, D.LimL, sz_int, lim_int, and_true, true_and]
theorem kparts_step (n : Nat) (ih : @Ok (I n) q_kparts (okD n)) : @Ok (I n) q_kparts (okD (n + 1)) := by
 letI := I n
 refine fn_ok (hphi n) ok_kparts (by intro q hq; simp only [deps_kparts, List.mem_singleton] at hq; subst hq; exact ih)
  (fun j d ds => ∃ (m most w : Int) (v : Typ) (i : Nat), ds = [iD m, iD most, iD w, v.toD, iD i] /\ v.names.length <= lim /\ v.list.length <= lim /\ (∀ x, x ∈ v.list -> ∀ a b c, okD n [x.toD, iD a, iD b, iD c]) /\
   (j = 0 -> i <= v.names.length /\ d = iD (partsTL most w (partsN most m (v.names.drop i)) v.list)) /\ (j ≠ 0 -> i <= v.list.length /\ d = iD (partsTL most w m (v.list.drop i))))
  (fun j ds => if j = 0 then (cellAt (ds.getD 3 .nil) 1).rows.length - (ds.getD 4 .nil).int.toNat + (cellAt (ds.getD 3 .nil) 2).rows.length + 1 else (cellAt (ds.getD 3 .nil) 2).rows.length - (ds.getD 4 .nil).int.toNat) ?_ ?_
 ·intro ds hf hp
  obtain ⟨v, a, b, c, rfl⟩ := typ_int3 hf
  rw [okD_typ3, sz_toDT, lim_toDT] at hp
  obtain ⟨p1, p2, p3⟩ := hp
  have p2 := (lim_strs.1 p2).1
  obtain ⟨p3, p4⟩ := lim_typs.1 p3
  have hs : ∀ x, x ∈ v.list -> ∀ a b c, okD n [x.toD, iD a, iD b, iD c] := fun x hx a b c => okD_typ3.2 ⟨by have := sz_typs_mem hx; omega, p4 x hx⟩
  simp only [entry_kparts, q_kparts, Tree.holds, Out.den, E.den, E.denL, dn, List.getD_cons_zero, List.getD_cons_succ, List.length_map, phi_1000, tat_0, tat_1, tat_2, toDT_put, phi_kparts]
  refine ⟨fun h => ?_, fun h => ⟨_, b, c, v, 0, rfl, p2, p3, hs, fun _ => ⟨Nat.zero_le _, ?_⟩, fun h => absurd rfl h⟩⟩
  ·cases v with
   | mk k ns l => rw [partsT, if_pos h]
  ·cases v with
   | mk k ns l => rw [partsT, if_neg (by omega)]; rfl
 ·rintro j h t d ds hj ht hf ⟨m, most, w, v, i, rfl, p2, p3, hs, h0, h1⟩
  match j, ht with
  | 0, ht =>
   obtain rfl : t = head_kparts_0 := (Option.some.inj ht).symm
   obtain ⟨hi, rfl⟩ := h0 rfl
   by_cases hlt : i < v.names.length
   ·obtain ⟨x, hx, hxm, hd⟩ := drop_get hlt
    simp only [head_kparts_0, Tree.holds, Out.den, E.den, E.denL, dn, List.getD_cons_zero, List.getD_cons_succ, List.length_map, phi_1000, rowAt_map hx, tat_0, tat_1, tat_2, toDT_put, wrap_succ hlt p2]
    refine ⟨fun _ => ⟨fun hm => ⟨by omega, ⟨_, most, w, v, i + 1, rfl, p2, p3, hs, fun _ => ⟨hlt, ?_⟩, fun h => absurd rfl h⟩, ?_⟩, fun hm => ⟨⟨_, most, w, v, 0, rfl, p2, p3, hs, fun h => absurd h (by decide), fun _ => ⟨Nat.zero_le _, ?_⟩⟩, ?_⟩⟩, fun h => by omega⟩
    ·rw [hd, partsN, if_pos hm]
    ·simp only [if_true]; omega
    ·rw [hd, partsN, if_neg hm]; rfl
    ·simp only [if_true]; simp only [Nat.one_ne_zero, if_false]; omega
   ·simp only [head_kparts_0, Tree.holds, Out.den, E.den, E.denL, dn, List.getD_cons_zero, List.getD_cons_succ, List.length_map, phi_1000, tat_0, tat_1, tat_2, toDT_put]
    refine ⟨fun h => by omega, fun _ => ⟨⟨_, most, w, v, 0, rfl, p2, p3, hs, fun h => absurd h (by decide), fun _ => ⟨Nat.zero_le _, ?_⟩⟩, ?_⟩⟩
    ·rw [List.drop_eq_nil_of_le (by omega), partsN]; rfl
    ·simp only [if_true]; simp only [Nat.one_ne_zero, if_false]; omega
  | 1, ht =>
   obtain rfl : t = head_kparts_1 := (Option.some.inj ht).symm
   obtain ⟨hi, rfl⟩ := h1 (by decide)
   by_cases hlt : i < v.list.length
   ·obtain ⟨x, hx, hxm, hd⟩ := drop_get hlt
    simp only [head_kparts_1, Tree.holds, Out.den, E.den, E.denL, dn, List.getD_cons_zero, List.getD_cons_succ, List.length_map, phi_1000, rowAt_map hx, tat_0, tat_1, tat_2, toDT_put, wrap_succ hlt p3, phi_kparts]
    refine ⟨fun _ => ⟨fun hm => ⟨by omega, hs x hxm _ _ _, ⟨_, most, w, v, i + 1, rfl, p2, p3, hs, fun h => absurd h (by decide), fun _ => ⟨hlt, ?_⟩⟩, ?_⟩, fun hm => ?_⟩, fun h => by omega⟩
    ·rw [hd, partsTL, if_pos hm]
    ·simp only [Nat.one_ne_zero, if_false]; omega
    ·rw [hd, partsTL, if_neg hm]
   ·simp only [head_kparts_1, Tree.holds, Out.den, E.den, E.denL, dn, List.getD_cons_zero, List.getD_cons_succ, List.length_map, phi_1000, tat_0, tat_1, tat_2, toDT_put]
    refine ⟨fun h => by omega, fun _ => ?_⟩
    rw [List.drop_eq_nil_of_le (by omega), partsTL]
theorem kparts_ok : ∀ (n : Nat), @Ok (I n) q_kparts (okD n)
 | 0 => ok_zero
 | n + 1 => ok_irrel (by decide) (kparts_step n (kparts_ok n))
end Go.Proofs.YtaeeblcdggjokaaGreatDoor.Vk
/- Contracts: strings.Compare, strings.Repeat, num.Cmp, value.pairs. -/
namespace Go.Proofs.YtaeeblcdggjokaaGreatDoor.Vk
open Go Go.Ab Go.RowKit
theorem cat_size (a b : ByteArray) : (a ++ b).size = a.size + b.size := ByteArray.size_append
-- head 0 of loop 0: [t1 .rf 33, t3 .own 83, t7 .sh (.cell (.sl 9)), t8 .sh (.cell (.sc (.i .i64))), t9 .sh (.cell (.sc (.i .i64)))]
-- head 1 of loop 0: [t1 .rf 33, t3 .con (.v (.slice none 0 0)), t7 .sh (.cell (.sl 9)), t8 .sh (.cell (.sc (.i .i64))), t9 .sh (.cell (.sc (.i .i64)))]
end Go.Proofs.YtaeeblcdggjokaaGreatDoor.Vk
/- Contracts: value.order, value.Cmp. -/
namespace Go.Proofs.YtaeeblcdggjokaaGreatDoor.Vk
open Go Go.Ab Go.RowKit
-- head 0 of loop 0: [t0 .sh (.cell (.sl 33)), t1 .sh (.cell (.sl 33)), t2 .sh (.fn 49 []), t13 .sh (.cell (.sc (.i .i64))), t14 .sh (.cell (.sc (.i .i64)))]
-- head 0 of loop 0: [t0 .sh (.cell (.sl 83)), t1 .sh (.cell (.sl 83)), t2 .sh (.fn 83 []), t13 .sh (.cell (.sc (.i .i64))), t14 .sh (.cell (.sc (.i .i64)))]
end Go.Proofs.YtaeeblcdggjokaaGreatDoor.Vk
/- Contracts of the reference: depth, size, lengths, equality. -/
namespace Go.Proofs.YtaeeblcdggjokaaGreatDoor.Vk
open Go Go.Ab Go.RowKit
-- head 0 of loop 0: [t1 .rf 33, t3 .sh (.cell (.sc (.i .i64))), t4 .sh (.cell (.sc (.i .i64)))]
def heads_rdepth : List Hd := [⟨0, [.any, .rf 33, .any, .sh (.cell (.sc (.i .i64))), .sh (.cell (.sc (.i .i64))), .any, .any, .any, .any, .any, .any, .any, .any, .any, .any, .any, .any, .any, .any, .any, .any, .any]⟩]
def entry_rdepth : Tree :=
 (.g 0 [(.r9 .v0), (.i 0), (.i 0)])
def head_rdepth_0 : Tree :=
 (.ite (.lt .v2 (.n (.c 8 .v0)))
 (.giv (.le (.i 0) .v2)
 (.giv (.app 1000 [(.r9 (.a (.c 8 .v0) .v2))])
 (.g 0 [.v0, (.pr .ite [(.gt (.app 44 [(.r9 (.a (.c 8 .v0) .v2))]) .v1), (.app 44 [(.r9 (.a (.c 8 .v0) .v2))]), .v1]), (.pr (.iop .add .i64) [.v2, (.i 1)])])))
 (.rt (.pr (.iop .add .i64) [.v1, (.i 1)])))
def trees_rdepth : List Tree := [head_rdepth_0]
noncomputable def deps_rdepth : List Sig := [q_rdepth]
theorem ok_rdepth : check q_rdepth deps_rdepth heads_rdepth entry_rdepth trees_rdepth = true := by kernel_rfl
theorem rdepth_step (n : Nat) (ih : @Ok (I n) q_rdepth (okD n)) : @Ok (I n) q_rdepth (okD (n + 1)) := by
 letI := I n
 refine fn_ok (hphi n) ok_rdepth (by intro q hq; simp only [deps_rdepth, List.mem_singleton] at hq; subst hq; exact ih)
  (fun _ d ds => ∃ (v : Val) (acc : Int) (i : Nat), ds = [v.toD, iD acc, iD i] /\ i <= v.list.length /\ v.list.length <= lim /\ (∀ x, x ∈ v.list -> okD n [x.toD]) /\ d = iD (wrap (depL acc (v.list.drop i) + 1)))
  (fun _ ds => (ds.getD 0 .nil).val1.list.length - (ds.getD 2 .nil).int.toNat) ?_ ?_
 ·intro ds hf hp
  obtain ⟨v, rfl⟩ := one_val hf
  obtain ⟨h1, h2, h3⟩ := okD_list hp
  simp only [entry_rdepth, Tree.holds, Out.den, E.den, E.denL, dn, List.getD_cons_zero, List.getD_cons_succ, List.length_map, phi_1000]
  refine ⟨v, 0, 0, by simp only [Int.ofNat_zero], Nat.zero_le _, h2, h3, ?_⟩
  simp only [q_rdepth, phi_rdepth]
  rw [depV_eq]; rfl
 ·rintro j h t d ds hj ht hf ⟨v, acc, i, rfl, hi, hl, hs, rfl⟩
  obtain rfl : t = head_rdepth_0 := by
   match j, ht with
   | 0, ht => exact (Option.some.inj ht).symm
  by_cases hlt : i < v.list.length
  ·obtain ⟨x, hx, hxm, hd⟩ := drop_get hlt
   simp only [head_rdepth_0, Tree.holds, Out.den, E.den, E.denL, dn, List.getD_cons_zero, List.getD_cons_succ, List.length_map, phi_1000, rowAt_map hx, phi_rdepth, wrap_succ hlt hl, val1_toD]
   refine ⟨fun _ => ⟨by omega, hs x hxm, ⟨v, if depV x > acc then depV x else acc, i + 1, ?_, hlt, hl, hs, ?_⟩, by omega⟩, fun h => by omega⟩
   ·by_cases hg : depV x > acc
    ·rw [if_pos hg, ltI_t.2 hg]; rfl
    ·rw [if_neg hg, ltI_f.2 hg]; rfl
   ·rw [hd, depL]
  ·simp only [head_rdepth_0, Tree.holds, Out.den, E.den, E.denL, dn, List.getD_cons_zero, List.getD_cons_succ, List.length_map, phi_1000]
   refine ⟨fun h => by omega, fun _ => ?_⟩
   rw [List.drop_eq_nil_of_le (by omega), depL]
theorem rdepth_ok : ∀ (n : Nat), @Ok (I n) q_rdepth (okD n)
 | 0 => ok_zero
 | n + 1 => ok_irrel (by decide) (rdepth_step n (rdepth_ok n))
-- head 0 of loop 0: [t1 .rf 33, t3 .sh (.cell (.sc (.i .i64))), t4 .sh (.cell (.sc (.i .i64)))]
def heads_rsize : List Hd := [⟨0, [.any, .rf 33, .any, .sh (.cell (.sc (.i .i64))), .sh (.cell (.sc (.i .i64))), .any, .any, .any, .any, .any, .any, .any, .any, .any, .any, .any, .any, .any, .any, .any, .any]⟩]
def entry_rsize : Tree :=
 (.g 0 [(.r9 .v0), (.i 1), (.i 0)])
def head_rsize_0 : Tree :=
 (.ite (.lt .v2 (.n (.c 8 .v0)))
 (.giv (.le (.i 0) .v2)
 (.giv (.app 1000 [(.r9 (.a (.c 8 .v0) .v2))])
 (.g 0 [.v0, (.pr (.iop .add .i64) [.v1, (.app 45 [(.r9 (.a (.c 8 .v0) .v2))])]), (.pr (.iop .add .i64) [.v2, (.i 1)])])))
 (.rt .v1))
def trees_rsize : List Tree := [head_rsize_0]
noncomputable def deps_rsize : List Sig := [q_rsize]
theorem ok_rsize : check q_rsize deps_rsize heads_rsize entry_rsize trees_rsize = true := by kernel_rfl
theorem rsize_step (n : Nat) (ih : @Ok (I n) q_rsize (okD n)) : @Ok (I n) q_rsize (okD (n + 1)) := by
 letI := I n
 refine fn_ok (hphi n) ok_rsize (by intro q hq; simp only [deps_rsize, List.mem_singleton] at hq; subst hq; exact ih)
  (fun _ d ds => ∃ (v : Val) (acc : Int) (i : Nat), ds = [v.toD, iD acc, iD i] /\ i <= v.list.length /\ v.list.length <= lim /\ (∀ x, x ∈ v.list -> okD n [x.toD]) /\ d = iD (sizL acc (v.list.drop i)))
  (fun _ ds => (ds.getD 0 .nil).val1.list.length - (ds.getD 2 .nil).int.toNat) ?_ ?_
 ·intro ds hf hp
  obtain ⟨v, rfl⟩ := one_val hf
  obtain ⟨h1, h2, h3⟩ := okD_list hp
  simp only [entry_rsize, Tree.holds, Out.den, E.den, E.denL, dn, List.getD_cons_zero, List.getD_cons_succ, List.length_map, phi_1000]
  refine ⟨v, 1, 0, by simp only [Int.ofNat_zero], Nat.zero_le _, h2, h3, ?_⟩
  simp only [q_rsize, phi_rsize]
  rw [sizV_eq]; rfl
 ·rintro j h t d ds hj ht hf ⟨v, acc, i, rfl, hi, hl, hs, rfl⟩
  obtain rfl : t = head_rsize_0 := by
   match j, ht with
   | 0, ht => exact (Option.some.inj ht).symm
  by_cases hlt : i < v.list.length
  ·obtain ⟨x, hx, hxm, hd⟩ := drop_get hlt
   simp only [head_rsize_0, Tree.holds, Out.den, E.den, E.denL, dn, List.getD_cons_zero, List.getD_cons_succ, List.length_map, phi_1000, rowAt_map hx, phi_rsize, wrap_succ hlt hl, val1_toD]
   refine ⟨fun _ => ⟨by omega, hs x hxm, ⟨v, wrap (acc + sizV x), i + 1, rfl, hlt, hl, hs, ?_⟩, by omega⟩, fun h => by omega⟩
   rw [hd, sizL]
  ·simp only [head_rsize_0, Tree.holds, Out.den, E.den, E.denL, dn, List.getD_cons_zero, List.getD_cons_succ, List.length_map, phi_1000]
   refine ⟨fun h => by omega, fun _ => ?_⟩
   rw [List.drop_eq_nil_of_le (by omega), sizL]
theorem rsize_ok : ∀ (n : Nat), @Ok (I n) q_rsize (okD n)
 | 0 => ok_zero
 | n + 1 => ok_irrel (by decide) (rsize_step n (rsize_ok n))
theorem shortL_iff : ∀ (l : List Val) (i : Nat), ¬ shortL l i ≥ 0 ↔ l.all shortV = true
 | [], i => by rw [shortL]; simp
 | v :: r, i => by
  rw [shortL, List.all_cons]
  cases shortV v with
  | false => simp
  | true => simp only [if_true, Bool.true_and]; exact shortL_iff r (i + 1)
theorem ixL_iff {α : Type} (p : α -> Bool) : ∀ (l : List α) (i : Nat), ¬ ixL p l i ≥ 0 ↔ l.any p = false
 | [], i => by rw [ixL]; simp
 | v :: r, i => by
  rw [ixL, List.any_cons]
  cases p v with
  | true => simp
  | false => simp only [Bool.false_eq_true, if_false, Bool.false_or]; exact ixL_iff p r (i + 1)
def longS (s : ByteArray) : Bool := decide ((s.size : Int) > 64)
theorem shortV_iff (v : Val) : shortV v = true ↔ ¬ (v.text.size : Int) > (if v.kind = 9 then 64 else 4096) /\ ¬ (v.list.length : Int) > 256 /\ v.names.any longS = false /\ v.list.all shortV = true := by
 cases v with
 | mk k f ng d e b t ns l =>
  simp only [Val.text, Val.kind, Val.list, Val.names]
  have h1 := shortL_iff l 0
  have h2 := ixL_iff longS ns 0
  rw [shortV]
  by_cases c1 : (t.size : Int) > (if k = 9 then 64 else 4096)
  ·rw [if_pos c1]; exact ⟨fun h => (by cases h), fun h => absurd c1 h.1⟩
  rw [if_neg c1]
  by_cases c2 : (l.length : Int) > 256
  ·rw [if_pos c2]; exact ⟨fun h => (by cases h), fun h => absurd c2 h.2.1⟩
  rw [if_neg c2]
  show (if ixL longS ns 0 ≥ 0 then false else !decide (shortL l 0 ≥ 0)) = true ↔ _
  by_cases c3 : ixL longS ns 0 ≥ 0
  ·rw [if_pos c3]
   have : ¬ ns.any longS = false := fun h => (h2.2 h) c3
   simp [this]
  ·rw [if_neg c3]
   have := h2.1 c3
   rw [Bool.not_eq_true', decide_eq_false_iff_not, h1]
   exact ⟨fun h => ⟨c1, c2, this, h⟩, fun h => h.2.2.2⟩
-- head 0 of loop 0: [t1 .rf 33, t4 .sh (.cell (.sc (.i .i64)))]
-- head 1 of loop 1: [t1 .rf 33, t5 .sh (.cell (.sc (.i .i64)))]
def heads_rshort : List Hd := [⟨0, [.any, .rf 33, .any, .any, .sh (.cell (.sc (.i .i64))), .any, .any, .any, .any, .any, .any, .any, .any, .any, .any, .any, .any, .any, .any, .any, .any, .any, .any, .any, .any, .any, .any, .any, .any, .any, .any, .any, .any, .any, .any, .any, .any, .any, .any, .any, .any, .any, .any, .any, .any, .any, .any, .any]⟩, ⟨1, [.any, .rf 33, .any, .any, .any, .sh (.cell (.sc (.i .i64))), .any, .any, .any, .any, .any, .any, .any, .any, .any, .any, .any, .any, .any, .any, .any, .any, .any, .any, .any, .any, .any, .any, .any, .any, .any, .any, .any, .any, .any, .any, .any, .any, .any, .any, .any, .any, .any, .any, .any, .any, .any, .any]⟩]
def entry_rshort : Tree :=
 (.ite (.eq (.c 0 .v0) (.i 9))
 (.ite (.gt (.pr .slen [(.c 6 .v0)]) (.i 64)) .no
 (.ite (.gt (.n (.c 8 .v0)) (.i 256)) .no
 (.g 0 [(.r9 .v0), (.i 0)])))
 (.ite (.gt (.pr .slen [(.c 6 .v0)]) (.i 4096)) .no
 (.ite (.gt (.n (.c 8 .v0)) (.i 256)) .no
 (.g 0 [(.r9 .v0), (.i 0)]))))
def head_rshort_0 : Tree :=
 (.ite (.lt .v1 (.n (.c 7 .v0)))
 (.giv (.le (.i 0) .v1)
 (.ite (.gt (.pr .slen [(.c 0 (.a (.c 7 .v0) .v1))]) (.i 64)) .no
 (.g 0 [.v0, (.pr (.iop .add .i64) [.v1, (.i 1)])])))
 (.g 1 [.v0, (.i 0)]))
def head_rshort_1 : Tree :=
 (.ite (.lt .v1 (.n (.c 8 .v0)))
 (.giv (.le (.i 0) .v1)
 (.giv (.app 1000 [(.r9 (.a (.c 8 .v0) .v1))])
 (.ite (.app 46 [(.r9 (.a (.c 8 .v0) .v1))])
 (.g 1 [.v0, (.pr (.iop .add .i64) [.v1, (.i 1)])]) .no))) .ye)
def trees_rshort : List Tree := [head_rshort_0, head_rshort_1]
noncomputable def deps_rshort : List Sig := [q_rshort]
theorem ok_rshort : check q_rshort deps_rshort heads_rshort entry_rshort trees_rshort = true := by kernel_rfl
theorem rshort_step (n : Nat) (ih : @Ok (I n) q_rshort (okD n)) : @Ok (I n) q_rshort (okD (n + 1)) := by
 letI := I n
 refine fn_ok (hphi n) ok_rshort (by intro q hq; simp only [deps_rshort, List.mem_singleton] at hq; subst hq; exact ih)
  (fun j d ds => ∃ (v : Val) (i : Nat), ds = [v.toD, iD i] /\ v.list.length <= lim /\ v.names.length <= lim /\ (∀ x, x ∈ v.list -> okD n [x.toD]) /\
   ((j = 0 /\ i <= v.names.length /\ d = bD (!(v.names.drop i).any longS && v.list.all shortV)) \/ (j = 1 /\ i <= v.list.length /\ d = bD ((v.list.drop i).all shortV))))
  (fun j ds => if j = 0 then (ds.getD 0 .nil).val1.list.length + 1 + ((ds.getD 0 .nil).val1.names.length - (ds.getD 1 .nil).int.toNat) else (ds.getD 0 .nil).val1.list.length - (ds.getD 1 .nil).int.toNat) ?_ ?_
 ·intro ds hf hp
  obtain ⟨v, rfl⟩ := one_val hf
  obtain ⟨h1, h2, h3⟩ := okD_list hp
  have hn := (lim_strs.1 ((lim_toD v).1 (okD_one.1 hp).2).2.2.1).1
  have hv := shortV_iff v
  simp only [entry_rshort, Tree.holds, Out.den, E.den, E.denL, dn, List.getD_cons_zero, List.getD_cons_succ, List.length_map, phi_1000, q_rshort, phi_rshort]
  have k : ∀ c1 : ¬ (v.text.size : Int) > (if v.kind = 9 then 64 else 4096), ∀ c2 : ¬ (v.list.length : Int) > 256, shortV v = (!(v.names.drop 0).any longS && v.list.all shortV) := fun c1 c2 => by
   rw [Bool.eq_iff_iff, hv, List.drop_zero, Bool.and_eq_true, Bool.not_eq_true']
   simp [c1, c2]
  refine ⟨fun h9 => ⟨fun h => ?_, fun h => ⟨fun h' => ?_, fun h' => ⟨v, 0, rfl, h2, hn, h3, ?_⟩⟩⟩, fun h9 => ⟨fun h => ?_, fun h => ⟨fun h' => ?_, fun h' => ⟨v, 0, rfl, h2, hn, h3, ?_⟩⟩⟩⟩
  ·rw [Bool.eq_false_iff.2 fun e => (hv.1 e).1 (by rw [if_pos h9]; exact h)]
  ·rw [Bool.eq_false_iff.2 fun e => (hv.1 e).2.1 h']
  ·exact .inl ⟨Nat.zero_le _, by rw [k (by rw [if_pos h9]; exact h) h']⟩
  ·rw [Bool.eq_false_iff.2 fun e => (hv.1 e).1 (by rw [if_neg h9]; exact h)]
  ·rw [Bool.eq_false_iff.2 fun e => (hv.1 e).2.1 h']
  ·exact .inl ⟨Nat.zero_le _, by rw [k (by rw [if_neg h9]; exact h) h']⟩
 ·rintro j h t d ds hj ht hf ⟨v, i, rfl, hl, hn, hs, ⟨rfl, hi, rfl⟩ | ⟨rfl, hi, rfl⟩⟩
  ·obtain rfl : t = head_rshort_0 := (Option.some.inj ht).symm
   by_cases hlt : i < v.names.length
   ·obtain ⟨x, hx, hxm, hd⟩ := drop_get hlt
    simp only [head_rshort_0, Tree.holds, Out.den, E.den, E.denL, dn, List.getD_cons_zero, List.getD_cons_succ, List.length_map, phi_1000, rowAt_map hx, wrap_succ hlt hn, val1_toD]
    rw [hd, List.any_cons]
    refine ⟨fun _ => ⟨by omega, fun hb => ?_, fun hb => ⟨⟨v, i + 1, rfl, hl, hn, hs, .inl ⟨hlt, ?_⟩⟩, ?_⟩⟩, fun h => by omega⟩
    ·rw [show longS x = true from decide_eq_true hb]; rfl
    ·rw [show longS x = false from decide_eq_false hb]; rfl
    ·simp only [if_true]; omega
   ·simp only [head_rshort_0, Tree.holds, Out.den, E.den, E.denL, dn, List.getD_cons_zero, List.getD_cons_succ, List.length_map, phi_1000, val1_toD]
    refine ⟨fun h => by omega, fun _ => ⟨⟨v, 0, rfl, hl, hn, hs, .inr ⟨Nat.zero_le _, ?_⟩⟩, ?_⟩⟩
    ·rw [List.drop_eq_nil_of_le (by omega), List.drop_zero]; rfl
    ·simp only [if_true]; rw [if_neg (by decide)]; omega
  ·obtain rfl : t = head_rshort_1 := (Option.some.inj ht).symm
   by_cases hlt : i < v.list.length
   ·obtain ⟨x, hx, hxm, hd⟩ := drop_get hlt
    simp only [head_rshort_1, Tree.holds, Out.den, E.den, E.denL, dn, List.getD_cons_zero, List.getD_cons_succ, List.length_map, phi_1000, rowAt_map hx, wrap_succ hlt hl, val1_toD, phi_rshort]
    rw [hd, List.all_cons]
    refine ⟨fun _ => ⟨by omega, hs x hxm, fun hb => ⟨⟨v, i + 1, rfl, hl, hn, hs, .inr ⟨hlt, ?_⟩⟩, ?_⟩, fun hb => ?_⟩, fun h => by omega⟩
    ·rw [hb]; rfl
    ·rw [if_neg (by decide), if_neg (by decide)]; omega
    ·rw [hb]; rfl
   ·simp only [head_rshort_1, Tree.holds, Out.den, E.den, E.denL, dn, List.getD_cons_zero, List.getD_cons_succ, List.length_map, phi_1000]
    refine ⟨fun h => by omega, fun _ => ?_⟩
    rw [List.drop_eq_nil_of_le (by omega)]; rfl
theorem rshort_ok : ∀ (n : Nat), @Ok (I n) q_rshort (okD n)
 | 0 => ok_zero
 | n + 1 => ok_irrel (by decide) (rshort_step n (rshort_ok n))
-- head 0 of loop 0: [t2 .rf 33, t3 .rf 33, t5 .sh (.cell (.sc (.i .i64)))]
-- head 1 of loop 1: [t2 .rf 33, t3 .rf 33, t6 .sh (.cell (.sc (.i .i64)))]
end Go.Proofs.YtaeeblcdggjokaaGreatDoor.Vk
/- Contracts of the reference: names, digits. -/
namespace Go.Proofs.YtaeeblcdggjokaaGreatDoor.Vk
open Go Go.Ab Go.RowKit
theorem nodup_iff {α : Type} (l : List α) : l.Nodup ↔ ∀ a b, a < b -> b < l.length -> l[a]? ≠ l[b]? := by
 unfold List.Nodup
 rw [List.pairwise_iff_getElem]
 constructor
 ·intro h a b hab hb e
  rw [List.getElem?_eq_getElem (by omega), List.getElem?_eq_getElem hb] at e
  exact h a b (by omega) hb hab (Option.some.inj e)
 ·intro h i j hi hj hij e
  exact h i j hij hj (by rw [List.getElem?_eq_getElem hi, List.getElem?_eq_getElem hj, e])
theorem one_str {d : List D} (h : FitL tb [.cell (.sc .s)] d) : ∃ s, d = [sD s] := by
 match d, h with
 | [a], ⟨h1, _⟩ =>
  obtain ⟨l, rfl⟩ := fits_str h1
  exact ⟨l, rfl⟩
-- head 0 of loop 0: [t0 .sh (.cell (.sl 9)), t3 .sh (.cell (.sc (.i .i64)))]
-- head 1 of loop 1: [t0 .sh (.cell (.sl 9)), t3 .sh (.cell (.sc (.i .i64))), t4 .sh (.cell (.sc (.i .i64)))]
def heads_runlike : List Hd := [⟨0, [.sh (.cell (.sl 9)), .any, .any, .sh (.cell (.sc (.i .i64))), .any, .any, .any, .any, .any, .any, .any, .any, .any, .any, .any, .any, .any, .any, .any, .any, .any, .any, .any, .any, .any]⟩, ⟨1, [.sh (.cell (.sl 9)), .any, .any, .sh (.cell (.sc (.i .i64))), .sh (.cell (.sc (.i .i64))), .any, .any, .any, .any, .any, .any, .any, .any, .any, .any, .any, .any, .any, .any, .any, .any, .any, .any, .any, .any]⟩]
def entry_runlike : Tree :=
 (.g 0 [.v0, (.i 0)])
def head_runlike_0 : Tree :=
 (.ite (.lt .v1 (.n .v0))
 (.g 1 [.v0, .v1, (.i 0)]) .ye)
def head_runlike_1 : Tree :=
 (.ite (.lt .v2 .v1)
 (.giv (.le (.i 0) .v1)
 (.giv (.lt .v1 (.n .v0))
 (.giv (.le (.i 0) .v2)
 (.giv (.lt .v2 (.n .v0))
 (.ite (.pr (.scmp .eql) [(.c 0 (.a .v0 .v1)), (.c 0 (.a .v0 .v2))]) .no
 (.g 1 [.v0, .v1, (.pr (.iop .add .i64) [.v2, (.i 1)])]))))))
 (.g 0 [.v0, (.pr (.iop .add .i64) [.v1, (.i 1)])]))
def trees_runlike : List Tree := [head_runlike_0, head_runlike_1]
noncomputable def deps_runlike : List Sig := []
theorem ok_runlike : check q_runlike deps_runlike heads_runlike entry_runlike trees_runlike = true := by kernel_rfl
theorem runlike_ok (n : Nat) : @Ok (I n) q_runlike (okD n) := by
 letI := I n
 refine fn_ok (hphi n) ok_runlike (by intro q hq; simp [deps_runlike] at hq)
  (fun j d ds => ∃ (l : List ByteArray) (i k : Nat), l.length <= lim /\ d = bD (decide l.Nodup) /\ (∀ a b, a < b -> b < i -> l[a]? ≠ l[b]?) /\
   ((j = 0 /\ i <= l.length /\ ds = [strsD l, iD i]) \/ (j = 1 /\ i < l.length /\ k <= i /\ (∀ a, a < k -> l[a]? ≠ l[i]?) /\ ds = [strsD l, iD i, iD k])))
  (fun j ds => let L := (ds.getD 0 .nil).rows.length; let i := (ds.getD 1 .nil).int.toNat
   if j = 0 then (L - i) * (L + 2) else (L - i) * (L + 2) - 1 - (ds.getD 2 .nil).int.toNat) ?_ ?_
 ·intro ds hf hp
  obtain ⟨l, rfl⟩ := one_strs hf
  have hl := (lim_strs.1 (okD_one.1 hp).2).1
  simp only [entry_runlike, Tree.holds, Out.den, E.den, E.denL, dn, List.getD_cons_zero, List.getD_cons_succ, List.length_map, phi_1000, q_runlike, phi_runlike]
  exact ⟨l, 0, 0, hl, rfl, fun a b _ h => by omega, .inl ⟨Nat.zero_le _, rfl⟩⟩
 ·rintro j h t d ds hj ht hf ⟨l, i, k, hl, rfl, hn, ⟨rfl, hi, rfl⟩ | ⟨rfl, hi, hk, hx, rfl⟩⟩
  ·obtain rfl : t = head_runlike_0 := (Option.some.inj ht).symm
   simp only [head_runlike_0, Tree.holds, Out.den, E.den, E.denL, dn, List.getD_cons_zero, List.getD_cons_succ, List.length_map, phi_1000]
   refine ⟨fun h => ⟨⟨l, i, 0, hl, rfl, hn, .inr ⟨by omega, Nat.zero_le _, fun a ha => by omega, rfl⟩⟩, ?_⟩, fun h => ?_⟩
   ·simp only [if_true]
    rw [if_neg (by decide)]
    have : 1 * (l.length + 2) <= (l.length - i) * (l.length + 2) := Nat.mul_le_mul_right _ (by omega)
    simp only [Int.toNat_natCast, Int.toNat_zero]
    omega
   ·rw [decide_eq_true ((nodup_iff l).2 fun a b h1 h2 => hn a b h1 (by omega))]
  ·obtain rfl : t = head_runlike_1 := (Option.some.inj ht).symm
   obtain ⟨x, hxi, _, _⟩ := drop_get hi
   have hm : 1 * (l.length + 2) <= (l.length - i) * (l.length + 2) := Nat.mul_le_mul_right _ (by omega)
   by_cases hlt : k < i
   ·obtain ⟨y, hyk, _, _⟩ := drop_get (show k < l.length by omega)
    simp only [head_runlike_1, Tree.holds, Out.den, E.den, E.denL, dn, List.getD_cons_zero, List.getD_cons_succ, List.length_map, phi_1000, rowAt_map hxi, rowAt_map hyk, wrap_succ hi hl, wrap_succ (show k < l.length by omega) hl]
    refine ⟨fun _ => ⟨by omega, by omega, by omega, by omega, fun hb => ?_, fun hb => ⟨⟨l, i, k + 1, hl, rfl, hn, .inr ⟨hi, hlt, ?_, rfl⟩⟩, ?_⟩⟩, fun h => by omega⟩
    ·rw [decide_eq_false fun hd => (nodup_iff l).1 hd k i hlt hi (by rw [hxi, hyk, hb])]
    ·intro a ha
     rcases Nat.lt_or_ge a k with h | h
     ·exact hx a h
     ·obtain rfl : a = k := by omega
      rw [hxi, hyk]; intro e; exact hb (Option.some.inj e).symm
    ·rw [if_neg (by decide), if_neg (by decide)]
     simp only [Int.toNat_natCast]
     omega
   ·obtain rfl : k = i := by omega
    simp only [head_runlike_1, Tree.holds, Out.den, E.den, E.denL, dn, List.getD_cons_zero, List.getD_cons_succ, List.length_map, phi_1000, wrap_succ hi hl]
    refine ⟨fun h => by omega, fun _ => ⟨⟨l, k + 1, 0, hl, rfl, fun a b h1 h2 => ?_, .inl ⟨hi, rfl⟩⟩, ?_⟩⟩
    ·rcases Nat.lt_or_ge b k with h | h
     ·exact hn a b h1 h
     ·obtain rfl : b = k := by omega
      exact hx a h1
    ·rw [if_pos trivial, if_neg (by decide)]
     simp only [Int.toNat_natCast]
     have e : l.length - k = (l.length - (k + 1)) + 1 := by omega
     rw [e, Nat.add_mul]
     omega
-- head 0 of loop 0: [t0 .sh (.cell (.sc .s)), t3 .sh (.cell (.sc (.i .i64)))]
def heads_rall : List Hd := [⟨0, [.sh (.cell (.sc .s)), .any, .any, .sh (.cell (.sc (.i .i64))), .any, .any, .any, .any, .any, .any, .any, .any, .any, .any, .any, .any, .any, .any, .any, .any, .any, .any, .any]⟩]
def entry_rall : Tree :=
 (.g 0 [.v0, (.i 0)])
def head_rall_0 : Tree :=
 (.ite (.lt .v1 (.pr .slen [.v0]))
 (.giv (.le (.i 0) .v1)
 (.ite (.lt (.pr .sat [.v0, .v1]) (.lit (.int .u8 48))) .no
 (.ite (.gt (.pr .sat [.v0, .v1]) (.lit (.int .u8 57))) .no
 (.g 0 [.v0, (.pr (.iop .add .i64) [.v1, (.i 1)])]))))
 (.rt (.gt (.pr .slen [.v0]) (.i 0))))
def trees_rall : List Tree := [head_rall_0]
noncomputable def deps_rall : List Sig := []
theorem ok_rall : check q_rall deps_rall heads_rall entry_rall trees_rall = true := by kernel_rfl
def isDig (c : UInt8) : Bool := decide (48 <= c.toNat /\ c.toNat <= 57)
theorem size_len (s : ByteArray) : s.size = s.data.toList.length := by rw [Array.length_toList]; rfl
theorem rall_ok (n : Nat) : @Ok (I n) q_rall (okD n) := by
 letI := I n
 refine fn_ok (hphi n) ok_rall (by intro q hq; simp [deps_rall] at hq)
  (fun j d ds => ∃ (s : ByteArray) (i : Nat), ds = [sD s, iD i] /\ i <= s.size /\ s.size <= lim /\ d = bD ((s.data.toList.drop i).all isDig && decide (s.data.toList ≠ [])))
  (fun j ds => (ds.getD 0 .nil).str.size - (ds.getD 1 .nil).int.toNat) ?_ ?_
 ·intro ds hf hp
  obtain ⟨s, rfl⟩ := one_str hf
  have hl := lim_sD.1 (okD_one.1 hp).2
  simp only [entry_rall, Tree.holds, Out.den, E.den, E.denL, dn, List.getD_cons_zero, List.getD_cons_succ, List.length_map, phi_1000, q_rall, phi_rall]
  exact ⟨s, 0, rfl, Nat.zero_le _, hl, rfl⟩
 ·rintro j h t d ds hj ht hf ⟨s, i, rfl, hi, hl, rfl⟩
  obtain rfl : t = head_rall_0 := by
   match j, ht with
   | 0, ht => exact (Option.some.inj ht).symm
  by_cases hlt : i < s.size
  ·obtain ⟨x, hx, _, hd⟩ := drop_get (show i < s.data.toList.length by rw [<- size_len]; exact hlt)
   have hx' : s.data.toList.getD i 0 = x := by rw [List.getD_eq_getElem?_getD, hx]; rfl
   simp only [head_rall_0, Tree.holds, Out.den, E.den, E.denL, dn, List.getD_cons_zero, List.getD_cons_succ, List.length_map, phi_1000, wrap_succ hlt hl, Int.toNat_natCast, hx']
   rw [hd, List.all_cons]
   refine ⟨fun _ => ⟨by omega, fun hb => ?_, fun hb => ⟨fun hc => ?_, fun hc => ⟨⟨s, i + 1, rfl, hlt, hl, ?_⟩, by omega⟩⟩⟩, fun h => by omega⟩
   ·rw [show isDig x = false from decide_eq_false fun h => by omega]; rfl
   ·rw [show isDig x = false from decide_eq_false fun h => by omega]; rfl
   ·rw [show isDig x = true from decide_eq_true ⟨by omega, by omega⟩]; rfl
  ·simp only [head_rall_0, Tree.holds, Out.den, E.den, E.denL, dn, List.getD_cons_zero, List.getD_cons_succ, List.length_map, phi_1000]
   refine ⟨fun h => by omega, fun _ => ?_⟩
   rw [List.drop_eq_nil_of_le (by rw [<- size_len]; omega)]
   have : ltI 0 s.size = decide (s.data.toList ≠ []) := by
    rw [Bool.eq_iff_iff, ltI_t, decide_eq_true_iff, size_len]
    rw [ne_eq, <- List.length_eq_zero_iff]
    omega
   rw [this]; rfl
end Go.Proofs.YtaeeblcdggjokaaGreatDoor.Vk
