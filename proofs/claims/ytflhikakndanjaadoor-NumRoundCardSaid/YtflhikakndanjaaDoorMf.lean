/- Merged own texts, without what this claim does not use. -/
import Derived.Test.YtflhikakndanjaaDoorMd
import Derived.Test.YtflhikakndanjaaDoorMe
import Derived.Test.YtflhikakndanjaaDoorRows
import Derived.KernelRfl
import Derived.Lib.SlTrimSet
import Derived.Lib.ValidLaws
import Derived.Lib.Bytealg
import Derived.Shelf.Strings.Builder1
import Derived.Shelf.Strings.Builder2
import Derived.Shelf.Strings.Trim
import Derived.Shelf.Small.Utf8
import Derived.Shelf.Small.Strs
import Derived.Shelf.Strings.BuilderF
import Derived.Shelf.Strconv.Atoi
import Derived.Shelf.Strconv.Itoa0
import Derived.Shelf.Strconv.Itoa1
import Derived.Shelf.LaysM
import Derived.Shelf.Strconv.Itoa2
import Derived.Shelf.Strconv.Itoa3
import Derived.Shelf.Strings.Search1
import Derived.Shelf.Strings.Prefix
import Derived.Shelf.Strings.Runes
import Derived.Shelf.Strings.AsciiSet
import Derived.Shelf.Bits.Mul64
import Derived.Shelf.Strings.Repeat
import Derived.Shelf.Unicode.DecodeSlow
import Derived.Shelf.Strings.SlTrimAscii
import Derived.Test.YtflhikakndanjaaDoorProg
import Derived.Lib.Repeat
import Derived.Lib.AtoiErrMem
set_option maxRecDepth 100000
set_option linter.unusedVariables false
set_option linter.unusedSimpArgs false
set_option linter.unusedSectionVars false
set_option linter.constructorNameAsVariable false
namespace Go.Ab
def E.v0 : E := .var 0
def E.v1 : E := .var 1
def E.v2 : E := .var 2
def E.v3 : E := .var 3
def E.v4 : E := .var 4
def E.v5 : E := .var 5
def E.v6 : E := .var 6
def E.v7 : E := .var 7
def E.v8 : E := .var 8
def E.i (x : Int) : E := .lit (.int .i64 x)
def E.c (k : Nat) (x : E) : E := .pr (.cell k) [x]
def E.n (x : E) : E := .pr .len [x]
def E.a (x y : E) : E := .pr .at [x, y]
def E.lt (x y : E) : E := .pr (.icmp .lss) [x, y]
def E.le (x y : E) : E := .pr (.icmp .leq) [x, y]
def E.eq (x y : E) : E := .pr (.icmp .eql) [x, y]
def E.ge (x y : E) : E := .pr (.icmp .geq) [x, y]
def E.gt (x y : E) : E := .pr (.icmp .gtr) [x, y]
def E.ne (x y : E) : E := .pr (.icmp .neq) [x, y]
def E.r3 (x : E) : E := .pr .row [.pr (.cell 0) [x], .pr (.cell 1) [x], .pr (.cell 2) [x]]
def Tree.no : Tree := .leaf (.ret (.lit (.bool false)))
def Tree.ye : Tree := .leaf (.ret (.lit (.bool true)))
def Tree.rt (x : E) : Tree := .leaf (.ret x)
def Tree.g (j : Nat) (x : List E) : Tree := .leaf (.go j x)
theorem dt : (E.v0 = E.var 0) /\ (E.v1 = E.var 1) /\ (E.v2 = E.var 2) /\ (E.v3 = E.var 3) /\ (E.v4 = E.var 4) /\ (E.v5 = E.var 5) /\ (E.v6 = E.var 6) /\ (E.v7 = E.var 7) /\ (E.v8 = E.var 8) /\ (∀ (x : Int), E.i x = E.lit (.int .i64 x)) /\ (∀ (k : Nat) (x : E), E.c k x = E.pr (.cell k) [x]) /\ (∀ (x : E), E.n x = E.pr .len [x]) /\ (∀ (x y : E), E.a x y = E.pr .at [x, y]) /\ (∀ (x y : E), E.lt x y = E.pr (.icmp .lss) [x, y]) /\ (∀ (x y : E), E.le x y = E.pr (.icmp .leq) [x, y]) /\ (∀ (x y : E), E.eq x y = E.pr (.icmp .eql) [x, y]) /\ (∀ (x y : E), E.ge x y = E.pr (.icmp .geq) [x, y]) /\ (∀ (x y : E), E.gt x y = E.pr (.icmp .gtr) [x, y]) /\ (∀ (x y : E), E.ne x y = E.pr (.icmp .neq) [x, y]) /\ (∀ (x : E), E.r3 x = E.pr .row [.pr (.cell 0) [x], .pr (.cell 1) [x], .pr (.cell 2) [x]]) /\ (Tree.no = Tree.leaf (.ret (.lit (.bool false)))) /\ (Tree.ye = Tree.leaf (.ret (.lit (.bool true)))) /\ (∀ (x : E), Tree.rt x = Tree.leaf (.ret x)) /\ (∀ (j : Nat) (x : List E), Tree.g j x = Tree.leaf (.go j x)) := ⟨rfl, rfl, rfl, rfl, rfl, rfl, rfl, rfl, rfl, fun _ => rfl, fun _ _ => rfl, fun _ => rfl, fun _ _ => rfl, fun _ _ => rfl, fun _ _ => rfl, fun _ _ => rfl, fun _ _ => rfl, fun _ _ => rfl, fun _ _ => rfl, fun _ => rfl, rfl, rfl, fun _ => rfl, fun _ _ => rfl⟩
theorem dn : type_of% (And.intro @den1 (And.intro @den2 (And.intro @den3 (And.intro @den4 (And.intro @den5 (And.intro @den6 (And.intro @den7 (And.intro @den8 (And.intro @Bool.not_eq_true' (And.intro @Bool.not_eq_false' (And.intro @true_and (And.intro @and_true (dt))))))))))))) := And.intro @den1 (And.intro @den2 (And.intro @den3 (And.intro @den4 (And.intro @den5 (And.intro @den6 (And.intro @den7 (And.intro @den8 (And.intro @Bool.not_eq_true' (And.intro @Bool.not_eq_false' (And.intro @true_and (And.intro @and_true (dt))))))))))))
end Go.Ab
/- The seat's functions by their ways: what is asked for one of them, and what all share. -/
namespace Go.Proofs.YtflhikakndanjaaDoor.Vk
open Go Go.Ab Go.RowKit
theorem noNum : NoNum Tryd.prog := by
 have h : (Tryd.prog.funcs.all fun fn => !(fn.name == "runtime.NumGoroutine")) = true := by kernel_rfl
 intro f fn hf
 have := Array.all_eq_true_iff_forall_mem.1 h fn (Array.mem_of_getElem? hf)
 simpa using this
noncomputable def tabs : List (Nat × List Value) := laidTabs Tryd.prog Rows.numRoundRow.laid
theorem tabs_nodup : (tabs.map (·.1)).Nodup := of_decide_eq_true (by kernel_rfl)
theorem tabs_plain : (tabs.all fun x => x.2.all scalar) = true := by kernel_rfl
def tb : List (Nat × List CT) := [(29, [.sc (.i .i64), .sc .b, .sc .b, .sc .s, .sc (.i .i64), .sc (.i .u64), .sc .s, .sl 9, .sl 29]), (9, [.sc .s]), (24, [.sc .b, .sc .s, .sc (.i .i64)]), (55, [.sc (.i .i64), .sl 9, .sl 55]), (3, [.sc (.i .i64)]), (5, [.sc (.i .u8)])]
def muL : List Nat := [93, 91, 45, 44, 46]
def muF (f : Nat) : Bool := muL.any (Nat.beq f)
def q_numcheck : Sig := { f := 42, g := 5, args := [(.row 24)], res := [(.cell (.sc (.i .i64)))] }
def q_trim : Sig := { f := 121, g := 6, args := [(.cell (.sc .s)), (.lit (mkS [48, 49, 50, 51, 52, 53, 54, 55, 56, 57]))], res := [(.cell (.sc .s))] }
def q_repeat : Sig := { f := 86, g := 20, args := [(.lit (mkS [48])), (.cell (.sc (.i .i64)))], res := [(.cell (.sc .s))] }
def q_trimleft : Sig := { f := 80, g := 77, args := [(.cell (.sc .s)), (.lit (mkS [48, 49, 50, 51, 52, 53, 54, 55, 56, 57]))], res := [(.cell (.sc .s))] }
def q_trimzero : Sig := { f := 80, g := 78, args := [(.cell (.sc .s)), (.lit (mkS [48]))], res := [(.cell (.sc .s))] }
def q_trimrzero : Sig := { f := 128, g := 79, args := [(.cell (.sc .s)), (.lit (mkS [48]))], res := [(.cell (.sc .s))] }
def q_itoa : Sig := { f := 87, g := 81, args := [(.cell (.sc (.i .i64)))], res := [(.cell (.sc .s))] }
def q_cutminus : Sig := { f := 76, g := 83, args := [(.cell (.sc .s)), (.lit (mkS [45]))], res := [(.cell (.sc .s)), (.cell (.sc .b))] }
def q_cutdot : Sig := { f := 76, g := 84, args := [(.cell (.sc .s)), (.lit (mkS [46]))], res := [(.cell (.sc .s)), (.cell (.sc .b))] }
def q_hasminus : Sig := { f := 78, g := 85, args := [(.cell (.sc .s)), (.lit (mkS [45]))], res := [(.cell (.sc .b))] }
def q_hasplus : Sig := { f := 78, g := 86, args := [(.cell (.sc .s)), (.lit (mkS [43]))], res := [(.cell (.sc .b))] }
def q_ndigits : Sig := { f := 79, g := 87, args := [(.cell (.sc .s))], res := [(.cell (.sc .b))] }
def q_nmade : Sig := { f := 82, g := 88, args := [(.cell (.sc .b)), (.cell (.sc .s)), (.cell (.sc (.i .i64)))], res := [(.row 24), (.cell (.sc (.i .i64)))] }
def q_nfront : Sig := { f := 77, g := 89, args := [(.cell (.sc .s))], res := [(.cell (.sc .s)), (.cell (.sc .s))] }
def q_nparse : Sig := { f := 37, g := 90, args := [(.cell (.sc .s))], res := [(.row 24), (.cell (.sc (.i .i64)))] }
def q_nprint : Sig := { f := 39, g := 91, args := [(.row 24)], res := [(.cell (.sc .s)), (.cell (.sc (.i .i64)))] }
def q_nof : Sig := { f := 45, g := 94, args := [(.cell (.sc .b)), (.cell (.sl 5))], res := [(.row 24), (.cell (.sc (.i .i64)))] }
def q_nbytes : Sig := { f := 44, g := 95, args := [(.row 24)], res := [(.cell (.sl 5)), (.cell (.sc (.i .i64)))] }
def q_nawake : Sig := { f := 41, g := 112, args := [], res := [(.cell (.sc .b))] }
def q_nround : Sig := { f := 11, g := 116, args := [(.row 24), (.cell (.sc .s))], res := [(.cell (.sc .b))] }
def q_atoi : SigM := { f := 81, g := 80, args := [.sh (.cell (.sc .s))], res := [.sh (.cell (.sc (.i .i64))), .con (.v .nilIface)], back := [], backE := [], pan := none }
def q_reverse : SigM := { f := 93, g := 82, args := [.ar 5], res := [], back := [0], backE := [.ar 5], pan := none }
def special (g : Nat) : Bool := match g with | 20 | 21 | 23 | 24 | 25 | 26 | 33 | 35 | 37 | 38 | 39 | 43 | 47 | 49 | 50 | 51 | 56 | 64 | 65 | 68 | 69 | 80 | 81 | 82 | 90 | 94 | 98 | 100 | 101 | 102 | 105 | 106 | 109 | 111 | 127 | 130 | 132 | 133 | 134 | 135 | 137 | 139 => true | _ => false
def needK (g : Nat) (es : List E) : List E := bif special g then [.app 1000 es, .app (2000 + g) es] else [.app 1000 es]
noncomputable def orcL : List Sig -> Ab.Call
 | [] => noOrc
 | q :: r => orElse (ctrOrc tb q (needK q.g)) (orcL r)
noncomputable def selfL (deps : List Sig) : Ab.Call := evFn Tryd.prog (tabsG tabs) muF (evDrawnX Tryd.prog (tabsG tabs)) 400 (orcL deps) 40
noncomputable def runL (deps : List Sig) : Code -> Tm -> St -> Option (Ex × Tm × St) := evCode Tryd.prog (tabsG tabs) (evDrawnX Tryd.prog (tabsG tabs)) (selfL deps) false 400
noncomputable def checkHeads (q : Sig) (fn : Func) (c : Code) (deps : List Sig) (heads : List Hd) : List Tree -> Nat -> Bool
 | [], j => Nat.beq heads.length j
 | t :: r, j => t.ok (runHead Tryd.prog (tabsG tabs) muF (runL deps) tb q fn c heads 400 j) [] && checkHeads q fn c deps heads r (j + 1)
noncomputable def check (q : Sig) (deps : List Sig) (heads : List Hd) (entry : Tree) (trees : List Tree) : Bool :=
 match Tryd.prog.funcs[q.f]? with
 | some fn =>
  match fn.body with
  | some c => Nat.ble (q.args.length + fn.ntmps) Tr.lid && (heads.all fun h => Nat.ble h.ents.length Tr.lid) && entry.ok (runEntry Tryd.prog (tabsG tabs) muF (runL deps) tb q fn c heads 400) [] && checkHeads q fn c deps heads trees 0
  | none => false
 | none => false
section
variable [Interp]
abbrev Ok (q : Sig) (pre : List D -> Prop) : Prop := FnOk Tryd.prog tabs tb q pre
def okS (n g : Nat) (ds : List D) : Prop := okD n ds /\ (special g = true -> Interp.phi (2000 + g) ds = .v (.bool true))
theorem Ok.less {q : Sig} {p p' : List D -> Prop} (h : Ok q p) (hp : ∀ ds, p' ds -> p ds) : Ok q p' := fun W J vs ds hL hI ha h' => h W J vs ds hL hI ha (hp _ h')
theorem okS_of {q : Sig} {n : Nat} (h : Ok q (okD n)) : Ok q (okS n q.g) := h.less fun _ h => h.1
theorem orcL_ok {n : Nat} (hphi : ∀ ds, Interp.phi 1000 ds = .v (.bool true) -> okD n ds) {B0 : Nat} {w0 : World} : ∀ {l : List Sig}, (∀ q, q ∈ l -> Ok q (okS n q.g)) -> CallOk Tryd.prog (tabsG tabs) B0 w0 (orcL l)
 | [], _ => noOrc_ok
 | q :: r, h => orElse_ok (ctrOrc_ok tabs_nodup tabs_plain (h q (List.mem_cons_self ..)) fun env es hn => by
   unfold needK at hn
   cases hs : special q.g with
   | false =>
    rw [hs] at hn
    have := hn _ (List.mem_singleton.2 rfl)
    exact ⟨hphi _ (by simpa only [E.den] using this), fun h => by rw [hs] at h; cases h⟩
   | true =>
    rw [hs] at hn
    have h1 := hn _ (List.mem_cons_self ..)
    have h2 := hn _ (List.mem_cons_of_mem _ (List.mem_singleton.2 rfl))
    exact ⟨hphi _ (by simpa only [E.den] using h1), fun _ => by simpa only [E.den] using h2⟩) (orcL_ok hphi fun q' hq' => h q' (List.mem_cons_of_mem _ hq'))
theorem checkHeads_get {q : Sig} {fn : Func} {c : Code} {deps : List Sig} {heads : List Hd} : ∀ {trees : List Tree} {j : Nat}, checkHeads q fn c deps heads trees j = true -> heads.length = j + trees.length /\ ∀ (i : Nat) (t : Tree), trees[i]? = some t -> t.ok (runHead Tryd.prog (tabsG tabs) muF (runL deps) tb q fn c heads 400 (j + i)) [] = true
 | [], j, h => ⟨by unfold checkHeads at h; rw [nbe h]; rfl, fun i t ht => by simp at ht⟩
 | t :: r, j, h => by
  unfold checkHeads at h
  rw [Bool.and_eq_true] at h
  obtain ⟨k1, k2⟩ := checkHeads_get h.2
  refine ⟨by rw [k1, List.length_cons]; omega, fun i t' ht => ?_⟩
  cases i with
  | zero => simp only [List.getElem?_cons_zero, Option.some.injEq] at ht; subst ht; exact h.1
  | succ i =>
   have := k2 i t' (by simpa using ht)
   rw [show j + 1 + i = j + (i + 1) by omega] at this; exact this
theorem fn_okS {n : Nat} (hphi : ∀ ds, Interp.phi 1000 ds = .v (.bool true) -> okD n ds) {q : Sig} {deps : List Sig} {heads : List Hd} {entry : Tree} {trees : List Tree} (hc : check q deps heads entry trees = true) (hdeps : ∀ q, q ∈ deps -> Ok q (okS n q.g)) {pre : List D -> Prop} (Inv : Nat -> D -> List D -> Prop) (meas : Nat -> List D -> Nat)
  (h0 : ∀ ds, FitL tb q.args ds -> pre ds -> entry.holds (fun o => match o with | .ret d => d = Interp.phi q.g ds | .go j es => Inv j (Interp.phi q.g ds) es) (envOf ds))
  (hj : ∀ j h t d ds, heads[j]? = some h -> trees[j]? = some t -> FitE tb h.ents ds -> Inv j d ds -> t.holds (fun o => match o with | .ret x => x = d | .go i es => Inv i d es /\ meas i es < meas j ds) (envOf ds)) : Ok q pre := by
 unfold check at hc
 split at hc
 ·rename_i fn hfn
  split at hc
  ·rename_i c hb
   simp only [Bool.and_eq_true] at hc
   obtain ⟨⟨⟨c1, c2⟩, c3⟩, c4⟩ := hc
   obtain ⟨k1, k2⟩ := checkHeads_get c4
   rw [Nat.zero_add] at k1
   have hget : ∀ j h, heads[j]? = some h -> ∃ t, trees[j]? = some t := fun j h hj => ⟨_, List.getElem?_eq_getElem (by rw [<- k1]; exact (List.getElem?_eq_some_iff.1 hj).1)⟩
   refine fnOk_tree (mu := muF) (orc := orcL deps) (K := 400) (k := 40) (fuel := 400) noNum Tryd.checked.mixed (fun B0 w0 => orcL_ok hphi hdeps) tabs_nodup tabs_plain hfn hb c1 heads c2 entry (fun j => (trees[j]?).getD .dead) c3 (fun j h hh => ?_) Inv meas h0 (fun j h d ds hh hf hi => ?_)
   ·obtain ⟨t, ht⟩ := hget j h hh
    have := k2 j t ht
    rw [Nat.zero_add] at this
    rw [ht]; exact this
   ·obtain ⟨t, ht⟩ := hget j h hh
    rw [ht]
    exact hj j h t d ds hh ht hf hi
  ·cases hc
 ·cases hc
theorem fn_ok {n : Nat} (hphi : ∀ ds, Interp.phi 1000 ds = .v (.bool true) -> okD n ds) {q : Sig} {deps : List Sig} {heads : List Hd} {entry : Tree} {trees : List Tree} (hc : check q deps heads entry trees = true) (hdeps : ∀ q, q ∈ deps -> Ok q (okD n)) {pre : List D -> Prop} (Inv : Nat -> D -> List D -> Prop) (meas : Nat -> List D -> Nat)
  (h0 : ∀ ds, FitL tb q.args ds -> pre ds -> entry.holds (fun o => match o with | .ret d => d = Interp.phi q.g ds | .go j es => Inv j (Interp.phi q.g ds) es) (envOf ds))
  (hj : ∀ j h t d ds, heads[j]? = some h -> trees[j]? = some t -> FitE tb h.ents ds -> Inv j d ds -> t.holds (fun o => match o with | .ret x => x = d | .go i es => Inv i d es /\ meas i es < meas j ds) (envOf ds)) : Ok q pre :=
 fn_okS hphi hc (fun q hq => okS_of (hdeps q hq)) Inv meas h0 hj
abbrev OkM (q : SigM) (pre : List D -> Prop) : Prop := FnOkM Tryd.prog tabs tb q pre
def Goes (q : SigM) : Prop := q.pan.isSome = true -> ∀ ds, ∃ b : Bool, Interp.phi (3000 + q.g) ds = D.ofBool b /\ (b = true ↔ Interp.phi q.g ds ≠ .nil)
theorem OkM.less {q : SigM} {p p' : List D -> Prop} (h : OkM q p) (hp : ∀ ds, p' ds -> p ds) : OkM q p' := fun W J vs ds bs hL hI ha hn hd h' => h W J vs ds bs hL hI ha hn hd (hp _ h')
end
noncomputable def orcML : List SigM -> Ab.Call
 | [] => noOrc
 | q :: r => orElse (ctrOrcM tb q (needK q.g)) (orcML r)
noncomputable def selfN (deps : List Sig) (depsM : List SigM) : Ab.Call := evFn Tryd.prog (tabsG tabs) muF (evDrawnX Tryd.prog (tabsG tabs)) 400 (orElse (orcL deps) (orcML depsM)) 40
noncomputable def runN (deps : List Sig) (depsM : List SigM) : Code -> Tm -> St -> Option (Ex × Tm × St) := evCode Tryd.prog (tabsG tabs) (evDrawnX Tryd.prog (tabsG tabs)) (selfN deps depsM) false 400
noncomputable def checkHeadsN (run : Nat -> List E -> Option Out) : List Tree -> Nat -> Bool
 | [], j => true
 | t :: r, j => t.ok (run j) [] && checkHeadsN run r (j + 1)
noncomputable def checkN (q : Sig) (deps : List Sig) (depsM : List SigM) (heads : List Hd) (entry : Tree) (trees : List Tree) : Bool :=
 match Tryd.prog.funcs[q.f]? with
 | some fn =>
  match fn.body with
  | some c => Nat.beq heads.length trees.length && Nat.ble (q.args.length + fn.ntmps) Tr.lid && (heads.all fun h => Nat.ble h.ents.length Tr.lid) && entry.ok (runEntry Tryd.prog (tabsG tabs) muF (runN deps depsM) tb q fn c heads 400) [] && checkHeadsN (runHead Tryd.prog (tabsG tabs) muF (runN deps depsM) tb q fn c heads 400) trees 0
  | none => false
 | none => false
noncomputable def checkM (q : SigM) (deps : List Sig) (depsM : List SigM) (heads : List HdM) (entry : Tree) (trees : List Tree) : Bool :=
 match Tryd.prog.funcs[q.f]? with
 | some fn =>
  match fn.body with
  | some c => Nat.beq heads.length trees.length && Nat.ble (q.args.length + fn.ntmps) Tr.lid && (heads.all fun h => Nat.ble h.ents.length Tr.lid) && entry.ok (runEntryM Tryd.prog (tabsG tabs) muF (runN deps depsM) tb q fn c heads 400) [] && checkHeadsN (runHeadM Tryd.prog (tabsG tabs) muF (runN deps depsM) tb q fn c heads 400) trees 0
  | none => false
 | none => false
theorem checkHeadsN_get {run : Nat -> List E -> Option Out} : ∀ {trees : List Tree} {j : Nat}, checkHeadsN run trees j = true -> ∀ (i : Nat) (t : Tree), trees[i]? = some t -> t.ok (run (j + i)) [] = true
 | [], j, h => fun i t ht => by simp at ht
 | t :: r, j, h => by
  unfold checkHeadsN at h
  rw [Bool.and_eq_true] at h
  intro i t' ht
  cases i with
  | zero => simp only [List.getElem?_cons_zero, Option.some.injEq] at ht; subst ht; exact h.1
  | succ i =>
   have := checkHeadsN_get h.2 i t' (by simpa using ht)
   rw [show j + 1 + i = j + (i + 1) by omega] at this; exact this
section
variable [Interp]
theorem orcML_ok {n : Nat} (hphi : ∀ ds, Interp.phi 1000 ds = .v (.bool true) -> okD n ds) {B0 : Nat} {w0 : World} : ∀ {l : List SigM}, (∀ q, q ∈ l -> OkM q (okS n q.g) /\ Goes q) -> CallOk Tryd.prog (tabsG tabs) B0 w0 (orcML l)
 | [], _ => noOrc_ok
 | q :: r, h => orElse_ok (ctrOrcM_ok tabs_nodup tabs_plain (h q (List.mem_cons_self ..)).1 (fun env es hn => by
   unfold needK at hn
   cases hs : special q.g with
   | false =>
    rw [hs] at hn
    have := hn _ (List.mem_singleton.2 rfl)
    exact ⟨hphi _ (by simpa only [E.den] using this), fun h => by rw [hs] at h; cases h⟩
   | true =>
    rw [hs] at hn
    have h1 := hn _ (List.mem_cons_self ..)
    have h2 := hn _ (List.mem_cons_of_mem _ (List.mem_singleton.2 rfl))
    exact ⟨hphi _ (by simpa only [E.den] using h1), fun _ => by simpa only [E.den] using h2⟩) (h q (List.mem_cons_self ..)).2) (orcML_ok hphi fun q' hq' => h q' (List.mem_cons_of_mem _ hq'))
theorem fn_okN {n : Nat} (hphi : ∀ ds, Interp.phi 1000 ds = .v (.bool true) -> okD n ds) {q : Sig} {deps : List Sig} {depsM : List SigM} {heads : List Hd} {entry : Tree} {trees : List Tree} (hc : checkN q deps depsM heads entry trees = true) (hdeps : ∀ q, q ∈ deps -> Ok q (okS n q.g)) (hdepsM : ∀ q, q ∈ depsM -> OkM q (okS n q.g) /\ Goes q) {pre : List D -> Prop} (Inv : Nat -> D -> List D -> Prop) (meas : Nat -> List D -> Nat)
  (h0 : ∀ ds, FitL tb q.args ds -> pre ds -> entry.holds (fun o => match o with | .ret d => d = Interp.phi q.g ds | .go j es => Inv j (Interp.phi q.g ds) es) (envOf ds))
  (hj : ∀ j h t d ds, heads[j]? = some h -> trees[j]? = some t -> FitE tb h.ents ds -> Inv j d ds -> t.holds (fun o => match o with | .ret x => x = d | .go i es => Inv i d es /\ meas i es < meas j ds) (envOf ds)) : Ok q pre := by
 unfold checkN at hc
 split at hc
 ·rename_i fn hfn
  split at hc
  ·rename_i c hb
   simp only [Bool.and_eq_true] at hc
   obtain ⟨⟨⟨⟨c0, c1⟩, c2⟩, c3⟩, c4⟩ := hc
   have k1 := nbe c0
   have k2 := checkHeadsN_get c4
   have hget : ∀ j h, heads[j]? = some h -> ∃ t, trees[j]? = some t := fun j h hj => ⟨_, List.getElem?_eq_getElem (by rw [<- k1]; exact (List.getElem?_eq_some_iff.1 hj).1)⟩
   refine fnOk_tree (mu := muF) (orc := orElse (orcL deps) (orcML depsM)) (K := 400) (k := 40) (fuel := 400) noNum Tryd.checked.mixed (fun B0 w0 => orElse_ok (orcL_ok hphi hdeps) (orcML_ok hphi hdepsM)) tabs_nodup tabs_plain hfn hb c1 heads c2 entry (fun j => (trees[j]?).getD .dead) c3 (fun j h hh => ?_) Inv meas h0 (fun j h d ds hh hf hi => ?_)
   ·obtain ⟨t, ht⟩ := hget j h hh
    have := k2 j t ht
    rw [Nat.zero_add] at this
    rw [ht]; exact this
   ·obtain ⟨t, ht⟩ := hget j h hh
    rw [ht]
    exact hj j h t d ds hh ht hf hi
  ·cases hc
 ·cases hc
theorem fn_okM {n : Nat} (hphi : ∀ ds, Interp.phi 1000 ds = .v (.bool true) -> okD n ds) {q : SigM} {deps : List Sig} {depsM : List SigM} {heads : List HdM} {entry : Tree} {trees : List Tree} (hc : checkM q deps depsM heads entry trees = true) (hdeps : ∀ q, q ∈ deps -> Ok q (okS n q.g)) (hdepsM : ∀ q, q ∈ depsM -> OkM q (okS n q.g) /\ Goes q) {pre : List D -> Prop} (Inv : Nat -> D -> List D -> Prop) (meas : Nat -> List D -> Nat)
  (h0 : ∀ ds, FitE tb q.args ds -> pre ds -> entry.holds (fun o => match o with | .ret d => d = Interp.phi q.g ds | .go j es => Inv j (Interp.phi q.g ds) es) (envOf ds))
  (hj : ∀ j h t d ds, heads[j]? = some h -> trees[j]? = some t -> FitE tb h.ents ds -> Inv j d ds -> t.holds (fun o => match o with | .ret x => x = d | .go i es => Inv i d es /\ meas i es < meas j ds) (envOf ds)) : OkM q pre := by
 unfold checkM at hc
 split at hc
 ·rename_i fn hfn
  split at hc
  ·rename_i c hb
   simp only [Bool.and_eq_true] at hc
   obtain ⟨⟨⟨⟨c0, c1⟩, c2⟩, c3⟩, c4⟩ := hc
   have k1 := nbe c0
   have k2 := checkHeadsN_get c4
   have hget : ∀ j h, heads[j]? = some h -> ∃ t, trees[j]? = some t := fun j h hj => ⟨_, List.getElem?_eq_getElem (by rw [<- k1]; exact (List.getElem?_eq_some_iff.1 hj).1)⟩
   refine fnOkM_tree (mu := muF) (orc := orElse (orcL deps) (orcML depsM)) (K := 400) (k := 40) (fuel := 400) noNum Tryd.checked.mixed (fun B0 w0 => orElse_ok (orcL_ok hphi hdeps) (orcML_ok hphi hdepsM)) tabs_nodup tabs_plain hfn hb c1 heads c2 entry (fun j => (trees[j]?).getD .dead) c3 (fun j h hh => ?_) Inv meas h0 (fun j h d ds hh hf hi => ?_)
   ·obtain ⟨t, ht⟩ := hget j h hh
    have := k2 j t ht
    rw [Nat.zero_add] at this
    rw [ht]; exact this
   ·obtain ⟨t, ht⟩ := hget j h hh
    rw [ht]
    exact hj j h t d ds hh ht hf hi
  ·cases hc
 ·cases hc
end
end Go.Proofs.YtflhikakndanjaaDoor.Vk
/- Types (a kind, names, parts) as Lean's own type; what fits, how large they are. -/
namespace Go.Ab
open Go
inductive Typ where
 | mk (kind : Int) (names : List ByteArray) (list : List Typ)
instance : Inhabited Typ := ⟨.mk 0 [] []⟩
namespace Typ
def kind : Typ -> Int | .mk k _ _ => k
def names : Typ -> List ByteArray | .mk _ n _ => n
def list : Typ -> List Typ | .mk _ _ l => l
end Typ
mutual
def Typ.toD : Typ -> D
 | .mk k ns l => .row [iD k, strsD ns, .lst (Typ.toDs l)]
def Typ.toDs : List Typ -> List D
 | [] => []
 | v :: r => v.toD :: Typ.toDs r
end
theorem toDsT_map : ∀ (l : List Typ), Typ.toDs l = l.map Typ.toD
 | [] => by unfold Typ.toDs; rfl
 | v :: r => by unfold Typ.toDs; rw [toDsT_map r]; rfl
abbrev typsD (l : List Typ) : D := .lst (l.map Typ.toD)
theorem toD_rowT (v : Typ) : v.toD = .row [iD v.kind, strsD v.names, typsD v.list] := by
 cases v with
 | mk k ns l => unfold Typ.toD; rw [toDsT_map]; rfl
theorem typ_ind {p : Typ -> Prop} (h : ∀ v, (∀ x, x ∈ v.list -> p x) -> p v) : ∀ v, p v := by
 intro v
 have key : ∀ (n : Nat) (v : Typ), SizeOf.sizeOf v < n -> p v := by
  intro n
  induction n with
  | zero => intro v hv; omega
  | succ n ih =>
   intro v hv
   refine h v fun x hx => ih x ?_
   have := List.sizeOf_lt_of_mem hx
   cases v with
   | mk k ns l =>
    rw [Typ.mk.sizeOf_spec] at hv
    show SizeOf.sizeOf x < n
    have : SizeOf.sizeOf x < SizeOf.sizeOf l := this
    omega
 exact key _ v (Nat.lt_succ_self _)
mutual
def D.typ1 : D -> Typ
 | .row [k, ns, l] => .mk k.int ns.strs (D.typs l)
 | _ => default
def D.typs : D -> List Typ
 | .lst l => D.typsL l
 | _ => []
def D.typsL : List D -> List Typ
 | [] => []
 | d :: r => d.typ1 :: D.typsL r
end
theorem typsL_map : ∀ (l : List D), D.typsL l = l.map D.typ1
 | [] => by unfold D.typsL; rfl
 | v :: r => by unfold D.typsL; rw [typsL_map r]; rfl
@[simp] theorem typ1_toD (v : Typ) : v.toD.typ1 = v := by
 induction v using typ_ind with
 | h v ih =>
  rw [toD_rowT]
  unfold D.typ1
  show Typ.mk v.kind (strsD v.names).strs (D.typs (typsD v.list)) = v
  rw [strs_strsD]
  unfold D.typs
  rw [typsL_map, List.map_map]
  have : v.list.map (D.typ1 ∘ Typ.toD) = v.list := by
   conv => rhs; rw [<- List.map_id v.list]
   exact List.map_congr_left fun x hx => ih x hx
  rw [this]
  cases v; rfl
@[simp] theorem typs_typsD (l : List Typ) : (typsD l).typs = l := by
 unfold D.typs
 rw [typsL_map, List.map_map]
 conv => rhs; rw [<- List.map_id l]
 exact List.map_congr_left fun x _ => typ1_toD x
section
variable {sh : Nat -> List CT}
end
end Go.Ab
/- What the functions come to, in plain Lean. -/
namespace Go.Proofs.YtflhikakndanjaaDoor.Vk
open Go Go.Ab Go.RowKit
abbrev wrap := IntKind.i64.wrap
def one : ByteArray := mkS [48]
def tenDigits : ByteArray := mkS [48, 49, 50, 51, 52, 53, 54, 55, 56, 57]

mutual
def depV : Val -> Int
 | .mk _ _ _ _ _ _ _ _ l => wrap (depL 0 l + 1)
def depL : Int -> List Val -> Int
 | acc, [] => acc
 | acc, v :: r => depL (if depV v > acc then depV v else acc) r
end
mutual
def sizV : Val -> Int
 | .mk _ _ _ _ _ _ _ _ l => sizL 1 l
def sizL : Int -> List Val -> Int
 | acc, [] => acc
 | acc, v :: r => sizL (wrap (acc + sizV v)) r
end
def trimV (s c : ByteArray) : ByteArray := ⟨(Lib.trimS s.data.toList c.data.toList).toArray⟩
def validV (s : ByteArray) : Bool := Lib.validD s.data.toList
def numV (neg : Bool) (d : ByteArray) (e : Int) : Int :=
 if neg = false /\ d = one /\ e = 0 then 0 else
 if d = ByteArray.empty then 10 else
 if ¬ trimV d tenDigits = ByteArray.empty then 10 else
 if 40 < (d.size : Int) then 10 else
 if (d.data.toList.getD 0 0).toNat = 48 then 10 else
 if d.extract (d.size - 1) d.size = one then 10 else
 if e < -400 then 10 else if 400 < e then 10 else 0
def namesV (seen : D) : List ByteArray -> Bool
 | [] => true
 | s :: r => if ((mfind (sD s) seen.rows).getD (bD false)).bool then false else if validV s then namesV (.lst (mput (sD s) (bD true) seen.rows)) r else false
def ixL {α : Type} (p : α -> Bool) : List α -> Nat -> Int
 | [], _ => -1
 | x :: r, i => if p x then (i : Int) else ixL p r (i + 1)
mutual
def formedV : Val -> Bool
 | .mk k f ng d e b t ns l =>
  if k = 1 then !f && (ng == false && eqS d .empty && eqI e 0) && eqI b 0 && eqS t .empty && ns.length == 0 && l.length == 0
  else if k = 2 then (ng == false && eqS d .empty && eqI e 0) && eqI b 0 && eqS t .empty && ns.length == 0 && l.length == 0
  else if k = 3 then eqI (numV ng d e) 0 && !f && eqI b 0 && eqS t .empty && ns.length == 0 && l.length == 0
  else if k = 4 then !f && (ng == false && eqS d .empty && eqI e 0) && eqS t .empty && ns.length == 0 && l.length == 0
  else if k = 5 then validV t && !f && (ng == false && eqS d .empty && eqI e 0) && eqI b 0 && ns.length == 0 && l.length == 0
  else if k = 6 then !f && (ng == false && eqS d .empty && eqI e 0) && eqI b 0 && ns.length == 0 && l.length == 0
  else if k = 7 then !f && (ng == false && eqS d .empty && eqI e 0) && eqI b 0 && eqS t .empty && ns.length == 0 && ltI (formedL l 0) 0
  else if k = 8 then ns.length == l.length && namesV (.lst []) ns && !f && (ng == false && eqS d .empty && eqI e 0) && eqI b 0 && eqS t .empty && ltI (formedL l 0) 0
  else if k = 9 then l.length == 1 && validV t && !f && (ng == false && eqS d .empty && eqI e 0) && eqI b 0 && ns.length == 0 && ltI (formedL l 0) 0
  else false
def formedL : List Val -> Nat -> Int
 | [], _ => -1
 | v :: r, i => if formedV v then formedL r (i + 1) else (i : Int)
end
mutual
def shortV : Val -> Bool
 | .mk k f ng d e b t ns l =>
  if (t.size : Int) > (if k = 9 then 64 else 4096) then false
  else if (l.length : Int) > 256 then false
  else if ixL (fun s : ByteArray => decide ((s.size : Int) > 64)) ns 0 ≥ 0 then false
  else !(decide (shortL l 0 ≥ 0))
def shortL : List Val -> Nat -> Int
 | [], _ => -1
 | v :: r, i => if shortV v then shortL r (i + 1) else (i : Int)
end
def checkV (v : Val) : Int := if formedV v then (if shortV v then (if 16 < depV v then 2 else if 4096 < sizV v then 2 else 0) else 2) else 40
noncomputable def eqV (a b : Val) : Bool := @decide (a = b) (Classical.propDecidable _)
noncomputable def eqVs (a b : List Val) : Bool := @decide (a = b) (Classical.propDecidable _)
def cmpZ (a b : Int) : Int := if a < b then -1 else if b < a then 1 else 0
def cmpS (a b : ByteArray) : Int := Lib.compareBytes a.data.toList b.data.toList
def zer (i : Int) : ByteArray := ⟨(List.replicate i.toNat (48 : UInt8)).toArray⟩
def levX (e e' : Int) : Int := if e' < e then e' else e
def levP (d : ByteArray) (e x : Int) : ByteArray := d ++ zer (wrap (e - x))
def levQ (p q : ByteArray) : ByteArray := zer (if wrap ((q.size : Int) - p.size) > 0 then wrap ((q.size : Int) - p.size) else 0) ++ p
def numcmpV (ng : Bool) (d : ByteArray) (e : Int) (ng' : Bool) (d' : ByteArray) (e' : Int) : Int × Int :=
 if ¬ numV ng d e = 0 then (0, 10) else if ¬ numV ng' d' e' = 0 then (0, 10) else
 if ng = ng' /\ d = d' /\ e = e' then (0, 0) else if ng = true /\ ng' = false then (-1, 0) else if ng = false /\ ng' = true then (1, 0) else
 let p := levP d e (levX e e'); let q := levP d' e' (levX e e'); let p := levQ p q; let q := levQ q p
 (if ng then wrap (-(cmpS p q)) else cmpS p q, 0)
def rowsG {α : Type} (c : α -> α -> Int) : List α -> List α -> Int
 | [], [] => 0
 | [], _ :: _ => -1
 | _ :: _, [] => 1
 | x :: r, y :: t => if c x y = 0 then rowsG c r t else c x y
def pairC (c : Val -> Val -> Int) (p q : ByteArray × Val) : Int := if cmpS p.1 q.1 = 0 then c p.2 q.2 else cmpS p.1 q.1
mutual
def hgt : Val -> Nat
 | .mk _ _ _ _ _ _ _ _ l => hgts l + 1
def hgts : List Val -> Nat
 | [] => 0
 | v :: r => max (hgt v) (hgts r)
end
def orderF : Nat -> Val -> Val -> Int
 | 0, _, _ => 0
 | n + 1, a, b =>
  if a.kind < b.kind then -1 else if b.kind < a.kind then 1 else
  if a.kind = 2 then (if a.flag = b.flag then 0 else if b.flag then -1 else 1)
  else if a.kind = 3 then (numcmpV a.neg a.dig a.exp b.neg b.dig b.exp).1
  else if a.kind = 4 then cmpZ a.bits b.bits
  else if a.kind = 5 then cmpS a.text b.text
  else if a.kind = 6 then cmpS a.text b.text
  else if a.kind = 8 then rowsG (pairC (orderF n)) (a.names.zip a.list) (b.names.zip b.list)
  else if a.kind = 9 then (if cmpS a.text b.text = 0 then rowsG (orderF n) a.list b.list else cmpS a.text b.text)
  else rowsG (orderF n) a.list b.list
def orderV (a b : Val) : Int := orderF (hgt a) a b
def vcmpV (a b : Val) : Int × Int := if ¬ checkV a = 0 then (0, checkV a) else if ¬ checkV b = 0 then (0, checkV b) else (orderV a b, 0)
def good (v : Val) : Bool := formedV v && shortV v
def digV (s : ByteArray) : Bool := (s.data.toList.all fun c => decide (48 <= c.toNat /\ c.toNat <= 57)) && decide (s.data.toList ≠ [])
def plainV (v : Val) : Bool := decide (1 <= v.kind /\ v.kind <= 9 /\ (v.kind ≠ 2 -> v.flag = false) /\ (v.kind ≠ 3 -> v.neg = false /\ v.dig = .empty /\ v.exp = 0) /\ (v.kind ≠ 4 -> v.bits = 0) /\ (v.kind ≠ 5 -> v.kind ≠ 6 -> v.kind ≠ 9 -> v.text = .empty) /\ (v.kind ≠ 8 -> v.names.length = 0) /\ (v.kind < 7 -> v.list.length = 0))
def ownV (v : Val) : Bool :=
 if v.kind = 3 then decide (numV v.neg v.dig v.exp = 0) else
 if v.kind = 5 then validV v.text else
 if v.kind = 9 then validV v.text && decide (v.list.length = 1) else
 if v.kind = 8 then v.names.all validV && decide (v.names.length = v.list.length) && decide v.names.Nodup else true
def numbV (s : ByteArray) (n : Int) : Int :=
 if n = 1 then ((s.data.toList.getD 0 0).toNat : Int) else
 ((s.data.toList.take n.toNat).drop 1).foldl (fun a c => wrap (wrap (64 * a) + (c.toNat : Int).tmod 64)) (((s.data.toList.getD 0 0).toNat : Int).tmod ((128 : Int).fdiv (2 ^ (min n.toNat 64))))
def c8 (i : Int) : UInt8 := UInt8.ofNat (IntKind.u8.wrap i).toNat
def encV (r : Int) : ByteArray :=
 if r < 128 then ⟨#[c8 r]⟩ else
 if r < 2048 then ⟨#[c8 (wrap (192 + wrap (r.tdiv 64))), c8 (wrap (128 + r.tmod 64))]⟩ else
 if r < 65536 then ⟨#[c8 (wrap (224 + wrap (r.tdiv 4096))), c8 (wrap (128 + (wrap (r.tdiv 64)).tmod 64)), c8 (wrap (128 + r.tmod 64))]⟩ else
 ⟨#[c8 (wrap (240 + wrap (r.tdiv 262144))), c8 (wrap (128 + (wrap (r.tdiv 4096)).tmod 64)), c8 (wrap (128 + (wrap (r.tdiv 64)).tmod 64)), c8 (wrap (128 + r.tmod 64))]⟩
def longV (c : Nat) : Int := if c < 128 then 1 else if 192 <= c /\ c < 224 then 2 else if 224 <= c /\ c < 240 then 3 else if 240 <= c /\ c < 248 then 4 else 0
def isR (r : Int) : Bool := decide (0 <= r /\ r <= 1114111 /\ (r < 55296 \/ 57343 < r))
def headOk (t : ByteArray) (n : Int) : Bool := isR (numbV t n) && decide (encV (numbV t n) = t.extract 0 n.toNat)
def padV (t : ByteArray) (n : Nat) (c : UInt8) : ByteArray := t ++ ⟨(List.replicate (n - t.size) c).toArray⟩
def chkV (s : ByteArray) (n r : Int) : Bool := isR r && (decide ((encV r).extract 0 (min s.size (encV r).size) = s) && decide (((encV r).size : Int) = n))
def leastV (n : Nat) : Int := [0, 0, 128, 2048, 65536].getD n 0
def beginsV (s : ByteArray) : Bool :=
 let n := longV (s.data.toList.getD 0 0).toNat
 if n <= s.size then false else
 let a := numbV (padV s n.toNat 128) n
 let b := numbV (padV s n.toNat 191) n
 if chkV s n a then true else if chkV s n b then true else
 decide (a <= leastV n.toNat) && (decide (leastV n.toNat <= b) && decide ((encV (leastV n.toNat)).extract 0 s.size = s))
def decV (s : ByteArray) (i : Int) : Int × Int × Int :=
 if i < 0 then (0, 0, 1) else if (s.size : Int) <= i then (0, 0, 1) else
 let t := s.extract i.toNat s.size
 let n := longV (t.data.toList.getD 0 0).toNat
 if 0 < n /\ n <= t.size /\ headOk t n = true then (numbV t n, n, 0) else if (t.size : Int) < n /\ beginsV t = true then (0, 0, 31) else (0, 0, 30)
def countF : Nat -> ByteArray -> Int -> Int -> Int × Int
 | 0, _, c, _ => (c, 0)
 | k + 1, s, c, i => if i < s.size then (if (decV s i).2.2 = 0 then countF k s (wrap (c + 1)) (wrap (i + (decV s i).2.1)) else (0, (decV s i).2.2)) else (c, 0)
def partsN (most : Int) : Int -> List ByteArray -> Int
 | n, [] => n
 | n, s :: r => if n <= most then partsN most (wrap (n + s.size)) r else n
mutual
def partsV (most : Int) : Int -> Int -> Val -> Int
 | n, within, .mk k f ng d e b t ns l =>
  if within > 300 then wrap (most + 1) else partsL most within (partsN most (wrap (wrap (wrap (wrap (n + 1) + t.size) + d.size) + ns.length)) ns) l
def partsL (most : Int) (within : Int) : Int -> List Val -> Int
 | n, [] => n
 | n, v :: r => if n <= most then partsL most within (partsV most n (wrap (within + 1)) v) r else n
end
mutual
def manyV : Val -> Bool
 | .mk k f ng d e b t ns l => if (ns.length : Int) > 2000 then true else manyL l
def manyL : List Val -> Bool
 | [] => false
 | v :: r => if manyV v then true else manyL r
end
def idxI (s : ByteArray) : List ByteArray -> Nat -> Int
 | [], _ => -1
 | x :: r, i => if s = x then (i : Int) else idxI s r (i + 1)
def placesL : List ByteArray -> Nat -> List D -> List D
 | [], _, m => m
 | s :: r, i, m => placesL r (i + 1) (mput (sD s) (iD i) m)
mutual
def formedT : Typ -> Bool
 | .mk k ns l =>
  if k = 9 then ns.length == 0 && l.length == 1 && ltI (formedTL l 0) 0
  else if k = 10 \/ k = 11 then ns.length == l.length && decide ns.Nodup && ltI (ixL (fun s => !validV s) ns 0) 0 && ltI (formedTL l 0) 0
  else decide (1 <= k /\ k <= 8) && ns.length == 0 && l.length == 0
def formedTL : List Typ -> Nat -> Int
 | [], _ => -1
 | t :: r, i => if formedT t then formedTL r (i + 1) else (i : Int)
end
mutual
def spanT : Typ -> Int × Int × Bool
 | .mk k ns l =>
  let s := spanTL l (0, 1, if (l.length : Int) <= 256 then !decide (ixL (fun s : ByteArray => decide ((s.size : Int) > 64)) ns 0 ≥ 0) else false)
  (wrap (s.1 + 1), s.2.1, s.2.2)
def spanTL : List Typ -> Int × Int × Bool -> Int × Int × Bool
 | [], acc => acc
 | t :: r, acc => spanTL r (if (spanT t).1 > acc.1 then (spanT t).1 else acc.1, wrap (acc.2.1 + (spanT t).2.1), acc.2.2 && (spanT t).2.2)
end
def checkT (t : Typ) : Int := if formedT t then (if (spanT t).2.2 then (if (spanT t).1 > 16 then 2 else if (spanT t).2.1 > 4096 then 2 else 0) else 2) else 110
mutual
def hgtT : Typ -> Nat
 | .mk _ _ l => hgtTs l + 1
def hgtTs : List Typ -> Nat
 | [] => 0
 | v :: r => max (hgtT v) (hgtTs r)
end
def kindsT (k : Int) : Int := [0, 0, 1, 2, 3, 3, 4, 5, 6].getD k.toNat 0
def optB {α : Type} (o : Option α) (f : α -> Bool) : Bool := match o with | some x => f x | none => false
def hasF : Nat -> Typ -> Val -> Bool
 | 0, _, _ => false
 | n + 1, t, v =>
  if t.kind = 1 then true
  else if t.kind = 9 then decide (v.kind = 7) && optB t.list[0]? fun x => v.list.all (hasF n x)
  else if t.kind = 10 then decide (v.kind = 8) && decide (v.names = t.names) && (t.list.zip v.list).all fun p => hasF n p.1 p.2
  else if t.kind = 11 then decide (v.kind = 9) && (decide (0 <= idxI v.text t.names 0) && optB t.list[(idxI v.text t.names 0).toNat]? fun x => optB v.list[0]? (hasF n x))
  else decide (v.kind = kindsT t.kind) && (decide (t.kind ≠ 5) || decide (v.exp ≥ 0))
def hasT (t : Typ) (v : Val) : Bool := hasF (hgtT t) t v
def subF : Nat -> Typ -> Typ -> Bool
 | 0, _, _ => false
 | n + 1, a, b =>
  if b.kind = 1 \/ (a.kind = 5 /\ b.kind = 4) then true
  else if a.kind ≠ b.kind then false
  else if a.kind = 11 then (a.names.zip a.list).all fun p => decide (0 <= idxI p.1 b.names 0) && optB b.list[(idxI p.1 b.names 0).toNat]? (subF n p.2)
  else decide (a.names = b.names) && (decide (a.list.length = b.list.length) && (a.list.zip b.list).all fun p => subF n p.1 p.2)
def subT (a b : Typ) : Bool := subF (hgtT a) a b
def HasT (t : Typ) (v : Val) : Bool × Int := if ¬ checkT t = 0 then (false, checkT t) else if ¬ checkV v = 0 then (false, checkV v) else (hasT t v, 0)
def SubT (a b : Typ) : Bool × Int := if ¬ checkT a = 0 then (false, checkT a) else if ¬ checkT b = 0 then (false, checkT b) else (subT a b, 0)
mutual
def partsT (most : Int) : Int -> Int -> Typ -> Int
 | n, within, .mk k ns l => if within > 300 then wrap (most + 1) else partsTL most within (partsN most (wrap (wrap (n + 1) + ns.length)) ns) l
def partsTL (most : Int) (within : Int) : Int -> List Typ -> Int
 | n, [] => n
 | n, v :: r => if n <= most then partsTL most within (partsT most n (wrap (within + 1)) v) r else n
end
mutual
def wideT : Typ -> Bool
 | .mk k ns l => if (ns.length : Int) > 1000 then true else wideTL l
def wideTL : List Typ -> Bool
 | [] => false
 | v :: r => if wideT v then true else wideTL r
end
mutual
def smallV : Val -> Bool
 | .mk k f ng d e b t ns l => decide (ns.length <= 1000000) && decide (l.length <= 1000000) && smallL l
def smallL : List Val -> Bool
 | [] => true
 | v :: r => smallV v && smallL r
end
mutual
def smallT : Typ -> Bool
 | .mk k ns l => decide (ns.length <= 1000000) && decide (l.length <= 1000000) && smallTL l
def smallTL : List Typ -> Bool
 | [] => true
 | v :: r => smallT v && smallTL r
end
noncomputable def eqT (a b : Typ) : Bool := @decide (a = b) (Classical.propDecidable _)
def everyT : Typ := .mk 1 [] []
def pickT (b : Typ) (s : ByteArray) (t : Typ) : Option Typ :=
 match b.list[(idxI s b.names 0).toNat]? with
 | some u => if 0 <= idxI s b.names 0 then (if subT u t then some t else if subT t u then some u else none) else some t
 | none => some t
def pickL (b : Typ) : List (ByteArray × Typ) -> Option (List Typ)
 | [] => some []
 | p :: r => match pickT b p.1 p.2, pickL b r with
  | some t, some l => some (t :: l)
  | _, _ => none
def newN (a : List ByteArray) : List (ByteArray × Typ) -> List (ByteArray × Typ)
 | [] => []
 | p :: r => if 0 <= idxI p.1 a 0 then newN a r else p :: newN a r
def joinT (a b : Typ) : Typ :=
 if subT a b then b else if subT b a then a else if ¬ a.kind = 11 \/ ¬ b.kind = 11 then everyT else
 match pickL b (a.names.zip a.list) with
 | none => everyT
 | some l =>
  let out := Typ.mk 11 (a.names ++ (newN a.names (b.names.zip b.list)).map (·.1)) (l ++ (newN a.names (b.names.zip b.list)).map (·.2))
  if checkT out = 0 then out else everyT
def JoinT (a b : Typ) : Typ × Int := if ¬ checkT a = 0 then (.mk 0 [] [], checkT a) else if ¬ checkT b = 0 then (.mk 0 [] [], checkT b) else (joinT a b, 0)

def dvA : Nat -> List UInt8 -> Nat
 | acc, [] => acc
 | acc, x :: r => dvA (acc * 10 + (x.toNat - 48)) r
abbrev dv (l : List UInt8) : Nat := dvA 0 l
def Dig (l : List UInt8) : Prop := ∀ x, x ∈ l -> 48 <= x.toNat /\ x.toNat <= 57
def digs (n : Nat) : List UInt8 := if n = 0 then [] else digs (n / 10) ++ [UInt8.ofNat (48 + n % 10)]
termination_by n
decreasing_by omega
abbrev NumT := Bool × ByteArray × Int
def numD (t : NumT) : D := .row [bD t.1, sD t.2.1, iD t.2.2]
def toNum (d : D) : NumT := ((d.cells.getD 0 .nil).bool, (d.cells.getD 1 .nil).str, (d.cells.getD 2 .nil).int)
def cutLV (s c : ByteArray) : ByteArray := ⟨(Lib.trimLeftS s.data.toList c.data.toList).toArray⟩
def cutRV (s c : ByteArray) : ByteArray := ⟨(Lib.trimRightS s.data.toList c.data.toList).toArray⟩
def noNumT : NumT := (false, ByteArray.empty, 0)
def zeroT : NumT := (false, one, 0)
def formN (t : NumT) : Int := numV t.1 t.2.1 t.2.2
def madeV (ng : Bool) (d : ByteArray) (e : Int) : NumT × Int :=
 if cutLV d one = ByteArray.empty then (zeroT, 0) else
 let r := cutRV (cutLV d one) one
 let x := wrap (wrap (e + (cutLV d one).size) - r.size)
 if numV ng r x = 0 then ((ng, r, x), 0) else (noNumT, 2)
def valX (t : NumT) (x : Int) : Int := if t.1 then -((dv t.2.1.data.toList * 10 ^ (t.2.2 - x).toNat : Nat) : Int) else (dv t.2.1.data.toList * 10 ^ (t.2.2 - x).toNat : Nat)
def addV (t u : NumT) : NumT × Int :=
 if ¬ formN t = 0 then (noNumT, 10) else if ¬ formN u = 0 then (noNumT, 10) else
 let x := levX t.2.2 u.2.2
 let s := valX t x + valX u x
 madeV (decide (s < 0)) ⟨(digs s.natAbs).toArray⟩ x
def rowN : Nat -> Nat -> List UInt8
 | 0, _ => []
 | k + 1, m => rowN k (m / 10) ++ [UInt8.ofNat (48 + m % 10)]
def plusV (a b : ByteArray) : ByteArray :=
 let m := dv a.data.toList + dv b.data.toList
 ⟨((if 10 ^ a.size <= m then [49] else []) ++ rowN a.size (m % 10 ^ a.size)).toArray⟩
def minusV (a b : ByteArray) : ByteArray := ⟨(rowN a.size (dv a.data.toList - dv b.data.toList)).toArray⟩
def digsZ (n : Nat) : List UInt8 := if n = 0 then [48] else digs n
def smallText (i : Int) : ByteArray := (if i < 0 then ⟨#[45]⟩ else ByteArray.empty) ++ ⟨(digsZ i.natAbs).toArray⟩
def wholeT (i : Int) : NumT := (madeV (decide (i < 0)) ⟨(digsZ i.natAbs).toArray⟩ 0).1
def restV (s : ByteArray) : ByteArray := cutLV s tenDigits
def frontV (s : ByteArray) : ByteArray := s.extract 0 (s.size - (restV s).size)
def at0 (s : ByteArray) : Nat := (s.data.toList.getD 0 0).toNat
def tailV (s : ByteArray) : ByteArray := s.extract 1 s.size
def cutP (c : Nat) (s : ByteArray) : ByteArray := if at0 s = c then tailV s else s
def expU (s : ByteArray) : ByteArray := if at0 (tailV s) = 45 \/ at0 (tailV s) = 43 then tailV (tailV s) else tailV s
def expM (s : ByteArray) : Bool := decide (at0 (tailV s) = 45)
def dvM (u : ByteArray) : Int := if dv u.data.toList < 1000000 then (dv u.data.toList : Int) else 1000000
def expV (s : ByteArray) : Int × Bool :=
 if s = ByteArray.empty then (0, true) else
 if at0 s ≠ 101 /\ at0 s ≠ 69 then (0, false) else
 if digV (expU s) = false then (0, false) else
 (if expM s then -(dvM (expU s)) else dvM (expU s), true)
def parseV (s : ByteArray) : NumT × Int :=
 let t := if at0 s = 45 then tailV s else s
 let r := restV t
 if frontV t = ByteArray.empty then (noNumT, 10) else
 if 1 < (frontV t).size /\ at0 (frontV t) = 48 then (noNumT, 10) else
 let p := if at0 r = 46 then frontV (tailV r) else ByteArray.empty
 let q := if at0 r = 46 then restV (tailV r) else r
 if at0 r = 46 /\ p = ByteArray.empty then (noNumT, 10) else
 if (expV q).2 = false then (noNumT, 10) else
 if 512 < (s.size : Int) then (noNumT, 2) else
 madeV (decide (at0 s = 45)) (frontV t ++ p) (wrap ((expV q).1 - p.size))
def signV (b : Bool) : ByteArray := if b then mkS [45] else ByteArray.empty
def printC (d : ByteArray) (x : Int) : ByteArray := zer (if 0 < 1 - x - d.size then 1 - x - d.size else 0) ++ d
def printV (t : NumT) : ByteArray × Int :=
 if ¬ formN t = 0 then (ByteArray.empty, 10) else
 let d := t.2.1
 let x := t.2.2
 if 0 <= x /\ (d.size : Int) + x <= 21 then (signV t.1 ++ d ++ zer x, 0) else
 if x < 0 /\ -21 <= x then
  let c := printC d x
  (signV t.1 ++ c.extract 0 ((c.size : Int) + x).toNat ++ mkS [46] ++ c.extract ((c.size : Int) + x).toNat c.size, 0)
 else (signV t.1 ++ d.extract 0 1 ++ (if 1 < d.size then mkS [46] else ByteArray.empty) ++ d.extract 1 d.size ++ mkS [101] ++ smallText (x + d.size - 1), 0)
def bvA : Nat -> List UInt8 -> Nat
 | acc, [] => acc
 | acc, x :: r => bvA (acc * 256 + x.toNat) r
def bytL (d : D) : List UInt8 := d.rows.map fun r => UInt8.ofNat (r.cells.getD 0 .nil).int.toNat
def bytesD (l : List UInt8) : D := .lst (l.map fun c => .row [.v (.int .u8 c.toNat)])
def byts (n : Nat) : List UInt8 := if n = 0 then [] else byts (n / 256) ++ [UInt8.ofNat (n % 256)]
termination_by n
decreasing_by omega
def ofV (ng : Bool) (b : List UInt8) : NumT × Int := madeV ng ⟨(digs (bvA 0 b)).toArray⟩ 0
def bytesV (t : NumT) : List UInt8 × Int :=
 if ¬ formN t = 0 then ([], 10) else if t.2.2 < 0 then ([], 11) else if 40 < (t.2.1.size : Int) + t.2.2 then ([], 2) else
 (byts (dv t.2.1.data.toList * 10 ^ t.2.2.toNat), 0)

noncomputable def phiG (g : Nat) (ds : List D) : D :=
 let d0 := ds.getD 0 .nil
 let d1 := ds.getD 1 .nil
 match g with
 | 0 => iD (depV d0.val1)
 | 1 => iD (sizV d0.val1)
 | 2 => bD (formedV d0.val1)
 | 3 => iD (formedL d0.vals 0)
 | 4 => bD (namesV (.lst []) d0.strs)
 | 5 => iD (numV (d0.cells.getD 0 .nil).bool (d0.cells.getD 1 .nil).str (d0.cells.getD 2 .nil).int)
 | 6 => sD (trimV d0.str d1.str)
 | 7 => bD (validV d0.str)
 | 8 => bD (shortV d0.val1)
 | 9 => iD (ixL (fun s : ByteArray => decide ((s.size : Int) > 64)) d0.strs 0)
 | 10 => iD (shortL d0.vals 0)
 | 11 => iD (partsV (ds.getD 2 .nil).int d1.int (ds.getD 3 .nil).int d0.val1)
 | 12 => bD (manyV d0.val1)
 | 13 => iD (checkV d0.val1)
 | 14 => bD true
 | 15 => bD true
 | 16 => bD (decide (d0.strs = d1.strs))
 | 17 => bD (eqV d0.val1 d1.val1)
 | 18 => bD (eqVs d0.vals d1.vals)
 | 19 => iD (cmpS d0.str d1.str)
 | 20 => sD (zer d1.int)
 | 21 =>
  let x := levX (d0.cells.getD 2 .nil).int (d1.cells.getD 2 .nil).int
  let p := levP (d0.cells.getD 1 .nil).str (d0.cells.getD 2 .nil).int x
  let q := levP (d1.cells.getD 1 .nil).str (d1.cells.getD 2 .nil).int x
  .row [sD (levQ p q), sD (levQ q (levQ p q)), iD x]
 | 22 =>
  let r := numcmpV (d0.cells.getD 0 .nil).bool (d0.cells.getD 1 .nil).str (d0.cells.getD 2 .nil).int (d1.cells.getD 0 .nil).bool (d1.cells.getD 1 .nil).str (d1.cells.getD 2 .nil).int
  .row [iD r.1, iD r.2]
 | 23 => pairsD (d0.val1.names.zip d0.val1.list)
 | 24 => iD (orderV d0.val1 d1.val1)
 | 25 => iD (rowsG orderV d0.vals d1.vals)
 | 26 => iD (rowsG (pairC orderV) d0.pairs d1.pairs)
 | 27 => .row [iD (vcmpV d0.val1 d1.val1).1, iD (vcmpV d0.val1 d1.val1).2]
 | 44 => iD (depV d0.val1)
 | 45 => iD (sizV d0.val1)
 | 46 => bD (shortV d0.val1)
 | 48 => bD (eqV d0.val1 d1.val1)
 | 40 => bD (decide d0.strs.Nodup)
 | 36 => bD (digV d0.str)
 | 30 => bD (validV d0.str)
 | 42 => bD (ownV d0.val1)
 | 41 => bD (plainV d0.val1)
 | 43 => bD (formedV d0.val1)
 | 47 => iD (checkV d0.val1)
 | 35 => iD (numbV d0.str d1.int)
 | 34 => sD (encV d0.int)
 | 37 => sD (zer d0.int)
 | 38 => bD (decide (cmpS d0.str d1.str = -1))
 | 39 => bD (decide ((numcmpV (d0.cells.getD 0 .nil).bool (d0.cells.getD 1 .nil).str (d0.cells.getD 2 .nil).int (d1.cells.getD 0 .nil).bool (d1.cells.getD 1 .nil).str (d1.cells.getD 2 .nil).int).1 = -1))
 | 33 => bD (beginsV d0.str)
 | 32 => .row [iD (decV d0.str d1.int).1, iD (decV d0.str d1.int).2.1, iD (decV d0.str d1.int).2.2]
 | 31 => .row [iD (countF (d0.str.size + 1) d0.str 0 0).1, iD (countF (d0.str.size + 1) d0.str 0 0).2]
 | 49 => bD (decide (orderV d0.val1 d1.val1 = -1))
 | 50 => .row [iD (vcmpV d0.val1 d1.val1).1, iD (vcmpV d0.val1 d1.val1).2]
 | 54 => iD (longV d0.int.toNat)
 | 55 => bD (isR d0.int)
 | 56 =>
  let x := levX (d0.cells.getD 2 .nil).int (d1.cells.getD 2 .nil).int
  let p := levP (d0.cells.getD 1 .nil).str (d0.cells.getD 2 .nil).int x
  let q := levP (d1.cells.getD 1 .nil).str (d1.cells.getD 2 .nil).int x
  .row [sD (levQ p q), sD (levQ q (levQ p q)), iD x]
 | 53 => bD true
 | 57 => .row [.lst (placesL d0.strs 0 [])]
 | 58 => bD (formedT d0.typ1)
 | 59 => iD (ixL (fun s => !validV s) d0.strs 0)
 | 60 => iD (formedTL d0.typs 0)
 | 61 => .row [iD (spanT d0.typ1).1, iD (spanT d0.typ1).2.1, bD (spanT d0.typ1).2.2]
 | 62 => iD (ixL (fun s : ByteArray => decide ((s.size : Int) > 64)) d0.strs 0)
 | 63 => iD (checkT d0.typ1)
 | 64 => bD (hasT d0.typ1 d1.val1)
 | 65 => iD (ixL (fun v => !optB (d1.cells.getD 0 .nil).typ1.list[0]? fun x => hasT x v) d0.vals 0)
 | 66 => iD (idxI d1.str d0.strs 0)
 | 67 => .row [bD (HasT d0.typ1 d1.val1).1, iD (HasT d0.typ1 d1.val1).2]
 | 68 => bD (subT d0.typ1 d1.typ1)
 | 69 => bD (decide (d0.typs.length = d1.typs.length) && (d0.typs.zip d1.typs).all fun p => subT p.1 p.2)
 | 70 => iD (if ¬ checkT d0.typ1 = 0 then checkT d0.typ1 else checkT d1.typ1)
 | 71 => .row [bD (SubT d0.typ1 d1.typ1).1, iD (SubT d0.typ1 d1.typ1).2]
 | 72 => iD (partsT (ds.getD 2 .nil).int d1.int (ds.getD 3 .nil).int d0.typ1)
 | 73 => bD (wideT d0.typ1)
 | 74 => bD true
 | 75 => bD true
 | 76 => bD true
 | 120 => iD (idxI d1.str d0.strs 0)
 | 121 => bD (d0.strs.all validV && decide d0.strs.Nodup)
 | 122 => bD (formedT d0.typ1)
 | 123 => iD (spanT d0.typ1).1
 | 124 => iD (spanT d0.typ1).2.1
 | 125 => bD (spanT d0.typ1).2.2
 | 126 => iD (checkT d0.typ1)
 | 127 => bD (hasT d0.typ1 d1.val1)
 | 128 => .row [bD (HasT d0.typ1 d1.val1).1, iD (HasT d0.typ1 d1.val1).2]
 | 129 => bD (eqT d0.typ1 d1.typ1)
 | 130 => d0.typ1.toD
 | 131 => bD true
 | 77 => sD (cutLV d0.str d1.str)
 | 78 => sD (cutLV d0.str d1.str)
 | 79 => sD (cutRV d0.str d1.str)
 | 88 => let r := madeV d0.bool d1.str (ds.getD 2 .nil).int; .row [numD r.1, iD r.2]
 | 92 => let r := addV (toNum d0) (toNum d1); .row [numD r.1, iD r.2]
 | 96 => bD (decide (formN (toNum d0) = 0))
 | 97 => iD (formN (toNum d0))
 | 98 => let r := madeV d0.bool d1.str (ds.getD 2 .nil).int; .row [numD r.1, bD (decide (r.2 = 0))]
 | 102 => sD (smallText d0.int)
 | 111 => numD (wholeT d0.int)
 | 104 => let r := numcmpV (toNum d0).1 (toNum d0).2.1 (toNum d0).2.2 (toNum d1).1 (toNum d1).2.1 (toNum d1).2.2; .row [iD r.1, iD r.2]
 | 105 => sD (plusV d0.str d1.str)
 | 106 => sD (minusV d0.str d1.str)
 | 107 => let r := addV (toNum d0) (toNum d1); .row [numD r.1, iD r.2]
 | 114 => bD true
 | 80 => .row [iD (dv d0.str.data.toList)]
 | 81 => sD (smallText d0.int)
 | 87 => bD (digV d0.str)
 | 83 => .row [sD (cutP 45 d0.str), bD (decide (at0 d0.str = 45))]
 | 84 => .row [sD (cutP 46 d0.str), bD (decide (at0 d0.str = 46))]
 | 85 => bD (decide (at0 d0.str = 45))
 | 86 => bD (decide (at0 d0.str = 43))
 | 89 => .row [sD (frontV d0.str), sD (restV d0.str)]
 | 99 => .row [sD (frontV d0.str), sD (restV d0.str)]
 | 100 => .row [iD (expV d0.str).1, bD (expV d0.str).2]
 | 90 => .row [numD (parseV d0.str).1, iD (parseV d0.str).2]
 | 101 => .row [numD (parseV d0.str).1, iD (parseV d0.str).2]
 | 91 => .row [sD (printV (toNum d0)).1, iD (printV (toNum d0)).2]
 | 103 => .row [sD (printV (toNum d0)).1, iD (printV (toNum d0)).2]
 | 113 => bD true
 | 93 => bD (decide (formN (toNum d0) = 0 /\ 0 <= (toNum d0).2.2))
 | 108 => bD (decide (formN (toNum d0) = 0 /\ 0 <= (toNum d0).2.2))
 | 82 => .row [bytesD (bytL d0).reverse]
 | 94 => .row [numD (ofV d0.bool (bytL d1)).1, iD (ofV d0.bool (bytL d1)).2]
 | 109 => .row [numD (ofV d0.bool (bytL d1)).1, iD (ofV d0.bool (bytL d1)).2]
 | 95 => .row [bytesD (bytesV (toNum d0)).1, iD (bytesV (toNum d0)).2]
 | 110 => .row [bytesD (bytesV (toNum d0)).1, iD (bytesV (toNum d0)).2]
 | 115 => bD true
 | 116 => bD true
 | 112 => bD true
 | 118 => bD true
 | 117 => bD true
 | 119 => bD true
 | 132 => d0
 | 133 => d0
 | 134 => d0.typ1.toD
 | 135 => (joinT d0.typ1 d1.typ1).toD
 | 136 => .row [(JoinT d0.typ1 d1.typ1).1.toD, iD (JoinT d0.typ1 d1.typ1).2]
 | 137 => bD (subT d0.typ1 d1.typ1)
 | 138 => .row [bD (SubT d0.typ1 d1.typ1).1, iD (SubT d0.typ1 d1.typ1).2]
 | 139 => (joinT d0.typ1 d1.typ1).toD
 | 140 => .row [(JoinT d0.typ1 d1.typ1).1.toD, iD (JoinT d0.typ1 d1.typ1).2]
 | 141 => bD true
 | 142 => bD true
 | 51 => d0.val1.toD
 | 52 => bD true
 | 28 => bD true
 | 29 => bD true
 | _ => .nil
noncomputable def phiS (n : Nat) (g : Nat) (ds : List D) : D :=
 let d0 := ds.getD 0 .nil
 let d1 := ds.getD 1 .nil
 match g with
 | 2037 => bD (decide (0 <= d0.int /\ d0.int <= 1000000))
 | 2038 => bD (decide (d0.str.size = d1.str.size))
 | 2049 => bD (good d0.val1 && good d1.val1)
 | 2033 => bD (decide (0 < d0.str.size))
 | 2039 => bD (decide (numV (d0.cells.getD 0 .nil).bool (d0.cells.getD 1 .nil).str (d0.cells.getD 2 .nil).int = 0 /\ numV (d1.cells.getD 0 .nil).bool (d1.cells.getD 1 .nil).str (d1.cells.getD 2 .nil).int = 0))
 | 2035 => bD (decide (1 <= d1.int /\ d1.int <= 4 /\ d1.int <= d0.str.size))
 | 2043 => bD (decide (D.szL ds + 2 < n))
 | 2047 => bD (decide (D.szL ds + 4 < n))
 | 2050 => bD (decide (D.szL ds + 4 < n))
 | 2020 => bD (decide (0 <= d1.int /\ d1.int <= 1000000))
 | 2021 => bD (decide ((d0.cells.getD 1 .nil).str.size <= 40 /\ (d1.cells.getD 1 .nil).str.size <= 40 /\ -400 <= (d0.cells.getD 2 .nil).int /\ (d0.cells.getD 2 .nil).int <= 400 /\ -400 <= (d1.cells.getD 2 .nil).int /\ (d1.cells.getD 2 .nil).int <= 400))
 | 2056 => bD (decide ((d0.cells.getD 1 .nil).str.size <= 40 /\ (d1.cells.getD 1 .nil).str.size <= 40 /\ -400 <= (d0.cells.getD 2 .nil).int /\ (d0.cells.getD 2 .nil).int <= 400 /\ -400 <= (d1.cells.getD 2 .nil).int /\ (d1.cells.getD 2 .nil).int <= 400))
 | 2051 => bD (smallV d0.val1)
 | 2064 => bD (formedT d0.typ1 && formedV d1.val1)
 | 2127 => bD (formedT d0.typ1 && formedV d1.val1)
 | 2130 => bD (smallT d0.typ1)
 | 2105 => bD (decide (d0.str.size = d1.str.size /\ d0.str.size <= 10000) && (d0.str.data.toList.all (fun c => decide (48 <= c.toNat /\ c.toNat <= 57)) && d1.str.data.toList.all fun c => decide (48 <= c.toNat /\ c.toNat <= 57)))
 | 2106 => bD (decide (d0.str.size = d1.str.size /\ d0.str.size <= 10000 /\ dv d1.str.data.toList <= dv d0.str.data.toList) && (d0.str.data.toList.all (fun c => decide (48 <= c.toNat /\ c.toNat <= 57)) && d1.str.data.toList.all fun c => decide (48 <= c.toNat /\ c.toNat <= 57)))
 | 2098 => bD (decide (-1099511627776 <= (ds.getD 2 .nil).int /\ (ds.getD 2 .nil).int <= 1099511627776))
 | 2102 => bD (decide (-1099511627776 <= d0.int /\ d0.int <= 1099511627776))
 | 2111 => bD (decide (-1099511627776 <= d0.int /\ d0.int <= 1099511627776))
 | 2080 => bD (decide (d0.str.size <= 18) && digV d0.str)
 | 2081 => bD (decide (-400 <= d0.int /\ d0.int < 440))
 | 2090 => bD (decide (d0.str.size <= 1000000))
 | 2101 => bD (decide (d0.str.size <= 1000000))
 | 2082 => bD (@decide (∃ l : List UInt8, d0 = bytesD l /\ l.length <= 1000000) (Classical.propDecidable _))
 | 2094 => bD (@decide (∃ l : List UInt8, d1 = bytesD l /\ l.length <= 1000000) (Classical.propDecidable _))
 | 2109 => bD (@decide (∃ l : List UInt8, d1 = bytesD l /\ l.length <= 1000000) (Classical.propDecidable _))
 | 2100 => bD (decide (d0.str.size <= 1000000))
 | 2132 => bD (decide (d0.rows.length <= 1000000))
 | 2133 => bD (decide (d0.rows.length <= 1000000))
 | 2134 => bD (smallT d0.typ1)
 | 2135 => bD (formedT d0.typ1 && formedT d1.typ1 && (smallT d0.typ1 && smallT d1.typ1))
 | 2139 => bD (formedT d0.typ1 && formedT d1.typ1 && (smallT d0.typ1 && smallT d1.typ1))
 | 2137 => bD (formedT d0.typ1 && formedT d1.typ1)
 | 2065 => bD (formedT (d1.cells.getD 0 .nil).typ1 && (decide ((d1.cells.getD 0 .nil).typ1.list.length = 1) && d0.vals.all formedV))
 | 2068 => bD (formedT d0.typ1 && formedT d1.typ1)
 | 2069 => bD (d0.typs.all formedT && d1.typs.all formedT)
 | 2023 => bD (decide (d0.val1.names.length = d0.val1.list.length /\ d0.val1.list.length <= 256))
 | 2024 => bD (good d0.val1 && good d1.val1)
 | 2025 => bD (d0.vals.all good && d1.vals.all good)
 | 2026 => bD ((d0.pairs.all fun p => good p.2) && (d1.pairs.all fun p => good p.2))
 | 1000 => bD (@decide (okD n ds) (Classical.propDecidable _))
 | _ => .nil
noncomputable def phi (n : Nat) (g : Nat) (ds : List D) : D := bif Nat.ble 1000 g then phiS n g ds else phiG g ds
@[instance_reducible] noncomputable def I (n : Nat) : Interp := ⟨phi n⟩
theorem hphi (n : Nat) (ds : List D) (h : @Interp.phi (I n) 1000 ds = .v (.bool true)) : okD n ds := by
 have h : D.v (.bool (@decide (okD n ds) (Classical.propDecidable _))) = .v (.bool true) := h
 simp only [D.v.injEq, Value.bool.injEq, decide_eq_true_eq] at h
 exact h
theorem phi_irrel {n m g : Nat} (hg : g < 1000) (ds : List D) : phi n g ds = phi m g ds := by
 have h : Nat.ble 1000 g = false := by
  cases hb : Nat.ble 1000 g with
  | false => rfl
  | true => exact absurd (Nat.le_of_ble_eq_true hb) (by omega)
 unfold phi
 rw [h]; rfl
theorem ok_irrel {n m : Nat} {q : Sig} {pre : List D -> Prop} (hg : q.g < 1000) (h : @Ok (I n) q pre) : @Ok (I m) q pre := by
 intro W J vs ds hL hI ha hp
 refine (h W J vs ds hL hI ha hp).mono ?_
 rintro e W' ⟨v, h1, h2, h3⟩
 refine ⟨v, h1, h2, ?_⟩
 have : @Interp.phi (I m) q.g ds = @Interp.phi (I n) q.g ds := phi_irrel hg ds
 rw [this]; exact h3
theorem phi_1000 {n : Nat} {ds : List D} : (@Interp.phi (I n) 1000 ds = .v (.bool true)) ↔ okD n ds := by
 show (D.v (.bool (@decide (okD n ds) (Classical.propDecidable _))) = .v (.bool true)) ↔ _
 simp only [D.v.injEq, Value.bool.injEq, decide_eq_true_eq]
section
variable (n : Nat)
theorem phi_numcheck (a : Bool) (b : ByteArray) (c : Int) : @Interp.phi (I n) 5 [.row [bD a, sD b, iD c]] = iD (numV a b c) := rfl
theorem phi_trim (a b : ByteArray) : @Interp.phi (I n) 6 [sD a, sD b] = sD (trimV a b) := rfl
theorem phi_repeat (a : D) (i : Int) : @Interp.phi (I n) 20 [a, iD i] = sD (zer i) := rfl
theorem pre_repeat (a : D) (i : Int) : (@Interp.phi (I n) 2020 [a, iD i] = .v (.bool true)) ↔ 0 <= i /\ i <= 1000000 := by
 show (bD (decide (0 <= i /\ i <= 1000000)) = _) ↔ _
 rw [bD_true, decide_eq_true_iff]
theorem phi_trimleft (a b : ByteArray) : @Interp.phi (I n) 77 [sD a, sD b] = sD (cutLV a b) := rfl
theorem phi_trimzero (a b : ByteArray) : @Interp.phi (I n) 78 [sD a, sD b] = sD (cutLV a b) := rfl
theorem phi_trimrzero (a b : ByteArray) : @Interp.phi (I n) 79 [sD a, sD b] = sD (cutRV a b) := rfl
theorem phi_nmade (a : Bool) (b : ByteArray) (e : Int) : @Interp.phi (I n) 88 [bD a, sD b, iD e] = .row [numD (madeV a b e).1, iD (madeV a b e).2] := rfl
theorem phi_atoi (a : ByteArray) : @Interp.phi (I n) 80 [sD a] = .row [iD (dv a.data.toList)] := rfl
theorem phi_itoa (i : Int) : @Interp.phi (I n) 81 [iD i] = sD (smallText i) := rfl
theorem phi_cutminus (a b : ByteArray) : @Interp.phi (I n) 83 [sD a, sD b] = .row [sD (cutP 45 a), bD (decide (at0 a = 45))] := rfl
theorem phi_cutdot (a b : ByteArray) : @Interp.phi (I n) 84 [sD a, sD b] = .row [sD (cutP 46 a), bD (decide (at0 a = 46))] := rfl
theorem phi_hasminus (a b : ByteArray) : @Interp.phi (I n) 85 [sD a, sD b] = bD (decide (at0 a = 45)) := rfl
theorem phi_hasplus (a b : ByteArray) : @Interp.phi (I n) 86 [sD a, sD b] = bD (decide (at0 a = 43)) := rfl
theorem phi_ndigits (a : ByteArray) : @Interp.phi (I n) 87 [sD a] = bD (digV a) := rfl
theorem phi_nfront (a : ByteArray) : @Interp.phi (I n) 89 [sD a] = .row [sD (frontV a), sD (restV a)] := rfl
theorem phi_nparse (a : ByteArray) : @Interp.phi (I n) 90 [sD a] = .row [numD (parseV a).1, iD (parseV a).2] := rfl
theorem phi_nprint (t : NumT) : @Interp.phi (I n) 91 [numD t] = .row [sD (printV t).1, iD (printV t).2] := rfl
theorem phi_nround (ds : List D) : @Interp.phi (I n) 116 ds = bD true := rfl
theorem bytL_bytesD (l : List UInt8) : bytL (bytesD l) = l := by
 unfold bytL bytesD
 show (l.map _).map _ = l
 rw [List.map_map]
 conv => rhs; rw [<- List.map_id l]
 exact List.map_congr_left fun c _ => UInt8.ofNat_toNat
theorem phi_nof (a : Bool) (l : List UInt8) : @Interp.phi (I n) 94 [bD a, bytesD l] = .row [numD (ofV a l).1, iD (ofV a l).2] := by
 show D.row [numD (ofV a (bytL (bytesD l))).1, iD (ofV a (bytL (bytesD l))).2] = _
 rw [bytL_bytesD]
theorem phi_nbytes (t : NumT) : @Interp.phi (I n) 95 [numD t] = .row [bytesD (bytesV t).1, iD (bytesV t).2] := rfl
theorem pre_atoi (a : ByteArray) : (@Interp.phi (I n) 2080 [sD a] = .v (.bool true)) ↔ a.size <= 18 /\ digV a = true := by
 show (bD (decide (a.size <= 18) && digV a) = _) ↔ _
 rw [bD_true, Bool.and_eq_true, decide_eq_true_iff]
theorem pre_itoa (e : Int) : (@Interp.phi (I n) 2081 [iD e] = .v (.bool true)) ↔ -400 <= e /\ e < 440 := by
 show (bD (decide (-400 <= e /\ e < 440)) = _) ↔ _
 rw [bD_true, decide_eq_true_iff]
theorem pre_nparse (a : ByteArray) : (@Interp.phi (I n) 2090 [sD a] = .v (.bool true)) ↔ a.size <= 1000000 := by
 show (bD (decide (a.size <= 1000000)) = _) ↔ _
 rw [bD_true, decide_eq_true_iff]
theorem phi_reverse (l : List UInt8) : @Interp.phi (I n) 82 [bytesD l] = .row [bytesD l.reverse] := by
 show D.row [bytesD (bytL (bytesD l)).reverse] = _
 rw [bytL_bytesD]
theorem pre_reverse (d : D) : (@Interp.phi (I n) 2082 [d] = .v (.bool true)) ↔ ∃ l : List UInt8, d = bytesD l /\ l.length <= 1000000 := by
 show (bD (@decide _ (Classical.propDecidable _)) = _) ↔ _
 rw [bD_true, @decide_eq_true_iff _ (Classical.propDecidable _)]
 rfl
theorem pre_nof (a d : D) : (@Interp.phi (I n) 2094 [a, d] = .v (.bool true)) ↔ ∃ l : List UInt8, d = bytesD l /\ l.length <= 1000000 := by
 show (bD (@decide _ (Classical.propDecidable _)) = _) ↔ _
 rw [bD_true, @decide_eq_true_iff _ (Classical.propDecidable _)]
 rfl
theorem phi_nawake : @Interp.phi (I n) 112 [] = bD true := rfl
end
end Go.Proofs.YtflhikakndanjaaDoor.Vk
/-
 Contracts of Go's library at this seat's dump, in plain declarations: written by wip/myshelf.py with the kit's lay-shelf.mjs and lay-plain.mjs.
-/
namespace Go.Proofs
open Go.Shelf
def Tryd.lays172_ren : Go.Shelf.Ren := ⟨fun | 172 => 81 | 244 => 126 | 245 => 127 | 247 => 164 | 279 => 165 | 280 => 166 | 281 => 167 | 282 => 168 | 287 => 183 | 316 => 184 | 171 => 87 | 205 => 185 | 321 => 198 | 322 => 199 | 243 => 134 | 246 => 173 | 283 => 188 | 284 => 189 | 285 => 190 | 286 => 191 | 129 => 201 | 317 => 200 | 318 => 202 | 319 => 203 | 320 => 204 | 337 => 211 | 338 => 212 | n => n, fun | 9 => 9 | 3 => 3 | 75 => 111 | 76 => 112 | 4 => 4 | 5 => 5 | 167 => 170 | 37 => 70 | 0 => 0 | 85 => 171 | 2 => 2 | 168 => 173 | 53 => 25 | 175 => 194 | 46 => 122 | 210 => 198 | 127 => 181 | 145 => 217 | 143 => 215 | 21 => 21 | 171 => 203 | 173 => 206 | 212 => 219 | 51 => 176 | 20 => 20 | 213 => 220 | 232 => 226 | 233 => 227 | 80 => 157 | n => n, fun | 15 => 3 | 16 => 4 | 17 => 6 | 18 => 7 | 19 => 8 | n => n⟩
theorem Tryd.lays172 : Go.Proofs.Lays.n172 Tryd.prog Tryd.lays172_ren := {
 mixed := by kernel_rfl
 f129 := Tryd.func201.trans (congrArg some (by kernel_rfl))
 f171 := Tryd.func87.trans (congrArg some (by kernel_rfl))
 f172 := Tryd.func81.trans (congrArg some (by kernel_rfl))
 f205 := Tryd.func185.trans (congrArg some (by kernel_rfl))
 f243 := Tryd.func134.trans (congrArg some (by kernel_rfl))
 f244 := Tryd.func126.trans (congrArg some (by kernel_rfl))
 f245 := Tryd.func127.trans (congrArg some (by kernel_rfl))
 f246 := Tryd.func173.trans (congrArg some (by kernel_rfl))
 f247 := Tryd.func164.trans (congrArg some (by kernel_rfl))
 f279 := Tryd.func165.trans (congrArg some (by kernel_rfl))
 f280 := Tryd.func166.trans (congrArg some (by kernel_rfl))
 f281 := Tryd.func167.trans (congrArg some (by kernel_rfl))
 f282 := Tryd.func168.trans (congrArg some (by kernel_rfl))
 f283 := Tryd.func188.trans (congrArg some (by kernel_rfl))
 f284 := Tryd.func189.trans (congrArg some (by kernel_rfl))
 f285 := Tryd.func190.trans (congrArg some (by kernel_rfl))
 f286 := Tryd.func191.trans (congrArg some (by kernel_rfl))
 f287 := Tryd.func183.trans (congrArg some (by kernel_rfl))
 f316 := Tryd.func184.trans (congrArg some (by kernel_rfl))
 f317 := Tryd.func200.trans (congrArg some (by kernel_rfl))
 f318 := Tryd.func202.trans (congrArg some (by kernel_rfl))
 f319 := Tryd.func203.trans (congrArg some (by kernel_rfl))
 f320 := Tryd.func204.trans (congrArg some (by kernel_rfl))
 f321 := Tryd.func198.trans (congrArg some (by kernel_rfl))
 f322 := Tryd.func199.trans (congrArg some (by kernel_rfl))
 f337 := Tryd.func211.trans (congrArg some (by kernel_rfl))
 f338 := Tryd.func212.trans (congrArg some (by kernel_rfl))
 t0 := Tryd.underlying0
 a0 := Tryd.isAgg0
 z0 := Tryd.sizeOf0
 v0 := Tryd.zeroValue0
 t2 := Tryd.underlying2
 a2 := Tryd.isAgg2
 z2 := Tryd.sizeOf2
 v2 := Tryd.zeroValue2
 t3 := Tryd.underlying3
 a3 := Tryd.isAgg3
 z3 := Tryd.sizeOf3
 v3 := Tryd.zeroValue3
 t4 := Tryd.underlying4
 a4 := Tryd.isAgg4
 z4 := Tryd.sizeOf4
 v4 := Tryd.zeroValue4
 t5 := Tryd.underlying5
 a5 := Tryd.isAgg5
 z5 := Tryd.sizeOf5
 v5 := Tryd.zeroValue5
 t9 := Tryd.underlying9
 a9 := Tryd.isAgg9
 z9 := Tryd.sizeOf9
 v9 := Tryd.zeroValue9
 t20 := Tryd.underlying20
 a20 := Tryd.isAgg20
 z20 := Tryd.sizeOf20
 v20 := Tryd.zeroValue20
 t21 := Tryd.underlying21
 a21 := Tryd.isAgg21
 z21 := Tryd.sizeOf21
 v21 := Tryd.zeroValue21
 t37 := Tryd.underlying70
 a37 := Tryd.isAgg70
 z37 := Tryd.sizeOf70
 v37 := Tryd.zeroValue70
 t46 := Tryd.underlying122
 a46 := Tryd.isAgg122
 z46 := Tryd.sizeOf122
 v46 := Tryd.zeroValue122
 t51 := Tryd.underlying176
 a51 := Tryd.isAgg176
 z51 := Tryd.sizeOf176
 v51 := Tryd.zeroValue176
 t53 := Tryd.underlying25
 a53 := Tryd.isAgg25
 z53 := Tryd.sizeOf25
 v53 := Tryd.zeroValue25
 t75 := Tryd.underlying111
 a75 := Tryd.isAgg111
 z75 := Tryd.sizeOf111
 v75 := Tryd.zeroValue111
 t76 := Tryd.underlying112
 a76 := Tryd.isAgg112
 z76 := Tryd.sizeOf112
 v76 := Tryd.zeroValue112
 t85 := Tryd.underlying171
 a85 := Tryd.isAgg171
 z85 := Tryd.sizeOf171
 v85 := Tryd.zeroValue171
 t127 := Tryd.underlying181
 a127 := Tryd.isAgg181
 z127 := Tryd.sizeOf181
 v127 := Tryd.zeroValue181
 t143 := Tryd.underlying215
 a143 := Tryd.isAgg215
 z143 := Tryd.sizeOf215
 v143 := Tryd.zeroValue215
 t145 := Tryd.underlying217
 a145 := Tryd.isAgg217
 z145 := Tryd.sizeOf217
 v145 := Tryd.zeroValue217
 t167 := Tryd.underlying170
 a167 := Tryd.isAgg170
 z167 := Tryd.sizeOf170
 v167 := Tryd.zeroValue170
 t168 := Tryd.underlying173
 a168 := Tryd.isAgg173
 z168 := Tryd.sizeOf173
 v168 := Tryd.zeroValue173
 t171 := Tryd.underlying203
 a171 := Tryd.isAgg203
 z171 := Tryd.sizeOf203
 v171 := Tryd.zeroValue203
 t173 := Tryd.underlying206
 a173 := Tryd.isAgg206
 z173 := Tryd.sizeOf206
 v173 := Tryd.zeroValue206
 t175 := Tryd.underlying194
 a175 := Tryd.isAgg194
 z175 := Tryd.sizeOf194
 v175 := Tryd.zeroValue194
 t210 := Tryd.underlying198
 a210 := Tryd.isAgg198
 z210 := Tryd.sizeOf198
 v210 := Tryd.zeroValue198
 t212 := Tryd.underlying219
 a212 := Tryd.isAgg219
 z212 := Tryd.sizeOf219
 v212 := Tryd.zeroValue219
 t213 := Tryd.underlying220
 a213 := Tryd.isAgg220
 z213 := Tryd.sizeOf220
 t232 := Tryd.underlying226
 a232 := Tryd.isAgg226
 z232 := Tryd.sizeOf226
 v232 := Tryd.zeroValue226
 t233 := Tryd.underlying227
 a233 := Tryd.isAgg227
 z233 := Tryd.sizeOf227
 v233 := Tryd.zeroValue227
 g15 := by kernel_rfl
 g16 := by kernel_rfl
 g17 := by kernel_rfl
 g18 := by kernel_rfl
 g19 := by kernel_rfl }
def Tryd.lays105_ren : Go.Shelf.Ren := ⟨fun | 105 => 86 | 212 => 129 | 99 => 78 | 165 => 130 | 166 => 131 | 170 => 132 | 169 => 133 | 263 => 169 | 264 => 170 | 206 => 120 | 240 => 171 | 241 => 172 | 276 => 186 | 277 => 187 | n => n, fun | 9 => 9 | 3 => 3 | 4 => 4 | 20 => 20 | 0 => 0 | 46 => 122 | 109 => 151 | 5 => 5 | 72 => 155 | 76 => 112 | 51 => 176 | 146 => 177 | 53 => 25 | 148 => 179 | 70 => 153 | 37 => 70 | 75 => 111 | 127 => 181 | 164 => 200 | 80 => 157 | n => n, fun | n => n⟩
theorem Tryd.lays105 : Go.Proofs.Lays.n105 Tryd.prog Tryd.lays105_ren := {
 mixed := by kernel_rfl
 f99 := Tryd.func78.trans (congrArg some (by kernel_rfl))
 f105 := Tryd.func86.trans (congrArg some (by kernel_rfl))
 f165 := Tryd.func130.trans (congrArg some (by kernel_rfl))
 f166 := Tryd.func131.trans (congrArg some (by kernel_rfl))
 f169 := Tryd.func133.trans (congrArg some (by kernel_rfl))
 f170 := Tryd.func132.trans (congrArg some (by kernel_rfl))
 f206 := Tryd.func120.trans (congrArg some (by kernel_rfl))
 f212 := Tryd.func129.trans (congrArg some (by kernel_rfl))
 f240 := Tryd.func171.trans (congrArg some (by kernel_rfl))
 f241 := Tryd.func172.trans (congrArg some (by kernel_rfl))
 f263 := Tryd.func169.trans (congrArg some (by kernel_rfl))
 f264 := Tryd.func170.trans (congrArg some (by kernel_rfl))
 f276 := Tryd.func186.trans (congrArg some (by kernel_rfl))
 f277 := Tryd.func187.trans (congrArg some (by kernel_rfl))
 t0 := Tryd.underlying0
 a0 := Tryd.isAgg0
 z0 := Tryd.sizeOf0
 v0 := Tryd.zeroValue0
 t3 := Tryd.underlying3
 a3 := Tryd.isAgg3
 z3 := Tryd.sizeOf3
 v3 := Tryd.zeroValue3
 t4 := Tryd.underlying4
 a4 := Tryd.isAgg4
 z4 := Tryd.sizeOf4
 v4 := Tryd.zeroValue4
 t5 := Tryd.underlying5
 a5 := Tryd.isAgg5
 z5 := Tryd.sizeOf5
 v5 := Tryd.zeroValue5
 t9 := Tryd.underlying9
 a9 := Tryd.isAgg9
 z9 := Tryd.sizeOf9
 v9 := Tryd.zeroValue9
 t20 := Tryd.underlying20
 a20 := Tryd.isAgg20
 z20 := Tryd.sizeOf20
 v20 := Tryd.zeroValue20
 t37 := Tryd.underlying70
 a37 := Tryd.isAgg70
 z37 := Tryd.sizeOf70
 v37 := Tryd.zeroValue70
 t46 := Tryd.underlying122
 a46 := Tryd.isAgg122
 z46 := Tryd.sizeOf122
 v46 := Tryd.zeroValue122
 t51 := Tryd.underlying176
 a51 := Tryd.isAgg176
 z51 := Tryd.sizeOf176
 v51 := Tryd.zeroValue176
 t53 := Tryd.underlying25
 a53 := Tryd.isAgg25
 z53 := Tryd.sizeOf25
 v53 := Tryd.zeroValue25
 t70 := Tryd.underlying153
 a70 := Tryd.isAgg153
 z70 := Tryd.sizeOf153
 v70 := Tryd.zeroValue153
 t72 := Tryd.underlying155
 a72 := Tryd.isAgg155
 z72 := Tryd.sizeOf155
 v72 := Tryd.zeroValue155
 t75 := Tryd.underlying111
 a75 := Tryd.isAgg111
 z75 := Tryd.sizeOf111
 v75 := Tryd.zeroValue111
 t76 := Tryd.underlying112
 a76 := Tryd.isAgg112
 z76 := Tryd.sizeOf112
 v76 := Tryd.zeroValue112
 t109 := Tryd.underlying151
 a109 := Tryd.isAgg151
 z109 := Tryd.sizeOf151
 v109 := Tryd.zeroValue151
 t127 := Tryd.underlying181
 a127 := Tryd.isAgg181
 z127 := Tryd.sizeOf181
 v127 := Tryd.zeroValue181
 t146 := Tryd.underlying177
 a146 := Tryd.isAgg177
 z146 := Tryd.sizeOf177
 v146 := Tryd.zeroValue177
 t148 := Tryd.underlying179
 a148 := Tryd.isAgg179
 z148 := Tryd.sizeOf179
 v148 := Tryd.zeroValue179
 t164 := Tryd.underlying200
 a164 := Tryd.isAgg200
 z164 := Tryd.sizeOf200
 v164 := Tryd.zeroValue200 }
theorem Tryd.Builder_Extra_105 : Builder.Extra Tryd.prog Tryd.lays105_ren := {
 sizeBuilder := by kernel_rfl
 liesBuilder := by kernel_rfl
 t5 := Tryd.underlying5
 a5 := Tryd.isAgg5
 z5 := Tryd.sizeOf5
 v5 := Tryd.zeroValue5
 infoByte := by kernel_rfl
 cellsByte := by kernel_rfl
 sizeByte := by kernel_rfl
 neB5 := by decide }
open Go.RowKit in
theorem Tryd.strconv_Atoi (s : ByteArray) (n : Int) (hl : s.size <= 18) (h : Lib.atoi s.data.toList = some n) (w : World) :
  Calls Tryd.prog 81 #[.string s] w fun e w' => e = .returned (.tuple #[.int .i64 n, .nilIface]) /\ ∃ t, w' = Lib.bytesWorld w 5 t := Any.strconv_Atoi Tryd.lays172 s n hl h w
open Go.RowKit Go.Lib in
theorem Tryd.strings_Repeat (s : ByteArray) (c : Nat) (w : World) (hc : c <= 9223372036854775807) (hlen : s.size * c <= 140737488355328) :
  Calls Tryd.prog 86 #[.string s, .int .i64 c] w fun e w' => e = .returned (.string ⟨(Lib.repeatL s.data.toList c).toArray⟩) /\ Below w.heap.size w w' := Any.strings_Repeat Tryd.lays105 Tryd.Builder_Extra_105 s c w hc hlen
def Tryd.lays160_ren : Go.Shelf.Ren := ⟨fun | 160 => 121 | 232 => 158 | 231 => 122 | 227 => 123 | 234 => 159 | 233 => 124 | 236 => 160 | 235 => 125 | 228 => 161 | 271 => 180 | 151 => 163 | 197 => 162 | 120 => 193 | 152 => 182 | 260 => 181 | 137 => 194 | 119 => 195 | 224 => 196 | 225 => 197 | 217 => 210 | 266 => 213 | n => n, fun | 9 => 9 | 4 => 4 | 3 => 3 | 5 => 5 | 117 => 146 | 116 => 145 | 0 => 0 | 124 => 149 | 21 => 21 | 105 => 167 | 46 => 122 | 119 => 188 | 139 => 191 | 138 => 190 | n => n, fun | 3 => 1 | 4 => 2 | n => n⟩
theorem Tryd.lays160 : Go.Proofs.Lays.n160 Tryd.prog Tryd.lays160_ren := {
 mixed := by kernel_rfl
 f119 := Tryd.func195.trans (congrArg some (by kernel_rfl))
 f120 := Tryd.func193.trans (congrArg some (by kernel_rfl))
 f137 := Tryd.func194.trans (congrArg some (by kernel_rfl))
 f151 := Tryd.func163.trans (congrArg some (by kernel_rfl))
 f152 := Tryd.func182.trans (congrArg some (by kernel_rfl))
 f160 := Tryd.func121.trans (congrArg some (by kernel_rfl))
 f197 := Tryd.func162.trans (congrArg some (by kernel_rfl))
 f217 := Tryd.func210.trans (congrArg some (by kernel_rfl))
 f224 := Tryd.func196.trans (congrArg some (by kernel_rfl))
 f225 := Tryd.func197.trans (congrArg some (by kernel_rfl))
 f227 := Tryd.func123.trans (congrArg some (by kernel_rfl))
 f228 := Tryd.func161.trans (congrArg some (by kernel_rfl))
 f231 := Tryd.func122.trans (congrArg some (by kernel_rfl))
 f232 := Tryd.func158.trans (congrArg some (by kernel_rfl))
 f233 := Tryd.func124.trans (congrArg some (by kernel_rfl))
 f234 := Tryd.func159.trans (congrArg some (by kernel_rfl))
 f235 := Tryd.func125.trans (congrArg some (by kernel_rfl))
 f236 := Tryd.func160.trans (congrArg some (by kernel_rfl))
 f260 := Tryd.func181.trans (congrArg some (by kernel_rfl))
 f266 := Tryd.func213.trans (congrArg some (by kernel_rfl))
 f271 := Tryd.func180.trans (congrArg some (by kernel_rfl))
 t0 := Tryd.underlying0
 a0 := Tryd.isAgg0
 z0 := Tryd.sizeOf0
 v0 := Tryd.zeroValue0
 t3 := Tryd.underlying3
 a3 := Tryd.isAgg3
 z3 := Tryd.sizeOf3
 v3 := Tryd.zeroValue3
 t4 := Tryd.underlying4
 a4 := Tryd.isAgg4
 z4 := Tryd.sizeOf4
 v4 := Tryd.zeroValue4
 t5 := Tryd.underlying5
 a5 := Tryd.isAgg5
 z5 := Tryd.sizeOf5
 v5 := Tryd.zeroValue5
 t9 := Tryd.underlying9
 a9 := Tryd.isAgg9
 z9 := Tryd.sizeOf9
 v9 := Tryd.zeroValue9
 t21 := Tryd.underlying21
 a21 := Tryd.isAgg21
 z21 := Tryd.sizeOf21
 v21 := Tryd.zeroValue21
 t46 := Tryd.underlying122
 a46 := Tryd.isAgg122
 z46 := Tryd.sizeOf122
 v46 := Tryd.zeroValue122
 t105 := Tryd.underlying167
 a105 := Tryd.isAgg167
 z105 := Tryd.sizeOf167
 v105 := Tryd.zeroValue167
 t116 := Tryd.underlying145
 a116 := Tryd.isAgg145
 z116 := Tryd.sizeOf145
 t117 := Tryd.underlying146
 a117 := Tryd.isAgg146
 z117 := Tryd.sizeOf146
 v117 := Tryd.zeroValue146
 t119 := Tryd.underlying188
 a119 := Tryd.isAgg188
 z119 := Tryd.sizeOf188
 t124 := Tryd.underlying149
 a124 := Tryd.isAgg149
 z124 := Tryd.sizeOf149
 v124 := Tryd.zeroValue149
 t138 := Tryd.underlying190
 a138 := Tryd.isAgg190
 z138 := Tryd.sizeOf190
 v138 := Tryd.zeroValue190
 t139 := Tryd.underlying191
 a139 := Tryd.isAgg191
 z139 := Tryd.sizeOf191
 v139 := Tryd.zeroValue191
 g3 := by kernel_rfl
 g4 := by kernel_rfl }
open Go.RowKit in
theorem Tryd.strings_Trim_laid (s cutset : ByteArray) (w : World) (hs : s.size <= 9223372036854775807) (hcs : cutset.size < 4294967281) (hascii : ∀ (j : Nat) b, cutset.data.toList[j]? = some b -> b.toNat < 128) :
  Calls Tryd.prog 121 #[.string s, .string cutset] w fun e w' => e = .returned (.string ⟨(Lib.trimS s.data.toList cutset.data.toList).toArray⟩) /\ Below w.heap.size w w' := Any.strings_Trim_laid Tryd.lays160 (by kernel_rfl) s cutset w hs hcs hascii
def Tryd.lays161_ren : Go.Shelf.Ren := ⟨fun | 161 => 80 | 231 => 122 | 227 => 123 | 233 => 124 | 235 => 125 | 228 => 161 | 197 => 162 | 151 => 163 | 260 => 181 | 152 => 182 | 137 => 194 | 119 => 195 | 224 => 196 | 225 => 197 | 217 => 210 | 266 => 213 | n => n, fun | 9 => 9 | 4 => 4 | 3 => 3 | 5 => 5 | 117 => 146 | 116 => 145 | 0 => 0 | 124 => 149 | 105 => 167 | 21 => 21 | 119 => 188 | 46 => 122 | 139 => 191 | 138 => 190 | n => n, fun | 3 => 1 | 4 => 2 | n => n⟩
theorem Tryd.lays161 : Go.Proofs.Lays.n161 Tryd.prog Tryd.lays161_ren := {
 mixed := by kernel_rfl
 f119 := Tryd.func195.trans (congrArg some (by kernel_rfl))
 f137 := Tryd.func194.trans (congrArg some (by kernel_rfl))
 f151 := Tryd.func163.trans (congrArg some (by kernel_rfl))
 f152 := Tryd.func182.trans (congrArg some (by kernel_rfl))
 f161 := Tryd.func80.trans (congrArg some (by kernel_rfl))
 f197 := Tryd.func162.trans (congrArg some (by kernel_rfl))
 f217 := Tryd.func210.trans (congrArg some (by kernel_rfl))
 f224 := Tryd.func196.trans (congrArg some (by kernel_rfl))
 f225 := Tryd.func197.trans (congrArg some (by kernel_rfl))
 f227 := Tryd.func123.trans (congrArg some (by kernel_rfl))
 f228 := Tryd.func161.trans (congrArg some (by kernel_rfl))
 f231 := Tryd.func122.trans (congrArg some (by kernel_rfl))
 f233 := Tryd.func124.trans (congrArg some (by kernel_rfl))
 f235 := Tryd.func125.trans (congrArg some (by kernel_rfl))
 f260 := Tryd.func181.trans (congrArg some (by kernel_rfl))
 f266 := Tryd.func213.trans (congrArg some (by kernel_rfl))
 t0 := Tryd.underlying0
 a0 := Tryd.isAgg0
 z0 := Tryd.sizeOf0
 v0 := Tryd.zeroValue0
 t3 := Tryd.underlying3
 a3 := Tryd.isAgg3
 z3 := Tryd.sizeOf3
 v3 := Tryd.zeroValue3
 t4 := Tryd.underlying4
 a4 := Tryd.isAgg4
 z4 := Tryd.sizeOf4
 v4 := Tryd.zeroValue4
 t5 := Tryd.underlying5
 a5 := Tryd.isAgg5
 z5 := Tryd.sizeOf5
 v5 := Tryd.zeroValue5
 t9 := Tryd.underlying9
 a9 := Tryd.isAgg9
 z9 := Tryd.sizeOf9
 v9 := Tryd.zeroValue9
 t21 := Tryd.underlying21
 a21 := Tryd.isAgg21
 z21 := Tryd.sizeOf21
 v21 := Tryd.zeroValue21
 t46 := Tryd.underlying122
 a46 := Tryd.isAgg122
 z46 := Tryd.sizeOf122
 v46 := Tryd.zeroValue122
 t105 := Tryd.underlying167
 a105 := Tryd.isAgg167
 z105 := Tryd.sizeOf167
 v105 := Tryd.zeroValue167
 t116 := Tryd.underlying145
 a116 := Tryd.isAgg145
 z116 := Tryd.sizeOf145
 t117 := Tryd.underlying146
 a117 := Tryd.isAgg146
 z117 := Tryd.sizeOf146
 v117 := Tryd.zeroValue146
 t119 := Tryd.underlying188
 a119 := Tryd.isAgg188
 z119 := Tryd.sizeOf188
 t124 := Tryd.underlying149
 a124 := Tryd.isAgg149
 z124 := Tryd.sizeOf149
 v124 := Tryd.zeroValue149
 t138 := Tryd.underlying190
 a138 := Tryd.isAgg190
 z138 := Tryd.sizeOf190
 v138 := Tryd.zeroValue190
 t139 := Tryd.underlying191
 a139 := Tryd.isAgg191
 z139 := Tryd.sizeOf191
 v139 := Tryd.zeroValue191
 g3 := by kernel_rfl
 g4 := by kernel_rfl }
open Go.RowKit in
theorem Tryd.strings_TrimLeft_laid (s cutset : ByteArray) (w : World) (hcs : cutset.size < 4294967281) (hascii : ∀ (j : Nat) b, cutset.data.toList[j]? = some b -> b.toNat < 128) :
  Calls Tryd.prog 80 #[.string s, .string cutset] w fun e w' => e = .returned (.string ⟨(Lib.trimLeftS s.data.toList cutset.data.toList).toArray⟩) /\ Below w.heap.size w w' := Any.strings_TrimLeft_laid Tryd.lays161 (by kernel_rfl) s cutset w hcs hascii
def Tryd.lays162_ren : Go.Shelf.Ren := ⟨fun | 162 => 128 | 232 => 158 | 227 => 123 | 234 => 159 | 236 => 160 | 228 => 161 | 271 => 180 | 151 => 163 | 120 => 193 | 197 => 162 | 152 => 182 | 260 => 181 | 137 => 194 | 119 => 195 | 224 => 196 | 225 => 197 | 217 => 210 | 266 => 213 | n => n, fun | 9 => 9 | 4 => 4 | 3 => 3 | 5 => 5 | 117 => 146 | 116 => 145 | 0 => 0 | 124 => 149 | 21 => 21 | 105 => 167 | 46 => 122 | 119 => 188 | 139 => 191 | 138 => 190 | n => n, fun | 3 => 1 | 4 => 2 | n => n⟩
theorem Tryd.lays162 : Go.Proofs.Lays.n162 Tryd.prog Tryd.lays162_ren := {
 mixed := by kernel_rfl
 f119 := Tryd.func195.trans (congrArg some (by kernel_rfl))
 f120 := Tryd.func193.trans (congrArg some (by kernel_rfl))
 f137 := Tryd.func194.trans (congrArg some (by kernel_rfl))
 f151 := Tryd.func163.trans (congrArg some (by kernel_rfl))
 f152 := Tryd.func182.trans (congrArg some (by kernel_rfl))
 f162 := Tryd.func128.trans (congrArg some (by kernel_rfl))
 f197 := Tryd.func162.trans (congrArg some (by kernel_rfl))
 f217 := Tryd.func210.trans (congrArg some (by kernel_rfl))
 f224 := Tryd.func196.trans (congrArg some (by kernel_rfl))
 f225 := Tryd.func197.trans (congrArg some (by kernel_rfl))
 f227 := Tryd.func123.trans (congrArg some (by kernel_rfl))
 f228 := Tryd.func161.trans (congrArg some (by kernel_rfl))
 f232 := Tryd.func158.trans (congrArg some (by kernel_rfl))
 f234 := Tryd.func159.trans (congrArg some (by kernel_rfl))
 f236 := Tryd.func160.trans (congrArg some (by kernel_rfl))
 f260 := Tryd.func181.trans (congrArg some (by kernel_rfl))
 f266 := Tryd.func213.trans (congrArg some (by kernel_rfl))
 f271 := Tryd.func180.trans (congrArg some (by kernel_rfl))
 t0 := Tryd.underlying0
 a0 := Tryd.isAgg0
 z0 := Tryd.sizeOf0
 v0 := Tryd.zeroValue0
 t3 := Tryd.underlying3
 a3 := Tryd.isAgg3
 z3 := Tryd.sizeOf3
 v3 := Tryd.zeroValue3
 t4 := Tryd.underlying4
 a4 := Tryd.isAgg4
 z4 := Tryd.sizeOf4
 v4 := Tryd.zeroValue4
 t5 := Tryd.underlying5
 a5 := Tryd.isAgg5
 z5 := Tryd.sizeOf5
 v5 := Tryd.zeroValue5
 t9 := Tryd.underlying9
 a9 := Tryd.isAgg9
 z9 := Tryd.sizeOf9
 v9 := Tryd.zeroValue9
 t21 := Tryd.underlying21
 a21 := Tryd.isAgg21
 z21 := Tryd.sizeOf21
 v21 := Tryd.zeroValue21
 t46 := Tryd.underlying122
 a46 := Tryd.isAgg122
 z46 := Tryd.sizeOf122
 v46 := Tryd.zeroValue122
 t105 := Tryd.underlying167
 a105 := Tryd.isAgg167
 z105 := Tryd.sizeOf167
 v105 := Tryd.zeroValue167
 t116 := Tryd.underlying145
 a116 := Tryd.isAgg145
 z116 := Tryd.sizeOf145
 t117 := Tryd.underlying146
 a117 := Tryd.isAgg146
 z117 := Tryd.sizeOf146
 v117 := Tryd.zeroValue146
 t119 := Tryd.underlying188
 a119 := Tryd.isAgg188
 z119 := Tryd.sizeOf188
 t124 := Tryd.underlying149
 a124 := Tryd.isAgg149
 z124 := Tryd.sizeOf149
 v124 := Tryd.zeroValue149
 t138 := Tryd.underlying190
 a138 := Tryd.isAgg190
 z138 := Tryd.sizeOf190
 v138 := Tryd.zeroValue190
 t139 := Tryd.underlying191
 a139 := Tryd.isAgg191
 z139 := Tryd.sizeOf191
 v139 := Tryd.zeroValue191
 g3 := by kernel_rfl
 g4 := by kernel_rfl }
open Go.RowKit in
theorem Tryd.strings_TrimRight_laid (s cutset : ByteArray) (w : World) (hs : s.size <= 9223372036854775807) (hcs : cutset.size < 4294967281) (hascii : ∀ (j : Nat) b, cutset.data.toList[j]? = some b -> b.toNat < 128) :
  Calls Tryd.prog 128 #[.string s, .string cutset] w fun e w' => e = .returned (.string ⟨(Lib.trimRightS s.data.toList cutset.data.toList).toArray⟩) /\ Below w.heap.size w w' := Any.strings_TrimRight_laid Tryd.lays162 (by kernel_rfl) s cutset w hs hcs hascii
end Go.Proofs
/- Contracts: numbers' form. -/
namespace Go.Proofs.YtflhikakndanjaaDoor.Vk
open Go Go.Ab Go.RowKit
theorem one_num {d : List D} (h : FitL tb [.row 24] d) : ∃ a b c, d = [.row [bD a, sD b, iD c]] := by
 match d, h with
 | [d], ⟨⟨cs, e, hf⟩, _⟩ =>
  subst e
  obtain ⟨d1, r, rfl, g1, hf⟩ := fitsC_cons (show fitsC (kn [] tb).shape cs [.sc .b, .sc .s, .sc (.i .i64)] from hf)
  obtain ⟨d2, r, rfl, g2, hf⟩ := fitsC_cons hf
  obtain ⟨d3, r, rfl, g3, hf⟩ := fitsC_cons hf
  obtain rfl := fitsC_nil hf
  obtain ⟨a, rfl⟩ := fits_bool g1
  obtain ⟨b, rfl⟩ := fits_str g2
  obtain ⟨c, rfl⟩ := fits_int g3
  exact ⟨a, b, c, rfl⟩
theorem ok_scalar [Interp] {q : Sig} {pre : List D -> Prop} {t : Ty} (hr : q.res = [.cell (.sc t)]) (h : ∀ (W : World) (vs : Array Value) (ds : List D), TabsMet tabs W -> ArgsR (kn [] tb).shape (fun b off => W.cell? ⟨b, off, none⟩) (fun _ _ => True) q.args vs.toList ds -> pre ds ->
  Calls Tryd.prog q.f vs W fun e W' => ∃ v, e = .returned v /\ Below W.heap.size W W' /\ Interp.phi q.g ds = .v v /\ tyV t v = true) : Ok q pre := by
 intro W J vs ds hL hI ha hp
 refine (callsIn_wide.2 (h W vs ds hL (ha.mono fun b off v hc _ => ⟨hc, trivial⟩) hp)).mono ?_
 rintro e W' ⟨v, rfl, hb, h1, h2⟩
 refine ⟨v, rfl, hb, ?_⟩
 rw [hr, h1]
 exact ⟨by unfold DV; exact ⟨rfl, tyV_ok h2⟩, by unfold fits; exact h2⟩
theorem arg_str {C : Nat -> Nat -> Option Value} {J : Nat -> Nat -> Prop} {v : Value} {d : D} (h : ArgR (kn [] tb).shape C J (.cell (.sc .s)) v d) : ∃ s, v = .string s /\ d = sD s := by
 obtain ⟨h1, h2⟩ := h
 obtain ⟨s, rfl⟩ := fits_str h2
 unfold DV at h1
 exact ⟨s, h1.1, rfl⟩
theorem args_one {C : Nat -> Nat -> Option Value} {J : Nat -> Nat -> Prop} {h : Sh} {vs : Array Value} {ds : List D} (k : ArgsR (kn [] tb).shape C J [h] vs.toList ds) : ∃ v d, vs = #[v] /\ ds = [d] /\ ArgR (kn [] tb).shape C J h v d := by
 obtain ⟨vs⟩ := vs
 match vs, ds, k with
 | [v], [d], k => exact ⟨v, d, rfl, rfl, k.1⟩
 | [], _ :: _, k => exact k.elim
 | [], [], k => exact k.elim
 | [_], [], k => exact k.elim
 | _ :: _ :: _, [], k => exact k.elim
 | _ :: _ :: _, [_], k => exact k.2.elim
 | [_], _ :: _ :: _, k => exact k.2.elim
 | _ :: _ :: _, _ :: _ :: _, k => exact k.2.elim
theorem args_two {C : Nat -> Nat -> Option Value} {J : Nat -> Nat -> Prop} {h h' : Sh} {vs : Array Value} {ds : List D} (k : ArgsR (kn [] tb).shape C J [h, h'] vs.toList ds) : ∃ v u d e, vs = #[v, u] /\ ds = [d, e] /\ ArgR (kn [] tb).shape C J h v d /\ ArgR (kn [] tb).shape C J h' u e := by
 obtain ⟨vs⟩ := vs
 cases vs with
 | nil => cases ds <;> exact k.elim
 | cons v vs =>
  cases ds with
  | nil => exact k.elim
  | cons d ds =>
   obtain ⟨k1, k⟩ := k
   cases vs with
   | nil => cases ds <;> exact k.elim
   | cons u vs =>
    cases ds with
    | nil => exact k.elim
    | cons e ds =>
     obtain ⟨k2, k⟩ := k
     cases vs with
     | nil =>
      cases ds with
      | nil => exact ⟨v, u, d, e, rfl, rfl, k1, k2⟩
      | cons _ _ => exact k.elim
     | cons _ _ => cases ds <;> exact k.elim
theorem trim_ok (n : Nat) : @Ok (I n) q_trim (okD n) := by
 letI := I n
 refine ok_scalar (t := .s) rfl fun W vs ds hL ha hp => ?_
 obtain ⟨v, u, d, e, rfl, rfl, h1, h2, h3⟩ := args_two ha
 ·obtain ⟨s, rfl, rfl⟩ := arg_str h1
  subst h2 h3
  have hs := lim_sD.1 (okD_two.1 hp).2.1
  have hs : s.size <= 140737488355328 := hs
  refine (Tryd.strings_Trim_laid s tenDigits W (by omega) (by decide) (fun j b hj => ?_)).mono ?_
  ·have : (tenDigits.data.toList.all fun b => decide (b.toNat < 128)) = true := by decide
   have := List.all_eq_true.1 this b (List.mem_of_getElem? hj)
   simpa using this
  ·rintro e W' ⟨rfl, hb⟩
   exact ⟨_, rfl, hb, phi_trim n s tenDigits, rfl⟩
def heads_numcheck : List Hd := []
def eZ1 : E := (.lit (.string (mkS [48, 49, 50, 51, 52, 53, 54, 55, 56, 57])))
def eZ2 : E := (.pr .slen [(.c 1 .v0)])
def eZ3 : E := (.pr (.iop .sub .i64) [eZ2, (.i 1)])
def entry_numcheck : Tree :=
 (.ite (.pr .and [(.pr (.bcmp .eql) [(.c 0 .v0), (.lit (.bool false))]), (.pr (.scmp .eql) [(.c 1 .v0), (.lit (.string (mkS [48])))]), (.eq (.c 2 .v0) (.i 0))])
 (.rt (.i 0))
 (.ite (.pr (.scmp .neq) [(.c 1 .v0), (.lit (.string .empty))])
 (.giv (.app 1000 [(.c 1 .v0), eZ1])
 (.ite (.pr (.scmp .eql) [(.app 6 [(.c 1 .v0), eZ1]), (.lit (.string .empty))])
 (.ite (.gt eZ2 (.i 40))
 (.rt (.i 10))
 (.giv (.lt (.i 0) eZ2)
 (.ite (.eq (.pr .sat [(.c 1 .v0), (.i 0)]) (.lit (.int .u8 48)))
 (.rt (.i 10))
 (.ite (.ge eZ2 (.i 1))
 (.giv (.le (.i 0) eZ3)
 (.giv (.le eZ3 eZ2)
 (.ite (.pr (.scmp .eql) [(.pr .ssub [(.c 1 .v0), eZ3, eZ2]), (.lit (.string (mkS [48])))])
 (.rt (.i 10))
 (.ite (.lt (.c 2 .v0) (.i (-400)))
 (.rt (.i 10))
 (.ite (.gt (.c 2 .v0) (.i 400))
 (.rt (.i 10))
 (.rt (.i 0)))))))
 (.ite (.lt (.c 2 .v0) (.i (-400)))
 (.rt (.i 10))
 (.ite (.gt (.c 2 .v0) (.i 400))
 (.rt (.i 10))
 (.rt (.i 0))))))))
 (.rt (.i 10))))
 (.rt (.i 10))))
def trees_numcheck : List Tree := []
noncomputable def deps_numcheck : List Sig := [q_trim]
theorem ok_numcheck : check q_numcheck deps_numcheck heads_numcheck entry_numcheck trees_numcheck = true := by kernel_rfl
theorem size_zero {d : ByteArray} : d.size = 0 ↔ d = ByteArray.empty := by
 constructor
 ·intro h
  exact ByteArray.ext (Array.eq_empty_of_size_eq_zero h)
 ·intro h; rw [h]; rfl
theorem numcheck_ok (n : Nat) : @Ok (I n) q_numcheck (okD n) := by
 letI := I n
 refine fn_ok (hphi n) ok_numcheck (by
  intro q hq
  simp only [deps_numcheck, List.mem_singleton] at hq
  subst hq
  exact trim_ok n) (fun _ _ _ => False) (fun _ _ => 0) ?_ (fun j h t d ds hj => by simp [heads_numcheck] at hj)
 intro ds hf hp
 obtain ⟨a, b, c, rfl⟩ := one_num hf
 have hb : okD n [sD b, sD tenDigits] := by
  rw [okD_one, sz_row] at hp
  simp only [D.szL, D.sz, D.Lim, D.LimL, and_true, true_and] at hp
  exact okD_two.2 ⟨by rw [sz_sD, sz_sD]; omega, lim_sD.2 hp.2, lim_sD.2 (by decide)⟩
 have hs : b.size <= 140737488355328 := lim_sD.1 (okD_two.1 hb).2.1
 have hz := @size_zero b
 have hw : 0 < b.size -> IntKind.i64.wrap ((b.size : Int) - 1) = ((b.size - 1 : Nat) : Int) := fun h => by rw [wrap_id (by omega) (by omega)]; omega
 simp only [entry_numcheck, eZ1, eZ2, eZ3, q_numcheck, Tree.holds, Out.den, E.den, E.denL, dn, List.getD_cons_zero, List.getD_cons_succ, List.length_map, phi_1000, phi_trim, phi_numcheck, row_at0, row_at1, row_at2, List.all_cons, List.all_nil, Bool.and_true, Bool.and_eq_true, Bool.and_eq_false_iff, beq_iff_eq]
 unfold numV
 have ht : (mkS [48, 49, 50, 51, 52, 53, 54, 55, 56, 57]) = tenDigits := rfl
 have ho : (mkS [48]) = one := rfl
 simp only [ht, ho, Int.toNat_natCast, Int.toNat_zero]
 by_cases hb0 : b = .empty
 ·subst hb0
  grind
 ·have hb1 : 0 < b.size := by
   rcases Nat.eq_zero_or_pos b.size with h | h
   ·exact absurd (hz.1 h) hb0
   ·exact h
  rw [hw hb1]
  simp only [Int.toNat_natCast]
  grind
end Go.Proofs.YtflhikakndanjaaDoor.Vk
/- Contracts: numbers' order. -/
namespace Go.Proofs.YtflhikakndanjaaDoor.Vk
open Go Go.Ab Go.RowKit
theorem fit_num {d : D} (h : FitS tb (.row 24) d) : ∃ (a : Bool) (s : ByteArray) (e : Int), d = .row [bD a, sD s, iD e] := by
 obtain ⟨cs, rfl, h⟩ := h
 obtain ⟨d1, r, rfl, g1, h⟩ := fitsC_cons h
 obtain ⟨d2, r, rfl, g2, h⟩ := fitsC_cons h
 obtain ⟨d3, r, rfl, g3, h⟩ := fitsC_cons h
 obtain rfl := fitsC_nil h
 obtain ⟨z1, rfl⟩ := fits_bool g1
 obtain ⟨z2, rfl⟩ := fits_str g2
 obtain ⟨z3, rfl⟩ := fits_int g3
 exact ⟨z1, z2, z3, rfl⟩
theorem arg_int {C : Nat -> Nat -> Option Value} {J : Nat -> Nat -> Prop} {v : Value} {d : D} (h : ArgR (kn [] tb).shape C J (.cell (.sc (.i .i64))) v d) : ∃ i : Int, v = .int .i64 i /\ d = iD i := by
 obtain ⟨h1, h2⟩ := h
 obtain ⟨z, rfl⟩ := fits_int h2
 unfold DV at h1
 exact ⟨z, h1.1, rfl⟩
theorem zer_eq (c : Nat) : zer (c : Int) = ⟨(Lib.repeatL one.data.toList c).toArray⟩ := by
 unfold zer
 have : ∀ c : Nat, List.replicate c (48 : UInt8) = Lib.repeatL one.data.toList c := by
  intro c
  induction c with
  | zero => rfl
  | succ c ih => rw [List.replicate_succ, ih]; rfl
 rw [Int.toNat_natCast, this]
theorem repeat_ok (n : Nat) : @Ok (I n) q_repeat (@okS (I n) n q_repeat.g) := by
 letI := I n
 refine ok_scalar (t := .s) rfl fun W vs ds hL ha hp => ?_
 obtain ⟨v, u, d, e, rfl, rfl, ⟨h1, h3⟩, h2⟩ := args_two ha
 obtain ⟨i, rfl, rfl⟩ := arg_int h2
 subst h1 h3
 have hi := (pre_repeat n _ i).1 (hp.2 rfl)
 obtain ⟨c, rfl⟩ : ∃ c : Nat, i = c := ⟨i.toNat, by omega⟩
 refine (Tryd.strings_Repeat one c W (by omega) (by show 1 * c <= _; omega)).mono ?_
 rintro e W' ⟨rfl, hb⟩
 exact ⟨_, rfl, hb, by rw [<- zer_eq]; exact phi_repeat n _ _, rfl⟩
theorem bif_iD (c : Bool) (x y : Int) : (bif c then iD x else iD y) = iD (if c = true then x else y) := by cases c <;> rfl
theorem zer_size (i : Int) : (zer i).size = i.toNat := by
 unfold zer
 show (List.replicate i.toNat (48 : UInt8)).toArray.size = _
 simp
theorem cat_size (a b : ByteArray) : (a ++ b).size = a.size + b.size := ByteArray.size_append
theorem levX_le (e e' : Int) : levX e e' <= e /\ levX e e' <= e' /\ (levX e e' = e \/ levX e e' = e') := by
 unfold levX; split <;> omega
theorem numV_num {a : Bool} {d : ByteArray} {e : Int} (h : numV a d e = 0) : d.size <= 40 /\ -400 <= e /\ e <= 400 := by
 unfold numV at h
 split at h
 ·rename_i h1
  rw [h1.2.1]
  exact ⟨by decide, by omega, by omega⟩
 ·(repeat' split at h) <;> first | omega | exact ⟨by omega, by omega, by omega⟩
end Go.Proofs.YtflhikakndanjaaDoor.Vk
/- Plain laws of comparisons. -/
namespace Go.Proofs.YtflhikakndanjaaDoor.Vk
open Go Go.Ab Go.RowKit
end Go.Proofs.YtflhikakndanjaaDoor.Vk
/- The order of values is one: plain Lean. -/
namespace Go.Proofs.YtflhikakndanjaaDoor.Vk
open Go Go.Ab Go.RowKit
structure OrdAt {α : Type} (c : α -> α -> Int) (S : α -> Prop) (x : α) : Prop where
 rng : ∀ y, S y -> c x y = -1 \/ c x y = 0 \/ c x y = 1
 anti : ∀ y, S y -> c y x = - c x y
 zero : ∀ y, S y -> c x y = 0 -> x = y
 trans : ∀ y z, S y -> S z -> c x y = -1 -> c y z <= 0 -> c x z = -1
theorem OrdAt.less {α : Type} {c : α -> α -> Int} {S T : α -> Prop} {x : α} (h : OrdAt c S x) (hs : ∀ y, T y -> S y) : OrdAt c T x where
 rng y hy := h.rng y (hs y hy)
 anti y hy := h.anti y (hs y hy)
 zero y hy := h.zero y (hs y hy)
 trans y z hy hz := h.trans y z (hs y hy) (hs z hz)
theorem dvA_eq : ∀ (l : List UInt8) (acc : Nat), dvA acc l = acc * 10 ^ l.length + dv l
 | [], acc => by rw [List.length_nil, Nat.pow_zero, Nat.mul_one]; rfl
 | x :: r, acc => by
  show dvA (acc * 10 + (x.toNat - 48)) r = _ + dvA (0 * 10 + (x.toNat - 48)) r
  rw [dvA_eq r (acc * 10 + (x.toNat - 48)), dvA_eq r (0 * 10 + (x.toNat - 48)), List.length_cons, Nat.pow_succ, Nat.zero_mul, Nat.zero_add, Nat.add_mul, Nat.mul_assoc acc 10, Nat.mul_comm 10]
  omega
theorem dv_cons (x : UInt8) (r : List UInt8) : dv (x :: r) = (x.toNat - 48) * 10 ^ r.length + dv r := by
 show dvA (0 * 10 + (x.toNat - 48)) r = _
 rw [dvA_eq, Nat.zero_mul, Nat.zero_add]
theorem dv_append : ∀ (a b : List UInt8), dv (a ++ b) = dv a * 10 ^ b.length + dv b
 | [], b => by show dv b = 0 * _ + dv b; omega
 | x :: r, b => by
  rw [List.cons_append, dv_cons, dv_cons, dv_append r b, List.length_append, Nat.pow_add, Nat.add_mul, Nat.mul_assoc]
  omega
theorem dv_zeros : ∀ k, dv (List.replicate k 48) = 0
 | 0 => rfl
 | k + 1 => by rw [List.replicate_succ, dv_cons, dv_zeros k]; simp
theorem dv_lt : ∀ (l : List UInt8), Dig l -> dv l < 10 ^ l.length
 | [], _ => by show 0 < 10 ^ 0; decide
 | x :: r, h => by
  have h1 := h x (List.mem_cons_self ..)
  have h2 := dv_lt r fun y hy => h y (List.mem_cons_of_mem _ hy)
  rw [dv_cons, List.length_cons, Nat.pow_succ]
  have : (x.toNat - 48) * 10 ^ r.length <= 9 * 10 ^ r.length := Nat.mul_le_mul_right _ (by omega)
  omega
end Go.Proofs.YtflhikakndanjaaDoor.Vk
/- The order of values is one: numbers, values; ValueThree. -/
namespace Go.Proofs.YtflhikakndanjaaDoor.Vk
open Go Go.Ab Go.RowKit
theorem all_drop {p : UInt8 -> Bool} : ∀ (l : List UInt8), (∀ x, x ∈ l.dropWhile p -> p x = true) -> ∀ x, x ∈ l -> p x = true
 | [], _, x, hx => by cases hx
 | a :: r, h, x, hx => by
  rw [List.dropWhile_cons] at h
  cases ha : p a with
  | true =>
   rw [ha, if_pos rfl] at h
   rcases List.mem_cons.1 hx with rfl | hx
   ·exact ha
   ·exact all_drop r h x hx
  | false =>
   rw [ha, if_neg (by decide)] at h
   exact h x hx
theorem dig_trim {d : ByteArray} (h : trimV d tenDigits = ByteArray.empty) : Dig d.data.toList := by
 have h1 : Lib.trimS d.data.toList tenDigits.data.toList = [] := by
  unfold trimV at h
  have := congrArg (fun b : ByteArray => b.data.toList) h
  simpa using this
 unfold Lib.trimS Lib.trimLeftS at h1
 have h2 : ∀ x, x ∈ Lib.trimRightS d.data.toList tenDigits.data.toList -> tenDigits.data.toList.contains x = true := fun x hx => by
  have := all_drop (p := (tenDigits.data.toList.contains ·)) _ (by rw [h1]; intro x hx; cases hx) x hx
  exact this
 unfold Lib.trimRightS at h2
 intro x hx
 have h3 := all_drop (p := (tenDigits.data.toList.contains ·)) d.data.toList.reverse (fun y hy => h2 y (List.mem_reverse.2 hy)) x (List.mem_reverse.2 hx)
 have h4 : ∀ y, tenDigits.data.toList.contains y = true -> 48 <= y.toNat /\ y.toNat <= 57 := by
  intro y hy
  have hy : y ∈ tenDigits.data.toList := by simpa using hy
  have hall : tenDigits.data.toList.all (fun y => decide (48 <= y.toNat /\ y.toNat <= 57)) = true := by decide
  simpa using List.all_eq_true.1 hall y hy
 exact h4 x h3
theorem canon {ng : Bool} {d : ByteArray} {e : Int} (h : numV ng d e = 0) :
  (ng = false /\ d = one /\ e = 0) \/ (Dig d.data.toList /\ (∃ x r, d.data.toList = x :: r /\ x.toNat ≠ 48) /\ (∃ r x, d.data.toList = r ++ [x] /\ x.toNat ≠ 48)) := by
 unfold numV at h
 by_cases h0 : ng = false /\ d = one /\ e = 0
 ·exact .inl h0
 rw [if_neg h0] at h
 by_cases h1 : d = ByteArray.empty
 ·rw [if_pos h1] at h; omega
 rw [if_neg h1] at h
 by_cases h2 : trimV d tenDigits = ByteArray.empty
 ·rw [if_neg (by simp [h2])] at h
  by_cases h3 : 40 < (d.size : Int)
  ·rw [if_pos h3] at h; omega
  rw [if_neg h3] at h
  by_cases h4 : (d.data.toList.getD 0 0).toNat = 48
  ·rw [if_pos h4] at h; omega
  rw [if_neg h4] at h
  by_cases h5 : d.extract (d.size - 1) d.size = one
  ·rw [if_pos h5] at h; omega
  have hn : d.data.toList ≠ [] := fun hn => h1 (ByteArray.ext (Array.toList_inj.1 (by rw [hn]; rfl)))
  refine .inr ⟨dig_trim h2, ?_, ?_⟩
  ·cases hl : d.data.toList with
   | nil => exact absurd hl hn
   | cons x r => rw [hl] at h4; exact ⟨x, r, rfl, h4⟩
  ·refine ⟨d.data.toList.dropLast, d.data.toList.getLast hn, (List.dropLast_concat_getLast hn).symm, fun hx => h5 ?_⟩
   refine ByteArray.ext (Array.toList_inj.1 ?_)
   have hd : d.data.toList = d.data.toList.dropLast ++ [d.data.toList.getLast hn] := (List.dropLast_concat_getLast hn).symm
   have hs : d.size = d.data.toList.length := by rw [Array.length_toList]; rfl
   rw [ByteArray.data_extract, Array.toList_extract, hs]
   generalize d.data.toList.getLast hn = x at *
   have hx : x = 48 := UInt8.toNat_inj.1 hx
   subst hx
   rw [hd]
   simp [List.extract]
   rfl
 ·rw [if_pos (by simp [h2])] at h; omega
abbrev kN (d : ByteArray) (e : Int) : Nat := dv d.data.toList * 10 ^ (e + 400).toNat
def keyN (t : Bool × ByteArray × Int) : Int := if t.1 then -(kN t.2.1 t.2.2 : Int) else kN t.2.1 t.2.2
def numOk (t : Bool × ByteArray × Int) : Prop := numV t.1 t.2.1 t.2.2 = 0
theorem pow_pos10 (n : Nat) : 0 < 10 ^ n := Nat.pow_pos (by decide)
theorem dv_pos {l : List UInt8} (h : ∃ x r, l = x :: r /\ x.toNat ≠ 48) (hd : Dig l) : 10 ^ (l.length - 1) <= dv l := by
 obtain ⟨x, r, rfl, hx⟩ := h
 have := hd x (List.mem_cons_self ..)
 rw [dv_cons, List.length_cons, Nat.add_sub_cancel]
 have : 1 * 10 ^ r.length <= (x.toNat - 48) * 10 ^ r.length := Nat.mul_le_mul_right _ (by omega)
 omega
theorem dig_one : Dig one.data.toList := by
 intro x hx
 have hall : one.data.toList.all (fun y => decide (48 <= y.toNat /\ y.toNat <= 57)) = true := by decide
 simpa using List.all_eq_true.1 hall x hx
theorem numOk_dig {t : Bool × ByteArray × Int} (h : numOk t) : Dig t.2.1.data.toList := by
 rcases canon h with ⟨_, h, _⟩ | ⟨h, _⟩
 ·rw [h]; exact dig_one
 ·exact h
theorem kN_zero {t : Bool × ByteArray × Int} (h : numOk t) : (kN t.2.1 t.2.2 = 0 -> t = (false, one, 0)) /\ (t.1 = true -> 0 < kN t.2.1 t.2.2) := by
 rcases canon h with ⟨h1, h2, h3⟩ | ⟨h1, h2, h3⟩
 ·exact ⟨fun _ => Prod.ext h1 (Prod.ext h2 h3), fun h => by rw [h1] at h; cases h⟩
 ·have := dv_pos h2 h1
  have p1 := pow_pos10 (t.2.1.data.toList.length - 1)
  have p2 := pow_pos10 (t.2.2 + 400).toNat
  have : 0 < kN t.2.1 t.2.2 := Nat.mul_pos (by omega) p2
  exact ⟨fun h => by omega, fun _ => this⟩
theorem zer_list (i : Int) : (zer i).data.toList = List.replicate i.toNat 48 := by unfold zer; simp
theorem cat_list (a b : ByteArray) : (a ++ b).data.toList = a.data.toList ++ b.data.toList := by
 rw [ByteArray.data_append, Array.toList_append]
theorem dig_append {a b : List UInt8} (ha : Dig a) (hb : Dig b) : Dig (a ++ b) := fun x hx => by
 rcases List.mem_append.1 hx with h | h
 ·exact ha x h
 ·exact hb x h
theorem dig_zeros (k : Nat) : Dig (List.replicate k 48) := fun x hx => by
 obtain ⟨_, rfl⟩ := List.mem_replicate.1 hx
 decide
end Go.Proofs.YtflhikakndanjaaDoor.Vk
/- Contracts of the reference of chapter 1: all; numbers' form, bit by bit. -/
namespace Go.Proofs.YtflhikakndanjaaDoor.Vk
open Go Go.Ab Go.RowKit
theorem one_str {d : List D} (h : FitL tb [.cell (.sc .s)] d) : ∃ s, d = [sD s] := by
 match d, h with
 | [a], ⟨h1, _⟩ =>
  obtain ⟨l, rfl⟩ := fits_str h1
  exact ⟨l, rfl⟩
theorem tmod10 (m : Nat) : (m : Int).tmod 10 = ((m % 10 : Nat) : Int) := by
 rw [Int.tmod_eq_emod_of_nonneg (by omega)]; omega
theorem tdiv10 (m : Nat) : (m : Int).tdiv 10 = ((m / 10 : Nat) : Int) := by
 rw [Int.tdiv_eq_ediv_of_nonneg (by omega)]; omega
-- head 0 of loop 0: [t0 .sh (.cell (.sc .s)), t3 .sh (.cell (.sc (.i .i64)))]
def isDig (c : UInt8) : Bool := decide (48 <= c.toNat /\ c.toNat <= 57)
theorem size_len (s : ByteArray) : s.size = s.data.toList.length := by rw [Array.length_toList]; rfl
theorem dig_all {l : List UInt8} : l.all isDig = true ↔ Dig l := by
 rw [List.all_eq_true]
 constructor
 ·intro h x hx; simpa [isDig] using h x hx
 ·intro h x hx; simpa [isDig] using h x hx
theorem drop_all {p : UInt8 -> Bool} : ∀ (l : List UInt8), (∀ x, x ∈ l -> p x = true) -> l.dropWhile p = []
 | [], _ => rfl
 | a :: r, h => by
  rw [List.dropWhile_cons, if_pos (h a (List.mem_cons_self ..))]
  exact drop_all r fun x hx => h x (List.mem_cons_of_mem _ hx)
theorem trim_dig {d : ByteArray} (h : Dig d.data.toList) : trimV d tenDigits = ByteArray.empty := by
 have h4 : ∀ y : UInt8, 48 <= y.toNat /\ y.toNat <= 57 -> tenDigits.data.toList.contains y = true := by
  intro y hy
  have : ∀ k : Fin 10, tenDigits.data.toList.contains (UInt8.ofNat (48 + k.val)) = true := by decide
  have := this ⟨y.toNat - 48, by omega⟩
  rw [show 48 + (y.toNat - 48) = y.toNat by omega, UInt8.ofNat_toNat] at this
  exact this
 unfold trimV Lib.trimS Lib.trimLeftS Lib.trimRightS
 have e : d.data.toList.reverse.dropWhile (tenDigits.data.toList.contains ·) = [] := drop_all _ fun x hx => h4 x (h x (List.mem_reverse.1 hx))
 rw [e]; rfl
end Go.Proofs.YtflhikakndanjaaDoor.Vk
/- Contracts: the library's trims, num.made. -/
namespace Go.Proofs.YtflhikakndanjaaDoor.Vk
open Go Go.Ab Go.RowKit
theorem ascii_one : ∀ (j : Nat) b, one.data.toList[j]? = some b -> b.toNat < 128 := fun j b hj => by
 have : (one.data.toList.all fun b => decide (b.toNat < 128)) = true := by decide
 have := List.all_eq_true.1 this b (List.mem_of_getElem? hj)
 simpa using this
theorem trimzero_ok (n : Nat) : @Ok (I n) q_trimzero (okD n) := by
 letI := I n
 refine ok_scalar (t := .s) rfl fun W vs ds hL ha hp => ?_
 obtain ⟨v, u, d, e, rfl, rfl, h1, h2, h3⟩ := args_two ha
 obtain ⟨s, rfl, rfl⟩ := arg_str h1
 subst h2 h3
 refine (Tryd.strings_TrimLeft_laid s one W (by decide) ascii_one).mono ?_
 rintro e W' ⟨rfl, hb⟩
 exact ⟨_, rfl, hb, phi_trimzero n s one, rfl⟩
theorem trimrzero_ok (n : Nat) : @Ok (I n) q_trimrzero (okD n) := by
 letI := I n
 refine ok_scalar (t := .s) rfl fun W vs ds hL ha hp => ?_
 obtain ⟨v, u, d, e, rfl, rfl, h1, h2, h3⟩ := args_two ha
 obtain ⟨s, rfl, rfl⟩ := arg_str h1
 subst h2 h3
 have hs := lim_sD.1 (okD_two.1 hp).2.1
 have hs : s.size <= 140737488355328 := hs
 refine (Tryd.strings_TrimRight_laid s one W (by omega) (by decide) ascii_one).mono ?_
 rintro e W' ⟨rfl, hb⟩
 exact ⟨_, rfl, hb, phi_trimrzero n s one, rfl⟩
theorem drop_len {p : UInt8 -> Bool} : ∀ (l : List UInt8), (l.dropWhile p).length <= l.length
 | [] => Nat.le_refl _
 | x :: r => by
  rw [List.dropWhile_cons]
  split
  ·have := drop_len (p := p) r; rw [List.length_cons]; omega
  ·exact Nat.le_refl _
theorem bytes_len (l : List UInt8) : (ByteArray.mk l.toArray).size = l.length := by
 show l.toArray.size = _; simp
theorem bytes_list (l : List UInt8) : (ByteArray.mk l.toArray).data.toList = l := by simp
theorem list_len (s : ByteArray) : s.data.toList.length = s.size := by rw [Array.length_toList]; rfl
theorem cutL_size (s c : ByteArray) : (cutLV s c).size <= s.size := by
 unfold cutLV Lib.trimLeftS
 rw [bytes_len, <- list_len s]
 exact drop_len _
theorem cutR_size (s c : ByteArray) : (cutRV s c).size <= s.size := by
 unfold cutRV Lib.trimRightS
 rw [bytes_len, <- list_len s, List.length_reverse]
 have := drop_len (p := fun x => c.data.toList.contains x) s.data.toList.reverse
 rw [List.length_reverse] at this
 exact this
theorem made_args {d : List D} (h : FitL tb [.cell (.sc .b), .cell (.sc .s), .cell (.sc (.i .i64))] d) : ∃ (a : Bool) (s : ByteArray) (e : Int), d = [bD a, sD s, iD e] := by
 match d, h with
 | [x, y, z], ⟨h1, h2, h3, _⟩ =>
  obtain ⟨a, rfl⟩ := fits_bool h1
  obtain ⟨s, rfl⟩ := fits_str h2
  obtain ⟨e, rfl⟩ := fits_int h3
  exact ⟨a, s, e, rfl⟩
def heads_nmade : List Hd := []
def eZ4 : E := (.lit (.string (mkS [48])))
def eZ5 : E := (.app 78 [.v1, eZ4])
def eZ6 : E := (.pr .row [.v0, (.app 79 [eZ5, eZ4]), (.pr (.iop .sub .i64) [(.pr (.iop .add .i64) [.v2, (.pr .slen [eZ5])]), (.pr .slen [(.app 79 [eZ5, eZ4])])])])
def entry_nmade : Tree :=
 (.giv (.app 1000 [.v1, eZ4])
 (.ite (.pr (.scmp .eql) [eZ5, (.lit (.string .empty))])
 (.rt (.pr .row [(.pr .row [(.lit (.bool false)), eZ4, (.i 0)]), (.i 0)]))
 (.giv (.app 1000 [eZ5, eZ4])
 (.giv (.app 1000 [eZ6])
 (.ite (.ne (.app 5 [eZ6]) (.i 0))
 (.rt (.pr .row [(.pr .row [(.lit (.bool false)), (.lit (.string .empty)), (.i 0)]), (.i 2)]))
 (.rt (.pr .row [eZ6, (.i 0)])))))))
def trees_nmade : List Tree := []
noncomputable def deps_nmade : List Sig := [q_numcheck, q_trimzero, q_trimrzero]
theorem ok_nmade : check q_nmade deps_nmade heads_nmade entry_nmade trees_nmade = true := by kernel_rfl
theorem nmade_more (n : Nat) : @Ok (I n) q_nmade (fun ds => okD n ds /\ 10 < n) := by
 letI := I n
 refine fn_ok (hphi n) ok_nmade (by
  intro q hq
  simp only [deps_nmade, List.mem_cons, List.not_mem_nil, or_false] at hq
  rcases hq with rfl | rfl | rfl
  ·exact numcheck_ok n
  ·exact trimzero_ok n
  ·exact trimrzero_ok n) (fun _ _ _ => False) (fun _ _ => 0) ?_ (fun j h t d ds hj => by simp [heads_nmade] at hj)
 intro ds hf hp
 obtain ⟨a, s, e, rfl⟩ := made_args hf
 obtain ⟨⟨hp1, hp2⟩, hn⟩ := hp
 simp only [D.LimL, and_true] at hp2
 have hs : s.size <= lim := lim_sD.1 hp2.2.1
 have hl := cutL_size s one
 have hr := cutR_size (cutLV s one) one
 have h1 : one.size <= lim := by decide
 have o1 : okD n [sD s, sD one] := okD_two.2 ⟨by simp only [D.sz]; omega, lim_sD.2 hs, lim_sD.2 h1⟩
 have o2 : okD n [sD (cutLV s one), sD one] := okD_two.2 ⟨by simp only [D.sz]; omega, lim_sD.2 (by omega), lim_sD.2 h1⟩
 have o3 : okD n [.row [bD a, sD (cutRV (cutLV s one) one), iD (wrap (wrap (e + (cutLV s one).size) - (cutRV (cutLV s one) one).size))]] := okD_one.2 ⟨by rw [sz_row]; simp only [D.szL, D.sz]; omega, by simp only [D.Lim, D.LimL, and_true, true_and]; omega⟩
 have ho : (mkS [48]) = one := rfl
 simp only [entry_nmade, eZ4, eZ5, eZ6, q_nmade, Tree.holds, Out.den, E.den, E.denL, dn, List.getD_cons_zero, List.getD_cons_succ, List.length_map, phi_1000, ho, phi_trimzero, phi_trimrzero, phi_numcheck, phi_nmade, o1, o2, o3]
 unfold madeV
 refine ⟨fun h => ?_, fun h => ⟨fun h' => ?_, fun h' => ?_⟩⟩
 ·rw [if_pos h]; rfl
 ·rw [if_neg h]; simp only; rw [if_neg h']; rfl
 ·rw [if_neg h]; simp only; rw [if_pos h']; rfl
theorem nmade_ok (n : Nat) : @Ok (I n) q_nmade (okD n) :=
 ok_irrel (by decide) (@Ok.less (I (n + 20)) _ _ _ (nmade_more (n + 20)) fun ds h => ⟨⟨by have := h.1; omega, h.2⟩, by omega⟩)
end Go.Proofs.YtflhikakndanjaaDoor.Vk
/- Plain laws of numbers' texts: digits ahead, exponents. -/
namespace Go.Proofs.YtflhikakndanjaaDoor.Vk
open Go Go.Ab Go.RowKit
theorem isTen (x : UInt8) : tenDigits.data.toList.contains x = isDig x := by
 have : ∀ k : Fin 256, tenDigits.data.toList.contains (UInt8.ofNat k.val) = isDig (UInt8.ofNat k.val) := by decide +kernel
 have := this ⟨x.toNat, x.toNat_lt⟩
 rwa [UInt8.ofNat_toNat] at this
theorem bytes_list' (l : List UInt8) : (ByteArray.mk l.toArray).data.toList = l := by simp
theorem ba_ext {a b : ByteArray} (h : a.data.toList = b.data.toList) : a = b := ByteArray.ext (Array.toList_inj.1 h)
theorem ext_list' (d : ByteArray) (a b : Nat) : (d.extract a b).data.toList = (d.data.toList.drop a).take (b - a) := by
 rw [ByteArray.data_extract, Array.toList_extract]
theorem rest_list (s : ByteArray) : (restV s).data.toList = s.data.toList.dropWhile isDig := by
 unfold restV cutLV Lib.trimLeftS
 rw [bytes_list', show (fun x => tenDigits.data.toList.contains x) = isDig from funext isTen]
theorem rest_len (s : ByteArray) : (restV s).size <= s.size := by
 rw [size_len, size_len, rest_list]
 exact drop_len _
theorem take_while {α : Type} (p : α -> Bool) (l : List α) : l.take (l.length - (l.dropWhile p).length) = l.takeWhile p := by
 have h := List.takeWhile_append_dropWhile (p := p) (l := l)
 have hl := congrArg List.length h
 rw [List.length_append] at hl
 have : l.length - (l.dropWhile p).length = (l.takeWhile p).length := by omega
 rw [this]
 have h2 := List.take_left (l₁ := l.takeWhile p) (l₂ := l.dropWhile p)
 rw [h] at h2
 exact h2
theorem mem_tw {p : UInt8 -> Bool} : ∀ (l : List UInt8) (x : UInt8), x ∈ l.takeWhile p -> p x = true
 | [], _, h => by cases h
 | a :: r, x, h => by
  rw [List.takeWhile_cons] at h
  split at h
  ·rename_i ha
   rcases List.mem_cons.1 h with rfl | h
   ·exact ha
   ·exact mem_tw r x h
  ·cases h
theorem front_list (s : ByteArray) : (frontV s).data.toList = s.data.toList.takeWhile isDig := by
 unfold frontV
 rw [ext_list', List.drop_zero, Nat.sub_zero, size_len, size_len (restV s), rest_list]
 exact take_while ..
theorem front_rest (s : ByteArray) : frontV s ++ restV s = s := by
 apply ba_ext
 rw [cat_list, front_list, rest_list, List.takeWhile_append_dropWhile]
theorem front_size (s : ByteArray) : (frontV s).size + (restV s).size = s.size := by
 have := congrArg ByteArray.size (front_rest s)
 rw [cat_size] at this
 exact this
theorem front_dig (s : ByteArray) : Dig (frontV s).data.toList := by
 rw [front_list]
 intro x hx
 have := mem_tw _ _ hx
 simpa [isDig] using this
theorem emp_list {s : ByteArray} : s = ByteArray.empty ↔ s.data.toList = [] := by
 constructor
 ·intro h; rw [h]; rfl
 ·intro h; exact ba_ext h
theorem tw_all {p : UInt8 -> Bool} : ∀ (l : List UInt8), l.dropWhile p = [] ↔ l.all p = true
 | [] => by simp
 | a :: r => by
  rw [List.dropWhile_cons, List.all_cons]
  cases h : p a with
  | true => rw [if_pos rfl, Bool.true_and]; exact tw_all r
  | false => rw [if_neg (by decide), Bool.false_and]; simp
theorem dig_iff (u : ByteArray) : digV u = true ↔ frontV u ≠ ByteArray.empty /\ restV u = ByteArray.empty := by
 have h1 : restV u = ByteArray.empty ↔ u.data.toList.all isDig = true := by rw [emp_list, rest_list]; exact tw_all _
 have h2 : digV u = true ↔ u.data.toList.all isDig = true /\ u.data.toList ≠ [] := by
  unfold digV
  rw [Bool.and_eq_true, decide_eq_true_iff]
  rfl
 rw [h2, h1]
 constructor
 ·rintro ⟨a, b⟩
  refine ⟨fun h => b ?_, a⟩
  have h3 := front_rest u
  rw [h, h1.2 a] at h3
  rw [<- h3]; rfl
 ·rintro ⟨a, b⟩
  refine ⟨b, fun h => a ?_⟩
  rw [emp_list, front_list, h]; rfl
theorem dig_front {u : ByteArray} (h : digV u = true) : frontV u = u := by
 have h1 := ((dig_iff u).1 h).2
 have h3 := front_rest u
 rw [h1] at h3
 have : ∀ b : ByteArray, b ++ ByteArray.empty = b := fun b => by
  apply ba_ext
  rw [cat_list]; simp
 rwa [this] at h3
theorem digV_dig {u : ByteArray} (h : digV u = true) : Dig u.data.toList := by
 have := front_dig u
 rwa [dig_front h] at this
def minM (v : Nat) : Nat := if v < 1000000 then v else 1000000
theorem dvM_min (u : ByteArray) : dvM u = (minM (dv u.data.toList) : Int) := by
 unfold dvM minM
 split <;> rfl
theorem dvA_snoc (acc : Nat) (l : List UInt8) (x : UInt8) : dvA acc (l ++ [x]) = dvA acc l * 10 + (x.toNat - 48) := by
 induction l generalizing acc with
 | nil => rfl
 | cons y r ih =>
  show dvA (acc * 10 + (y.toNat - 48)) (r ++ [x]) = dvA (acc * 10 + (y.toNat - 48)) r * 10 + (x.toNat - 48)
  exact ih _
theorem take_snoc {α : Type} {l : List α} {i : Nat} {x : α} (h : l[i]? = some x) : l.take (i + 1) = l.take i ++ [x] := by
 rw [List.take_add_one, h]; rfl
theorem tail_size (s : ByteArray) : (tailV s).size = s.size - 1 := by
 unfold tailV
 rw [ByteArray.size_extract]; omega
theorem tail_list (s : ByteArray) : (tailV s).data.toList = s.data.toList.drop 1 := by
 unfold tailV
 rw [ext_list', List.take_of_length_le]
 rw [List.length_drop, <- size_len]; omega
theorem at0_pos {s : ByteArray} (h : at0 s ≠ 0) : 0 < s.size := by
 apply Classical.byContradiction
 intro hn
 have : s = ByteArray.empty := size_zero.1 (by omega)
 rw [this] at h
 exact h rfl
theorem expV_emp : expV ByteArray.empty = (0, true) := by unfold expV; rw [if_pos rfl]
end Go.Proofs.YtflhikakndanjaaDoor.Vk
/- Plain laws of numbers: digits, what is made of them, sums. -/
namespace Go.Proofs.YtflhikakndanjaaDoor.Vk
open Go Go.Ab Go.RowKit
theorem wrapN {i : Int} (h0 : -4611686018427387904 <= i) (h : i <= 4611686018427387904) : wrap i = i := wrap_id (by omega) (by omega)
theorem digs_zero : digs 0 = [] := by rw [digs]; rfl
theorem digs_pos {n : Nat} (h : n ≠ 0) : digs n = digs (n / 10) ++ [UInt8.ofNat (48 + n % 10)] := by rw [digs, if_neg h]
theorem dig_byte {b : Nat} (h : b < 10) : (UInt8.ofNat (48 + b)).toNat = 48 + b := by
 rw [UInt8.toNat_ofNat']; omega
theorem digs_dig : ∀ n, Dig (digs n) := by
 intro n
 induction n using Nat.strongRecOn with
 | ind n ih =>
  by_cases h : n = 0
  ·rw [h, digs_zero]; intro x hx; cases hx
  ·rw [digs_pos h]
   refine dig_append (ih _ (by omega)) fun x hx => ?_
   rw [List.mem_singleton] at hx
   rw [hx, dig_byte (by omega)]; omega
theorem dv_digs : ∀ n, dv (digs n) = n := by
 intro n
 induction n using Nat.strongRecOn with
 | ind n ih =>
  by_cases h : n = 0
  ·rw [h, digs_zero]; rfl
  ·rw [digs_pos h, dv_append, ih _ (by omega), dv_cons, dig_byte (by omega)]
   show n / 10 * 10 ^ 1 + ((48 + n % 10 - 48) * 10 ^ 0 + 0) = n
   omega
theorem digs_nil {n : Nat} : digs n = [] ↔ n = 0 := by
 constructor
 ·intro h
  have := dv_digs n
  rw [h] at this
  exact this.symm
 ·intro h; rw [h, digs_zero]
theorem isOne (x : UInt8) : one.data.toList.contains x = decide (x = 48) := by
 show [(48 : UInt8)].contains x = _
 rw [Bool.eq_iff_iff]; simp
theorem snoc_ind {α : Type} {p : List α -> Prop} (h0 : p []) (h1 : ∀ l x, p l -> p (l ++ [x])) : ∀ l, p l := by
 have : ∀ l : List α, p l.reverse := by
  intro l
  induction l with
  | nil => exact h0
  | cons x r ih => rw [List.reverse_cons]; exact h1 _ _ ih
 intro l
 have := this l.reverse
 rwa [List.reverse_reverse] at this
theorem drop_snoc {α : Type} {p : α -> Bool} (l : List α) (x : α) : (l ++ [x]).dropWhile p = if l.dropWhile p = [] then [x].dropWhile p else l.dropWhile p ++ [x] := by
 induction l with
 | nil => rfl
 | cons y r ih =>
  rw [List.cons_append, List.dropWhile_cons, List.dropWhile_cons]
  split
  ·exact ih
  ·rw [if_neg (by simp)]; rfl
theorem drop_digs (l : List UInt8) : Dig l -> Lib.trimLeftS l one.data.toList = digs (dv l) := by
 unfold Lib.trimLeftS
 induction l using snoc_ind with
 | h0 => intro _; rw [show dv [] = 0 from rfl, digs_zero]; rfl
 | h1 l x ih =>
  intro hd
  have hl : Dig l := fun y hy => hd y (List.mem_append_left _ hy)
  have hx := hd x (List.mem_append_right _ (List.mem_singleton.2 rfl))
  rw [drop_snoc, ih hl, dv_append, dv_cons]
  have e : dv l * 10 ^ [x].length + ((x.toNat - 48) * 10 ^ ([] : List UInt8).length + dv []) = dv l * 10 + (x.toNat - 48) := by
   show dv l * 10 ^ 1 + ((x.toNat - 48) * 10 ^ 0 + 0) = _
   omega
  rw [e]
  have hb : UInt8.ofNat (48 + (x.toNat - 48)) = x := by
   apply UInt8.toNat_inj.1
   rw [dig_byte (by omega)]; omega
  by_cases h0 : dv l = 0
  ·rw [if_pos (digs_nil.2 h0), h0, List.dropWhile_cons, isOne]
   by_cases c : x = 48
   ·rw [if_pos (by simpa using c), c]
    show [] = digs (0 * 10 + (48 - 48))
    rw [show 0 * 10 + (48 - 48) = 0 from rfl, digs_zero]
   ·rw [if_neg (by simpa using c)]
    have c' : x.toNat ≠ 48 := fun h => c (UInt8.toNat_inj.1 h)
    rw [digs_pos (n := 0 * 10 + (x.toNat - 48)) (by omega), show (0 * 10 + (x.toNat - 48)) / 10 = 0 by omega, digs_zero, show (0 * 10 + (x.toNat - 48)) % 10 = x.toNat - 48 by omega, hb]
    rfl
  ·rw [if_neg (fun h => h0 (digs_nil.1 h)), digs_pos (n := dv l * 10 + (x.toNat - 48)) (by omega), show (dv l * 10 + (x.toNat - 48)) / 10 = dv l by omega, show (dv l * 10 + (x.toNat - 48)) % 10 = x.toNat - 48 by omega, hb]
theorem cutL_digs {s : ByteArray} (h : Dig s.data.toList) : cutLV s one = ⟨(digs (dv s.data.toList)).toArray⟩ := by
 unfold cutLV; rw [drop_digs _ h]
theorem made_dv {ng ng' : Bool} {s : ByteArray} {m : Nat} {e : Int} (h : Dig s.data.toList) (hm : dv s.data.toList = m) (hn : m ≠ 0 -> ng = ng') : madeV ng s e = madeV ng' ⟨(digs m).toArray⟩ e := by
 unfold madeV
 have h1 := cutL_digs h
 have h2 : cutLV ⟨(digs m).toArray⟩ one = ⟨(digs m).toArray⟩ := by
  have := cutL_digs (s := ⟨(digs m).toArray⟩) (by rw [bytes_list]; exact digs_dig m)
  rw [this, bytes_list, dv_digs]
 rw [hm] at h1
 rw [h1, h2]
 by_cases h0 : m = 0
 ·have e0 : (⟨([] : List UInt8).toArray⟩ : ByteArray) = ByteArray.empty := rfl
  rw [h0, digs_zero, if_pos e0, if_pos e0]
 ·rw [hn h0]
theorem digs_mul {m : Nat} (h : m ≠ 0) : ∀ j, digs (m * 10 ^ j) = digs m ++ List.replicate j 48
 | 0 => by simp
 | j + 1 => by
  have hp := pow_pos10 j
  have : m * 10 ^ (j + 1) = m * 10 ^ j * 10 := by rw [Nat.pow_succ, Nat.mul_assoc]
  have h1 : m * 10 ^ j ≠ 0 := Nat.mul_ne_zero h (by omega)
  rw [this, digs_pos (by omega), Nat.mul_div_cancel _ (by decide), Nat.mul_mod_left, digs_mul h j, List.replicate_succ', List.append_assoc]
  rfl
theorem trimR_zeros (l : List UInt8) (j : Nat) : Lib.trimRightS (l ++ List.replicate j 48) one.data.toList = Lib.trimRightS l one.data.toList := by
 unfold Lib.trimRightS
 rw [List.reverse_append, List.reverse_replicate]
 congr 1
 induction j with
 | zero => rfl
 | succ j ih => rw [List.replicate_succ, List.cons_append, List.dropWhile_cons, if_pos (by decide)]; exact ih
theorem digs_ne {m : Nat} (h : m ≠ 0) : (⟨(digs m).toArray⟩ : ByteArray) ≠ ByteArray.empty := fun e => by
 have := congrArg (fun b : ByteArray => b.data.toList) e
 simp only [bytes_list] at this
 exact h (digs_nil.1 this)
theorem cutL_self (m : Nat) : cutLV ⟨(digs m).toArray⟩ one = ⟨(digs m).toArray⟩ := by
 have := cutL_digs (s := ⟨(digs m).toArray⟩) (by rw [bytes_list]; exact digs_dig m)
 rw [this, bytes_list, dv_digs]
theorem made_shift {ng : Bool} {m j : Nat} {e : Int} (h : m ≠ 0) (hj : j <= 100000) (he : -100000 <= e /\ e <= 100000) (hl : (digs m).length <= 100000) : madeV ng ⟨(digs (m * 10 ^ j)).toArray⟩ e = madeV ng ⟨(digs m).toArray⟩ (e + j) := by
 have hp := pow_pos10 j
 have h1 : m * 10 ^ j ≠ 0 := Nat.mul_ne_zero h (by omega)
 unfold madeV
 rw [cutL_self, cutL_self, if_neg (digs_ne h1), if_neg (digs_ne h)]
 have e1 : cutRV ⟨(digs (m * 10 ^ j)).toArray⟩ one = cutRV ⟨(digs m).toArray⟩ one := by
  unfold cutRV
  rw [bytes_list, bytes_list, digs_mul h, trimR_zeros]
 have hr := cutR_size ⟨(digs m).toArray⟩ one
 rw [bytes_len] at hr
 simp only [e1, bytes_len]
 have e2 : (digs (m * 10 ^ j)).length = (digs m).length + j := by rw [digs_mul h, List.length_append, List.length_replicate]
 rw [e2, wrapN (i := e + (((digs m).length + j : Nat) : Int)) (by omega) (by omega), wrapN (i := e + j + ((digs m).length : Int)) (by omega) (by omega)]
 have : e + (((digs m).length + j : Nat) : Int) - ((cutRV ⟨(digs m).toArray⟩ one).size : Int) = e + j + ((digs m).length : Int) - ((cutRV ⟨(digs m).toArray⟩ one).size : Int) := by omega
 rw [this]
def mkN (k : Int) : NumT × Int := madeV (decide (k < 0)) ⟨(digs k.natAbs).toArray⟩ (-400)
theorem mkN_zero : mkN 0 = (zeroT, 0) := by
 unfold mkN madeV
 rw [cutL_self, if_pos (by show (⟨(digs 0).toArray⟩ : ByteArray) = _; rw [digs_zero]; rfl)]
theorem digs_len {m k : Nat} (h : m < 10 ^ k) : (digs m).length <= k := by
 by_cases h0 : m = 0
 ·rw [h0, digs_zero]; exact Nat.zero_le _
 ·have h1 : 10 ^ ((digs m).length - 1) <= dv (digs m) := by
   refine dv_pos ?_ (digs_dig m)
   have := drop_digs (digs m) (digs_dig m)
   rw [dv_digs] at this
   cases hd : digs m with
   | nil => exact absurd (digs_nil.1 hd) h0
   | cons x r =>
    refine ⟨x, r, rfl, fun hx => ?_⟩
    rw [hd] at this
    unfold Lib.trimLeftS at this
    have hx : x = 48 := UInt8.toNat_inj.1 hx
    rw [List.dropWhile_cons, if_pos (by rw [isOne]; simpa using hx)] at this
    have h2 := drop_len (p := fun x => one.data.toList.contains x) r
    rw [this, List.length_cons] at h2
    omega
  rw [dv_digs] at h1
  apply Classical.byContradiction
  intro hk
  have : 10 ^ k <= 10 ^ ((digs m).length - 1) := Nat.pow_le_pow_right (by decide) (by omega)
  omega
theorem made_zero (ng : Bool) (e : Int) : madeV ng ⟨(digs 0).toArray⟩ e = (zeroT, 0) := by
 unfold madeV
 rw [cutL_self, if_pos (by show (⟨(digs 0).toArray⟩ : ByteArray) = _; rw [digs_zero]; rfl)]
theorem val_key {t : NumT} {x : Int} (h0 : -400 <= x) (h1 : x <= t.2.2) : keyN t = valX t x * ((10 ^ (x + 400).toNat : Nat) : Int) := by
 have e : (t.2.2 + 400).toNat = (t.2.2 - x).toNat + (x + 400).toNat := by omega
 unfold keyN valX kN
 rw [e, Nat.pow_add, <- Nat.mul_assoc]
 cases t.1 with
 | true => simp only [if_true, Int.neg_mul, Int.natCast_mul]
 | false => simp only [Bool.false_eq_true, if_false, Int.natCast_mul]
/- Exponents that nobody works out. -/
def e40 : Nat := 40
def e800 : Nat := 800
def e840 : Nat := 840
def e2000 : Nat := 2000
theorem key_one (e : Int) : keyN (false, one, e) = 0 := by
 have h : dv one.data.toList = 0 := rfl
 unfold keyN kN
 simp only [Bool.false_eq_true, if_false, h, Nat.zero_mul]
 rfl
theorem key_zero : keyN zeroT = 0 := key_one 0
theorem val_lt {t : NumT} {x : Int} (h : numOk t) (h0 : -400 <= x) (h1 : x <= t.2.2) : (valX t x).natAbs < 10 ^ e840 := by
 obtain ⟨b1, b2, b3⟩ := numV_num h
 have hd := dv_lt _ (numOk_dig h)
 rw [list_len] at hd
 have h2 : dv t.2.1.data.toList < 10 ^ e40 := Nat.lt_of_lt_of_le hd (Nat.pow_le_pow_right (by decide) b1)
 have hx : (t.2.2 - x).toNat <= 800 := by clear hd h2; omega
 have h3 : 10 ^ (t.2.2 - x).toNat <= 10 ^ e800 := Nat.pow_le_pow_right (by decide) hx
 have h4 : dv t.2.1.data.toList * 10 ^ (t.2.2 - x).toNat < 10 ^ e40 * 10 ^ e800 := Nat.lt_of_lt_of_le (Nat.mul_lt_mul_of_pos_right h2 (pow_pos10 _)) (Nat.mul_le_mul_left _ h3)
 have e : (valX t x).natAbs = dv t.2.1.data.toList * 10 ^ (t.2.2 - x).toNat := by
  unfold valX
  cases t.1 with
  | true => rw [if_pos rfl, Int.natAbs_neg, Int.natAbs_natCast]
  | false => rw [if_neg (by simp), Int.natAbs_natCast]
 rw [e, show e840 = e40 + e800 from rfl, Nat.pow_add]
 exact h4
theorem lt_pow {a b k : Nat} (ha : a < 10 ^ k) (hb : b < 10 ^ k) : a + b < 10 ^ (k + 1) := by
 rw [Nat.pow_succ]; omega
theorem add_mk {t u : NumT} (ht : numOk t) (hu : numOk u) : addV t u = mkN (keyN t + keyN u) := by
 obtain ⟨_, b2, b3⟩ := numV_num ht
 obtain ⟨_, c2, c3⟩ := numV_num hu
 obtain ⟨l1, l2, l3⟩ := levX_le t.2.2 u.2.2
 have hx : -400 <= levX t.2.2 u.2.2 /\ levX t.2.2 u.2.2 <= 400 := by omega
 have k1 := val_key hx.1 l1
 have k2 := val_key hx.1 l2
 have v1 := val_lt ht hx.1 l1
 have v2 := val_lt hu hx.1 l2
 unfold addV
 rw [if_neg (show ¬ ¬ formN t = 0 from fun h => h ht), if_neg (show ¬ ¬ formN u = 0 from fun h => h hu)]
 simp only
 rw [k1, k2, <- Int.add_mul]
 generalize valX t (levX t.2.2 u.2.2) = A at *
 generalize valX u (levX t.2.2 u.2.2) = B at *
 generalize levX t.2.2 u.2.2 = x at *
 have hS : (A + B).natAbs < 10 ^ (e840 + 1) := Nat.lt_of_le_of_lt (Int.natAbs_add_le A B) (lt_pow v1 v2)
 clear v1 v2 k1 k2
 generalize A + B = S at *
 have hp := pow_pos10 (x + 400).toNat
 unfold mkN
 have hsg : decide (S * ((10 ^ (x + 400).toNat : Nat) : Int) < 0) = decide (S < 0) := by
  rw [decide_eq_decide]
  constructor
  ·intro h
   apply Classical.byContradiction
   intro hn
   have : 0 <= S * ((10 ^ (x + 400).toNat : Nat) : Int) := Int.mul_nonneg (by omega) (by omega)
   omega
  ·intro h
   exact Int.mul_neg_of_neg_of_pos h (by omega)
 rw [hsg, Int.natAbs_mul, Int.natAbs_natCast]
 by_cases h0 : S = 0
 ·rw [h0]
  show madeV _ ⟨(digs 0).toArray⟩ _ = madeV _ ⟨(digs (0 * _)).toArray⟩ _
  rw [Nat.zero_mul, made_zero, made_zero]
 ·rw [made_shift (by omega) (by omega) (by omega) (Nat.le_trans (digs_len hS) (by decide))]
  rw [show (-400 : Int) + ((x + 400).toNat : Int) = x by omega]
theorem trimR_split (l : List UInt8) : ∃ z, l = Lib.trimRightS l one.data.toList ++ List.replicate z 48 := by
 induction l using snoc_ind with
 | h0 => exact ⟨0, rfl⟩
 | h1 l x ih =>
  by_cases c : x = 48
  ·obtain ⟨z, hz⟩ := ih
   refine ⟨z + 1, ?_⟩
   have h1 : Lib.trimRightS (l ++ [48]) one.data.toList = Lib.trimRightS l one.data.toList := trimR_zeros l 1
   rw [c, h1, List.replicate_succ', <- List.append_assoc, <- hz]
  ·refine ⟨0, ?_⟩
   unfold Lib.trimRightS
   rw [List.reverse_append, List.reverse_singleton, List.singleton_append, List.dropWhile_cons, if_neg (by rw [isOne]; simpa using c), List.reverse_cons, List.reverse_reverse]
   simp
theorem mk_key {k : Int} {t : NumT} (hk : k.natAbs < 10 ^ e2000) (h : mkN k = (t, 0)) : numOk t /\ keyN t = k := by
 unfold mkN at h
 by_cases h0 : k = 0
 ·rw [h0] at h ⊢
  have h : madeV (decide ((0 : Int) < 0)) ⟨(digs 0).toArray⟩ (-400) = (t, 0) := h
  rw [made_zero] at h
  cases h
  exact ⟨rfl, key_zero⟩
 ·have hm : k.natAbs ≠ 0 := by omega
  have hl := digs_len hk
  have hl : (digs k.natAbs).length <= 2000 := hl
  clear hk
  unfold madeV at h
  rw [cutL_self, if_neg (digs_ne hm)] at h
  simp only at h
  split at h
  ·rename_i hf
   cases h
   refine ⟨hf, ?_⟩
   obtain ⟨z, hz⟩ := trimR_split (digs k.natAbs)
   have hr : (cutRV ⟨(digs k.natAbs).toArray⟩ one).data.toList = Lib.trimRightS (digs k.natAbs) one.data.toList := by
    unfold cutRV; rw [bytes_list, bytes_list]
   have hsz : (cutRV ⟨(digs k.natAbs).toArray⟩ one).size = (Lib.trimRightS (digs k.natAbs) one.data.toList).length := by rw [<- list_len, hr]
   have hlen : (digs k.natAbs).length = (Lib.trimRightS (digs k.natAbs) one.data.toList).length + z := by
    have := congrArg List.length hz
    rwa [List.length_append, List.length_replicate] at this
   have hdv : k.natAbs = dv (Lib.trimRightS (digs k.natAbs) one.data.toList) * 10 ^ z := by
    have := congrArg dv hz
    rw [dv_digs, dv_append, dv_zeros, List.length_replicate] at this
    omega
   rw [bytes_len, hsz, wrapN (i := -400 + ((digs k.natAbs).length : Int)) (by omega) (by omega), wrapN (by omega) (by omega)]
   unfold keyN kN
   simp only
   rw [hr, show (-400 + ((digs k.natAbs).length : Int) - ((Lib.trimRightS (digs k.natAbs) one.data.toList).length : Int) + 400).toNat = z by omega, <- hdv]
   by_cases hneg : k < 0
   ·rw [decide_eq_true hneg, if_pos rfl]; omega
   ·rw [decide_eq_false hneg, if_neg (by simp)]; omega
  ·cases h
theorem trimR_last {l r : List UInt8} {x : UInt8} (h : l = r ++ [x]) (hx : x.toNat ≠ 48) : Lib.trimRightS l one.data.toList = l := by
 unfold Lib.trimRightS
 have hc : ¬ (x = 48) := fun e => hx (by rw [e]; rfl)
 rw [h, List.reverse_append, List.reverse_singleton, List.singleton_append, List.dropWhile_cons, if_neg (by rw [isOne]; simpa using hc), List.reverse_cons, List.reverse_reverse]
theorem mk_self {t : NumT} (h : numOk t) : mkN (keyN t) = (t, 0) := by
 obtain ⟨b1, b2, b3⟩ := numV_num h
 rcases canon h with ⟨h1, h2, h3⟩ | ⟨h1, h2, h3⟩
 ·obtain ⟨a, d, e⟩ := t
  simp only at h1 h2 h3
  subst h1 h2 h3
  have : keyN (false, one, 0) = 0 := key_zero
  rw [this]
  exact mkN_zero
 ·obtain ⟨x, r, hd, hx⟩ := h2
  obtain ⟨r', x', hd', hx'⟩ := h3
  obtain ⟨a, d, e⟩ := t
  simp only at *
  have hp := dv_pos ⟨x, r, hd, hx⟩ h1
  have hpos : dv d.data.toList ≠ 0 := by have := pow_pos10 (d.data.toList.length - 1); omega
  have hk : (keyN (a, d, e)).natAbs = dv d.data.toList * 10 ^ (e + 400).toNat := by
   unfold keyN
   cases a with
   | true => rw [if_pos rfl, Int.natAbs_neg, Int.natAbs_natCast]
   | false => rw [if_neg (by simp), Int.natAbs_natCast]
  have hkp : 0 < dv d.data.toList * 10 ^ (e + 400).toNat := Nat.mul_pos (by omega) (pow_pos10 _)
  have hs : decide (keyN (a, d, e) < 0) = a := by
   cases a with
   | true =>
    show decide (-((dv d.data.toList * 10 ^ (e + 400).toNat : Nat) : Int) < 0) = true
    exact decide_eq_true (by omega)
   | false =>
    show decide (((dv d.data.toList * 10 ^ (e + 400).toNat : Nat) : Int) < 0) = false
    exact decide_eq_false (by omega)
  have hdg : digs (dv d.data.toList) = d.data.toList := by
   rw [<- drop_digs _ h1, hd]
   unfold Lib.trimLeftS
   have hc : ¬ (x = 48) := fun e => hx (by rw [e]; rfl)
   rw [List.dropWhile_cons, if_neg (by rw [isOne]; simpa using hc)]
  have hda : (⟨(digs (dv d.data.toList)).toArray⟩ : ByteArray) = d := by rw [hdg]
  have hdl : (digs (dv d.data.toList)).length = d.size := by rw [hdg, list_len]
  unfold mkN
  rw [hs, hk, made_shift hpos (by omega) (by omega) (by omega), show (-400 : Int) + ((e + 400).toNat : Int) = e by omega]
  unfold madeV
  rw [cutL_self, if_neg (digs_ne hpos), hda]
  have hcr : cutRV d one = d := by
   unfold cutRV; rw [trimR_last hd' hx']
  simp only [hcr]
  rw [wrapN (i := e + (d.size : Int)) (by omega) (by omega), wrapN (by omega) (by omega), show e + (d.size : Int) - (d.size : Int) = e by omega, if_pos (show numV a d e = 0 from h)]
theorem key_lt {t : NumT} (h : numOk t) : (keyN t).natAbs < 10 ^ e840 := by
 obtain ⟨b1, b2, b3⟩ := numV_num h
 have := val_lt h (x := -400) (by omega) b2
 rw [val_key (x := -400) (by omega) b2]
 simpa using this
theorem add_some {t u r : NumT} (ht : numOk t) (hu : numOk u) (h : addV t u = (r, 0)) : numOk r /\ keyN r = keyN t + keyN u := by
 rw [add_mk ht hu] at h
 refine mk_key ?_ h
 have h1 := key_lt ht
 have h2 := key_lt hu
 have h3 : 10 ^ (e840 + 1) <= 10 ^ e2000 := Nat.pow_le_pow_right (by decide) (by decide)
 exact Nat.lt_of_le_of_lt (Int.natAbs_add_le _ _) (Nat.lt_of_lt_of_le (lt_pow h1 h2) h3)
theorem add_bad {t u : NumT} (h : ¬ (numOk t /\ numOk u)) : addV t u = (noNumT, 10) := by
 unfold addV
 by_cases ht : numOk t
 ·by_cases hu : numOk u
  ·exact absurd ⟨ht, hu⟩ h
  ·rw [if_neg (show ¬ ¬ formN t = 0 from fun h => h ht), if_pos (show ¬ formN u = 0 from hu)]
 ·rw [if_pos (show ¬ formN t = 0 from ht)]
end Go.Proofs.YtflhikakndanjaaDoor.Vk
/- Contract: num.Add. -/
namespace Go.Proofs.YtflhikakndanjaaDoor.Vk
open Go Go.Ab Go.RowKit
theorem wrapI {i : Int} (h0 : -4611686018427387904 <= i) (h : i <= 4611686018427387904) : IntKind.i64.wrap i = i := wrap_id (by omega) (by omega)
theorem bytes_upd (l : List UInt8) (j : Nat) (v : Int) (h0 : 0 <= v) (h1 : v < 256) : Prim.upd.den [bytesD l, iD (j : Int), .row [.v (.int .u8 v)]] = bytesD (l.set j (UInt8.ofNat v.toNat)) := by
 show D.lst ((l.map _).set j _) = _
 unfold bytesD
 rw [List.map_set, UInt8.toNat_ofNat']
 have : (((v.toNat % 2 ^ 8 : Nat)) : Int) = v := by omega
 rw [this]
theorem bytes_rows (l : List UInt8) : (bytesD l).rows.length = l.length := by
 show (l.map _).length = _; rw [List.length_map]
theorem push_all : ∀ (l : List UInt8) (acc : ByteArray), (l.map fun c => D.row [.v (.int .u8 c.toNat)]).foldl (fun r d => r.push (UInt8.ofNat (d.cells.getD 0 .nil).int.toNat)) acc = acc ++ ⟨l.toArray⟩
 | [], acc => by
  apply ByteArray.ext
  rw [ByteArray.data_append]; simp
 | c :: r, acc => by
  rw [List.map_cons, List.foldl_cons, push_all r]
  have : (UInt8.ofNat (((D.row [.v (.int .u8 c.toNat)]).cells.getD 0 .nil).int.toNat)) = c := by
   show UInt8.ofNat c.toNat = c
   exact UInt8.ofNat_toNat
  rw [this]
  apply ByteArray.ext
  rw [ByteArray.data_append, ByteArray.data_append, ByteArray.data_push]
  apply Array.toList_inj.1
  simp
theorem bytes_text (l : List UInt8) (a : Nat) (b : Int) (h : (l.length : Int) = b) : Prim.sofl.den [Prim.sub.den [bytesD l, iD (a : Int), iD b]] = sD ⟨(l.drop a).toArray⟩ := by
 subst h
 show D.ofStr ((((l.map _).take l.length).drop a).foldl _ .empty) = _
 rw [List.take_of_length_le (by rw [List.length_map]; omega), <- List.map_drop, push_all]
 show D.v (.string _) = D.v (.string _)
 congr 2
theorem wrap8 {i : Int} (h0 : 0 <= i) (h : i < 256) : IntKind.u8.wrap i = i := by
 unfold IntKind.wrap
 have e : (2 ^ IntKind.u8.bits : Int) = 256 := rfl
 have e3 : IntKind.u8.signed = false := rfl
 simp only [e, e3, Bool.false_and, Bool.false_eq_true, if_false]
 omega
theorem dig_at {l : List UInt8} (h : Dig l) {j : Nat} {x : UInt8} (hx : l[j]? = some x) : 48 <= x.toNat /\ x.toNat <= 57 := h x (List.mem_of_getElem? hx)
theorem num_at0 (t : NumT) : cellAt (numD t) 0 = bD t.1 := rfl
theorem num_at1 (t : NumT) : cellAt (numD t) 1 = sD t.2.1 := rfl
theorem num_at2 (t : NumT) : cellAt (numD t) 2 = iD t.2.2 := rfl
theorem num_put (t : NumT) : D.row [bD t.1, sD t.2.1, iD t.2.2] = numD t := rfl
-- head 0 of loop 0: [t4 .bx 24 107374182400, t6 .sh (.cell (.sc .s)), t7 .sh (.cell (.sc .s)), t8 .sh (.cell (.sc (.i .i64))), t9 .sh (.cell (.sc .b)), t10 .sh (.cell (.sc (.i .i64))), t11 .ap 5 842 691489734656, t12 .sh (.cell (.sc (.i .i64))), t13 .sh (.cell (.sc (.i .i64))), t14 .sh (.cell (.sc (.i .i64)))]
end Go.Proofs.YtflhikakndanjaaDoor.Vk
/- The chapter's examples; numbers three by three. -/
namespace Go.Proofs.YtflhikakndanjaaDoor.Vk
open Go Go.Ab Go.RowKit
def heads_nawake : List Hd := []
def entry_nawake : Tree :=.ye
def trees_nawake : List Tree := []
noncomputable def deps_nawake : List Sig := []
theorem ok_nawake : check q_nawake deps_nawake heads_nawake entry_nawake trees_nawake = true := by kernel_rfl
theorem nawake_ok (n : Nat) : @Ok (I n) q_nawake (okD n) := by
 letI := I n
 refine fn_ok (hphi n) ok_nawake (by intro q hq; simp [deps_nawake] at hq) (fun _ _ _ => False) (fun _ _ => 0) ?_ (fun j h t d ds hj => by simp [heads_nawake] at hj)
 intro ds hf hp
 have : ds = [] := by
  match ds, hf with
  | [], _ => rfl
 subst this
 simp only [entry_nawake, q_nawake, Tree.holds, Out.den, E.den, E.denL, dn, List.getD_cons_zero, List.getD_cons_succ, List.length_map, phi_1000, phi_nawake]
theorem phi_formN (n : Nat) (t : NumT) : @Interp.phi (I n) 5 [numD t] = iD (formN t) := rfl
theorem sz_numD (t : NumT) : (numD t).sz = 4 := rfl
theorem lim_numD (t : NumT) : (numD t).Lim ↔ t.2.1.size <= lim := by
 unfold numD
 simp only [D.Lim, D.LimL, and_true, true_and]
theorem numOk_lim {t : NumT} (h : numOk t) : t.2.1.size <= lim := Nat.le_trans (numV_num h).1 (by decide)
theorem add_ok {t u r : NumT} (h : addV t u = (r, 0)) : numOk t /\ numOk u /\ numOk r /\ keyN r = keyN t + keyN u := by
 by_cases hc : numOk t /\ numOk u
 ·obtain ⟨g1, g2⟩ := add_some hc.1 hc.2 h
  exact ⟨hc.1, hc.2, g1, g2⟩
 ·rw [add_bad hc] at h; cases h
theorem add_assoc {a b c x y : NumT} (h1 : addV a b = (x, 0)) (h2 : addV b c = (y, 0)) : addV x c = addV a y := by
 obtain ⟨a1, a2, a3, a4⟩ := add_ok h1
 obtain ⟨b1, b2, b3, b4⟩ := add_ok h2
 rw [add_mk a3 b2, add_mk a1 b3, a4, b4, Int.add_assoc]
theorem add_comm (a b : NumT) : addV a b = addV b a := by
 by_cases h : numOk a /\ numOk b
 ·rw [add_mk h.1 h.2, add_mk h.2 h.1, Int.add_comm]
 ·rw [add_bad h, add_bad fun h' => h ⟨h'.2, h'.1⟩]
end Go.Proofs.YtflhikakndanjaaDoor.Vk
/- Contracts of the reference of chapter 1: Is, Made, Small, Whole. -/
namespace Go.Proofs.YtflhikakndanjaaDoor.Vk
open Go Go.Ab Go.RowKit
theorem u48 {c : UInt8} (h : (c.toNat : Int) = 48) : c = 48 := UInt8.toNat_inj.1 (by show c.toNat = 48; omega)
-- head 0 of loop 0: [t0 .sh (.cell (.sc .b)), t1 .sh (.cell (.sc .s)), t2 .sh (.cell (.sc (.i .i64))), t6 .bx 24 107374182400]
-- head 1 of loop 1: [t0 .sh (.cell (.sc .b)), t1 .sh (.cell (.sc .s)), t2 .sh (.cell (.sc (.i .i64))), t6 .bx 24 107374182400]
end Go.Proofs.YtflhikakndanjaaDoor.Vk
/- Contracts: digits, what a text begins with, exponents. -/
namespace Go.Proofs.YtflhikakndanjaaDoor.Vk
open Go Go.Ab Go.RowKit
theorem at0_def (s : ByteArray) : (s.data.toList.getD 0 0).toNat = at0 s := rfl
theorem tail_def (s : ByteArray) : s.extract 1 s.size = tailV s := rfl
theorem pos_of {s : ByteArray} (h : s ≠ ByteArray.empty) : 0 < s.size := by
 rcases Nat.eq_zero_or_pos s.size with h1 | h1
 ·exact absurd (size_zero.1 h1) h
 ·exact h1
theorem ascii_ten : ∀ (j : Nat) b, tenDigits.data.toList[j]? = some b -> b.toNat < 128 := fun j b hj => by
 have : (tenDigits.data.toList.all fun b => decide (b.toNat < 128)) = true := by decide
 have := List.all_eq_true.1 this b (List.mem_of_getElem? hj)
 simpa using this
theorem trimleft_ok (n : Nat) : @Ok (I n) q_trimleft (okD n) := by
 letI := I n
 refine ok_scalar (t := .s) rfl fun W vs ds hL ha hp => ?_
 obtain ⟨v, u, d, e, rfl, rfl, h1, h2, h3⟩ := args_two ha
 obtain ⟨s, rfl, rfl⟩ := arg_str h1
 subst h2 h3
 refine (Tryd.strings_TrimLeft_laid s tenDigits W (by decide) ascii_ten).mono ?_
 rintro e W' ⟨rfl, hb⟩
 exact ⟨_, rfl, hb, phi_trimleft n s tenDigits, rfl⟩
def heads_ndigits : List Hd := []
def entry_ndigits : Tree :=
 (.ite (.pr (.scmp .neq) [.v0, (.lit (.string .empty))])
 (.giv (.app 1000 [.v0, (.lit (.string (mkS [48, 49, 50, 51, 52, 53, 54, 55, 56, 57])))])
 (.rt (.pr (.scmp .eql) [(.app 6 [.v0, (.lit (.string (mkS [48, 49, 50, 51, 52, 53, 54, 55, 56, 57])))]), (.lit (.string .empty))]))) .no)
def trees_ndigits : List Tree := []
noncomputable def deps_ndigits : List Sig := [q_trim]
theorem ok_ndigits : check q_ndigits deps_ndigits heads_ndigits entry_ndigits trees_ndigits = true := by kernel_rfl
theorem ten_lim : tenDigits.size <= lim := by decide
theorem ok_ten {n : Nat} {s : ByteArray} (h : 2 < n) (hl : s.size <= lim) : okD n [sD s, sD tenDigits] := okD_two.2 ⟨by simp only [D.sz]; omega, lim_sD.2 hl, lim_sD.2 ten_lim⟩
theorem digV_iff (s : ByteArray) : digV s = true ↔ Dig s.data.toList /\ s ≠ ByteArray.empty := by
 unfold digV
 rw [Bool.and_eq_true, decide_eq_true_iff]
 have h1 : (s.data.toList.all fun c => decide (48 <= c.toNat /\ c.toNat <= 57)) = true ↔ Dig s.data.toList := dig_all
 rw [h1, ne_eq, ne_eq, emp_list]
theorem ndigits_more (n : Nat) : @Ok (I n) q_ndigits (fun ds => okD n ds /\ 10 < n) := by
 letI := I n
 refine fn_ok (hphi n) ok_ndigits (by
  intro q hq
  simp only [deps_ndigits, List.mem_singleton] at hq
  subst hq
  exact trim_ok n) (fun _ _ _ => False) (fun _ _ => 0) ?_ (fun j h t d ds hj => by simp [heads_ndigits] at hj)
 intro ds hf ⟨hp, hn⟩
 obtain ⟨s, rfl⟩ := one_str hf
 have hl := lim_sD.1 (okD_one.1 hp).2
 have o1 : okD n [sD s, sD tenDigits] := ok_ten (by omega) hl
 have ht : (mkS [48, 49, 50, 51, 52, 53, 54, 55, 56, 57]) = tenDigits := rfl
 simp only [entry_ndigits, q_ndigits, Tree.holds, Out.den, E.den, E.denL, dn, List.getD_cons_zero, List.getD_cons_succ, List.length_map, phi_1000, ht, phi_trim, phi_ndigits, o1]
 have hd := digV_iff s
 refine ⟨fun h => ?_, fun h => ?_⟩
 ·have : eqS (trimV s tenDigits) ByteArray.empty = digV s := by
   rw [Bool.eq_iff_iff, eqS_t, hd]
   exact ⟨fun k => ⟨dig_trim k, h⟩, fun k => trim_dig k.1⟩
  rw [this]
 ·have : digV s = false := by
   cases hb : digV s with
   | false => rfl
   | true =>
    have := (hd.1 hb).2
    first | exact absurd (by assumption) this | exact absurd (Classical.byContradiction h) this
  rw [this]
theorem ndigits_ok (n : Nat) : @Ok (I n) q_ndigits (okD n) :=
 ok_irrel (by decide) (@Ok.less (I (n + 20)) _ _ _ (ndigits_more (n + 20)) fun ds h => ⟨⟨by have := h.1; omega, h.2⟩, by omega⟩)
def heads_nfront : List Hd := []
def entry_nfront : Tree :=
 (.giv (.app 1000 [.v0, (.lit (.string (mkS [48, 49, 50, 51, 52, 53, 54, 55, 56, 57])))])
 (.giv (.le (.i 0) (.pr (.iop .sub .i64) [(.pr .slen [.v0]), (.pr .slen [(.app 77 [.v0, (.lit (.string (mkS [48, 49, 50, 51, 52, 53, 54, 55, 56, 57])))])])]))
 (.giv (.le (.pr (.iop .sub .i64) [(.pr .slen [.v0]), (.pr .slen [(.app 77 [.v0, (.lit (.string (mkS [48, 49, 50, 51, 52, 53, 54, 55, 56, 57])))])])]) (.pr .slen [.v0]))
 (.rt (.pr .row [(.pr .ssub [.v0, (.i 0), (.pr (.iop .sub .i64) [(.pr .slen [.v0]), (.pr .slen [(.app 77 [.v0, (.lit (.string (mkS [48, 49, 50, 51, 52, 53, 54, 55, 56, 57])))])])])]), (.app 77 [.v0, (.lit (.string (mkS [48, 49, 50, 51, 52, 53, 54, 55, 56, 57])))])])))))
def trees_nfront : List Tree := []
noncomputable def deps_nfront : List Sig := [q_trimleft]
theorem ok_nfront : check q_nfront deps_nfront heads_nfront entry_nfront trees_nfront = true := by kernel_rfl
theorem nfront_more (n : Nat) : @Ok (I n) q_nfront (fun ds => okD n ds /\ 10 < n) := by
 letI := I n
 refine fn_ok (hphi n) ok_nfront (by
  intro q hq
  simp only [deps_nfront, List.mem_singleton] at hq
  subst hq
  exact trimleft_ok n) (fun _ _ _ => False) (fun _ _ => 0) ?_ (fun j h t d ds hj => by simp [heads_nfront] at hj)
 intro ds hf ⟨hp, hn⟩
 obtain ⟨s, rfl⟩ := one_str hf
 have hl := lim_sD.1 (okD_one.1 hp).2
 have hl' : s.size <= 140737488355328 := hl
 have o1 : okD n [sD s, sD tenDigits] := ok_ten (by omega) hl
 have ht : (mkS [48, 49, 50, 51, 52, 53, 54, 55, 56, 57]) = tenDigits := rfl
 have hr := rest_len s
 have hrd : cutLV s tenDigits = restV s := rfl
 have hw : IntKind.i64.wrap ((s.size : Int) - ((restV s).size : Int)) = ((s.size - (restV s).size : Nat) : Int) := by rw [wrapI (by omega) (by omega)]; omega
 simp only [entry_nfront, q_nfront, Tree.holds, Out.den, E.den, E.denL, dn, List.getD_cons_zero, List.getD_cons_succ, List.length_map, phi_1000, ht, phi_trimleft, phi_nfront, o1, hrd, hw, Int.toNat_natCast, Int.toNat_zero]
 exact ⟨by omega, by omega, rfl⟩
theorem nfront_ok (n : Nat) : @Ok (I n) q_nfront (okD n) :=
 ok_irrel (by decide) (@Ok.less (I (n + 20)) _ _ _ (nfront_more (n + 20)) fun ds h => ⟨⟨by have := h.1; omega, h.2⟩, by omega⟩)
-- head 0 of loop 0: [t0 .sh (.cell (.sc .s)), t4 .sh (.cell (.sc (.i .i64)))]
-- head 0 of loop 0: [t4 .sh (.cell (.sc (.i .i64))), t5 .sh (.cell (.sc .s)), t7 .sh (.cell (.sc (.i .i64))), t8 .sh (.cell (.sc (.i .i64)))]
theorem minM_le (v : Nat) : minM v <= 1000000 := by unfold minM; split <;> omega
end Go.Proofs.YtflhikakndanjaaDoor.Vk
/- Plain laws of numbers: what is printed is read as itself; bytes likewise. -/
namespace Go.Proofs.YtflhikakndanjaaDoor.Vk
open Go Go.Ab Go.RowKit
theorem dzZ (m : Nat) : digsZ m = digs (m / 10) ++ [UInt8.ofNat (48 + m % 10)] := by
 unfold digsZ
 by_cases h : m = 0
 ·rw [if_pos h, h]
  show [48] = digs 0 ++ [UInt8.ofNat (48 + 0)]
  rw [digs_zero]; rfl
 ·rw [if_neg h, digs_pos h]
theorem digsZ_dig (m : Nat) : Dig (digsZ m) := by
 rw [dzZ]
 refine dig_append (digs_dig _) fun x hx => ?_
 rw [List.mem_singleton] at hx
 rw [hx, dig_byte (by omega)]; omega
theorem digsZ_dv (m : Nat) : dv (digsZ m) = m := by
 unfold digsZ
 by_cases h : m = 0
 ·rw [if_pos h, h]; rfl
 ·rw [if_neg h, dv_digs]
theorem digsZ_ne (m : Nat) : digsZ m ≠ [] := by rw [dzZ]; simp
theorem digsZ_le {m k : Nat} (h0 : 0 < k) (h : m < 10 ^ k) : (digsZ m).length <= k := by
 unfold digsZ
 split
 ·exact h0
 ·exact digs_len h
theorem made_key {t : NumT} {ng : Bool} {s : ByteArray} {e : Int} (ht : numOk t) (hd : Dig s.data.toList) (h0 : -400 <= e) (h1 : e <= 90000) (hl : s.size <= 100000) (hk : dv s.data.toList * 10 ^ (e + 400).toNat = dv t.2.1.data.toList * 10 ^ (t.2.2 + 400).toNat) (hn : t.1 = ng) : madeV ng s e = (t, 0) := by
 have hs := mk_self ht
 have hz := kN_zero ht
 have e1 : (keyN t).natAbs = dv t.2.1.data.toList * 10 ^ (t.2.2 + 400).toNat := by
  unfold keyN kN
  cases t.1 with
  | true => rw [if_pos rfl, Int.natAbs_neg, Int.natAbs_natCast]
  | false => rw [if_neg (by simp), Int.natAbs_natCast]
 rw [made_dv (ng' := ng) hd rfl fun _ => rfl]
 by_cases hm : dv s.data.toList = 0
 ·rw [hm, made_zero]
  rw [hm, Nat.zero_mul] at hk
  rw [hz.1 hk.symm]; rfl
 ·have hlen := digs_len (dv_lt _ hd)
  rw [list_len] at hlen
  rw [<- hs]
  unfold mkN
  rw [e1, <- hk, made_shift (j := (e + 400).toNat) (e := -400) hm (by omega) (by omega) (by omega), show (-400 : Int) + ((e + 400).toNat : Int) = e by omega]
  have : decide (keyN t < 0) = ng := by
   rw [<- hn]
   unfold keyN
   cases hb : t.1 with
   | true =>
    have := hz.2 hb
    rw [if_pos rfl]
    exact decide_eq_true (by omega)
   | false =>
    rw [if_neg (by simp)]
    exact decide_eq_false (by omega)
  rw [this]
theorem tw_append {p : UInt8 -> Bool} {a b : List UInt8} (h : ∀ x, x ∈ a -> p x = true) : (a ++ b).takeWhile p = a ++ b.takeWhile p /\ (a ++ b).dropWhile p = b.dropWhile p := by
 induction a with
 | nil => exact ⟨rfl, rfl⟩
 | cons x r ih =>
  obtain ⟨h1, h2⟩ := ih fun y hy => h y (List.mem_cons_of_mem _ hy)
  have hx := h x (List.mem_cons_self ..)
  refine ⟨?_, ?_⟩
  ·rw [List.cons_append, List.takeWhile_cons, if_pos hx, h1]; rfl
  ·rw [List.cons_append, List.dropWhile_cons, if_pos hx, h2]
theorem dig_isDig {l : List UInt8} (h : Dig l) : ∀ x, x ∈ l -> isDig x = true := fun x hx => decide_eq_true (h x hx)
theorem front_cat {a b : ByteArray} (h : Dig a.data.toList) (hb : ¬ (48 <= at0 b /\ at0 b <= 57)) : frontV (a ++ b) = a /\ restV (a ++ b) = b := by
 obtain ⟨h1, h2⟩ := tw_append (b := b.data.toList) (dig_isDig h)
 have hb' : b.data.toList.takeWhile isDig = [] /\ b.data.toList.dropWhile isDig = b.data.toList := by
  cases hl : b.data.toList with
  | nil => exact ⟨rfl, rfl⟩
  | cons x r =>
   have hx : isDig x = false := by
    unfold at0 at hb
    rw [hl] at hb
    exact decide_eq_false hb
   rw [List.takeWhile_cons, List.dropWhile_cons, hx]
   exact ⟨rfl, rfl⟩
 refine ⟨ba_ext ?_, ba_ext ?_⟩
 ·rw [front_list, cat_list, h1, hb'.1, List.append_nil]
 ·rw [rest_list, cat_list, h2, hb'.2]
theorem at0_cat {a b : ByteArray} (h : 0 < a.size) : at0 (a ++ b) = at0 a := by
 unfold at0
 rw [cat_list]
 cases hl : a.data.toList with
 | nil => rw [<- list_len, hl] at h; exact absurd h (by simp)
 | cons x r => rfl
theorem tail_cons {a : UInt8} {b : ByteArray} : tailV (mkS [a.toNat] ++ b) = b := by
 apply ba_ext
 rw [tail_list, cat_list]
 rfl
theorem dig_at0 {s : ByteArray} (h : Dig s.data.toList) (hp : 0 < s.size) : 48 <= at0 s /\ at0 s <= 57 := by
 cases hl : s.data.toList with
 | nil => rw [<- list_len, hl] at hp; exact absurd hp (by simp)
 | cons x r =>
  have := h x (by rw [hl]; exact List.mem_cons_self ..)
  unfold at0
  rw [hl]; exact this
theorem sign_strip {ng : Bool} {b : ByteArray} (h : at0 b ≠ 45) : (if at0 (signV ng ++ b) = 45 then tailV (signV ng ++ b) else signV ng ++ b) = b /\ decide (at0 (signV ng ++ b) = 45) = ng := by
 cases ng with
 | true =>
  have : at0 (signV true ++ b) = 45 := by
   show at0 (mkS [45] ++ b) = 45
   rw [at0_cat (by decide)]; rfl
  rw [if_pos this, decide_eq_true this]
  exact ⟨tail_cons (a := 45), rfl⟩
 | false =>
  have e : signV false ++ b = b := by
   show ByteArray.empty ++ b = b
   apply ba_ext; rw [cat_list]; rfl
  rw [e, if_neg h, decide_eq_false h]
  exact ⟨rfl, rfl⟩
theorem expV_empty : expV ByteArray.empty = (0, true) := by unfold expV; rw [if_pos rfl]
theorem smallText_size {i : Int} (h : i.natAbs < 10 ^ 6) : (smallText i).size <= 7 := by
 have := digsZ_le (by decide) h
 unfold smallText
 rw [cat_size, bytes_len (digsZ i.natAbs)]
 split
 ·show 1 + _ <= 7; omega
 ·show 0 + _ <= 7; omega
theorem expV_small {i : Int} (h : i.natAbs < 1000000) : expV (mkS [101] ++ smallText i) = (i, true) := by
 have hz := digsZ_ne i.natAbs
 have hdz := digsZ_dig i.natAbs
 have hpos : 0 < (⟨(digsZ i.natAbs).toArray⟩ : ByteArray).size := by rw [bytes_len]; exact List.length_pos_iff.2 hz
 have hat := dig_at0 (s := ⟨(digsZ i.natAbs).toArray⟩) (by rw [bytes_list]; exact hdz) hpos
 have h1 : at0 (mkS [101] ++ smallText i) = 101 := by rw [at0_cat (by decide)]; rfl
 have h2 : tailV (mkS [101] ++ smallText i) = smallText i := tail_cons (a := 101)
 have hdg : digV ⟨(digsZ i.natAbs).toArray⟩ = true := by
  unfold digV
  rw [Bool.and_eq_true, decide_eq_true_iff, bytes_list]
  exact ⟨List.all_eq_true.2 fun x hx => decide_eq_true (hdz x hx), hz⟩
 have hdv : dvM ⟨(digsZ i.natAbs).toArray⟩ = (i.natAbs : Int) := by
  unfold dvM
  rw [bytes_list, digsZ_dv, if_pos h]
 have hU : expU (mkS [101] ++ smallText i) = ⟨(digsZ i.natAbs).toArray⟩ /\ expM (mkS [101] ++ smallText i) = decide (i < 0) := by
  unfold expU expM
  rw [h2]
  unfold smallText
  by_cases hn : i < 0
  ·have e : at0 ((⟨#[45]⟩ : ByteArray) ++ ⟨(digsZ i.natAbs).toArray⟩) = 45 := by rw [at0_cat (by decide)]; rfl
   rw [if_pos hn, if_pos (.inl e), decide_eq_true e, decide_eq_true hn]
   exact ⟨tail_cons (a := 45), rfl⟩
  ·have e : ByteArray.empty ++ (⟨(digsZ i.natAbs).toArray⟩ : ByteArray) = ⟨(digsZ i.natAbs).toArray⟩ := by apply ba_ext; rw [cat_list]; rfl
   rw [if_neg hn, e, if_neg (by omega), decide_eq_false (by omega), decide_eq_false hn]
   exact ⟨rfl, rfl⟩
 unfold expV
 rw [hU.1, hU.2, hdg, hdv, h1]
 have hne : mkS [101] ++ smallText i ≠ ByteArray.empty := fun h => by rw [h] at h1; exact absurd h1 (by decide)
 rw [if_neg hne, if_neg (by omega), if_neg (by simp)]
 by_cases hn : i < 0
 ·rw [decide_eq_true hn, if_pos rfl]
  exact Prod.ext (by show -(i.natAbs : Int) = i; omega) rfl
 ·rw [decide_eq_false hn, if_neg (by simp)]
  exact Prod.ext (by show (i.natAbs : Int) = i; omega) rfl
theorem cat_assoc (a b c : ByteArray) : a ++ b ++ c = a ++ (b ++ c) := by apply ba_ext; rw [cat_list, cat_list, cat_list, cat_list, List.append_assoc]
theorem cat_nil (a : ByteArray) : a ++ ByteArray.empty = a := by apply ba_ext; rw [cat_list]; simp
theorem nil_cat (a : ByteArray) : ByteArray.empty ++ a = a := by apply ba_ext; rw [cat_list]; rfl
theorem ne_empty {a : ByteArray} (h : 0 < a.size) : a ≠ ByteArray.empty := fun e => by rw [e] at h; exact absurd h (by decide)
theorem parse_gen {ng : Bool} {w P p Q : ByteArray} {x : Int} (hw : Dig w.data.toList) (hw0 : 0 < w.size) (hz : ¬ (1 < w.size /\ at0 w = 48)) (hQ : ¬ (48 <= at0 Q /\ at0 Q <= 57))
  (hP : (P = ByteArray.empty /\ p = ByteArray.empty /\ at0 Q ≠ 46) \/ (P = mkS [46] ++ p /\ 0 < p.size /\ Dig p.data.toList)) (hx : expV Q = (x, true)) (hl : (signV ng ++ (w ++ (P ++ Q))).size <= 512) :
  parseV (signV ng ++ (w ++ (P ++ Q))) = madeV ng (w ++ p) (wrap (x - p.size)) := by
 have hd := dig_at0 hw hw0
 have a0 : at0 (w ++ (P ++ Q)) = at0 w := at0_cat hw0
 obtain ⟨s1, s2⟩ := sign_strip (ng := ng) (b := w ++ (P ++ Q)) (by omega)
 have aP : ¬ (48 <= at0 (P ++ Q) /\ at0 (P ++ Q) <= 57) := by
  rcases hP with ⟨rfl, _, _⟩ | ⟨rfl, _, _⟩
  ·rw [nil_cat]; exact hQ
  ·have : at0 (mkS [46] ++ p ++ Q) = 46 := by rw [cat_assoc, at0_cat (by decide)]; rfl
   omega
 obtain ⟨f1, f2⟩ := front_cat hw aP
 unfold parseV
 simp only [s1, s2, f1, f2]
 rw [if_neg (ne_empty hw0), if_neg hz]
 rcases hP with ⟨rfl, rfl, h46⟩ | ⟨rfl, hp0, hpd⟩
 ·rw [nil_cat] at hl
  rw [nil_cat, if_neg h46, if_neg h46, if_neg (fun h => h46 h.1), hx, if_neg (by simp), if_neg (by omega)]
 ·have h46 : at0 (mkS [46] ++ p ++ Q) = 46 := by rw [cat_assoc, at0_cat (by decide)]; rfl
  have ht : tailV (mkS [46] ++ p ++ Q) = p ++ Q := by rw [cat_assoc]; exact tail_cons (a := 46)
  obtain ⟨g1, g2⟩ := front_cat hpd hQ
  rw [if_pos h46, if_pos h46, ht, g1, g2, if_neg (fun h => ne_empty hp0 h.2), hx, if_neg (by simp), if_neg (by omega)]
theorem sign_size (ng : Bool) : (signV ng).size <= 1 := by cases ng <;> decide
theorem num_first {t : NumT} (h : numOk t) : Dig t.2.1.data.toList /\ 0 < t.2.1.size /\ t.2.1.size <= 40 /\ -400 <= t.2.2 /\ t.2.2 <= 400 /\ ((t.2.1 = one /\ t.2.2 = 0) \/ at0 t.2.1 ≠ 48) := by
 obtain ⟨b1, b2, b3⟩ := numV_num h
 rcases canon h with ⟨h1, h2, h3⟩ | ⟨h1, ⟨x, r, hd, hx⟩, _⟩
 ·refine ⟨numOk_dig h, by rw [h2]; decide, b1, b2, b3, .inl ⟨h2, h3⟩⟩
 ·refine ⟨h1, by rw [<- list_len, hd]; simp, b1, b2, b3, .inr ?_⟩
  unfold at0
  rw [hd]; exact hx
theorem ext_cat (c : ByteArray) (j : Nat) (h : j <= c.size) : c.extract 0 j ++ c.extract j c.size = c := by
 apply ba_ext
 rw [cat_list, ext_list', ext_list', List.drop_zero, Nat.sub_zero, List.take_of_length_le (l := c.data.toList.drop j), List.take_append_drop]
 rw [List.length_drop, list_len]; omega
theorem dig_ext {c : ByteArray} (h : Dig c.data.toList) (i j : Nat) : Dig (c.extract i j).data.toList := fun x hx => by
 rw [ext_list'] at hx
 exact h x (List.mem_of_mem_drop (List.mem_of_mem_take hx))
theorem at0_ext {c : ByteArray} {j : Nat} (h : 0 < j) : at0 (c.extract 0 j) = at0 c := by
 unfold at0
 rw [ext_list', List.drop_zero, Nat.sub_zero]
 cases c.data.toList with
 | nil => rw [List.take_nil]
 | cons x r =>
  obtain ⟨k, rfl⟩ : ∃ k, j = k + 1 := ⟨j - 1, by omega⟩
  rfl
theorem parse_print {t : NumT} (h : numOk t) : parseV (printV t).1 = (t, 0) /\ (printV t).2 = 0 := by
 obtain ⟨hd, hpos, b1, b2, b3, hfst⟩ := num_first h
 obtain ⟨ng, d, x⟩ := t
 simp only at hd hpos b1 b2 b3 hfst
 have hs := sign_size ng
 unfold printV
 rw [if_neg (show ¬ ¬ formN (ng, d, x) = 0 from fun k => k h)]
 simp only
 by_cases cA : 0 <= x /\ (d.size : Int) + x <= 21
 ·rw [if_pos cA]
  refine ⟨?_, rfl⟩
  have e : signV ng ++ d ++ zer x = signV ng ++ ((d ++ zer x) ++ (ByteArray.empty ++ ByteArray.empty)) := by rw [nil_cat, cat_nil, cat_assoc]
  have hz : (d ++ zer x).size = d.size + x.toNat := by rw [cat_size, zer_size]
  have hdz : Dig (d ++ zer x).data.toList := by rw [cat_list, zer_list]; exact dig_append hd (dig_zeros _)
  have hn : ¬ (1 < (d ++ zer x).size /\ at0 (d ++ zer x) = 48) := by
   rw [hz, at0_cat hpos]
   rcases hfst with ⟨rfl, rfl⟩ | hf
   ·intro hc; exact absurd hc.1 (by decide)
   ·exact fun hc => hf hc.2
  rw [e, parse_gen (p := ByteArray.empty) (x := 0) hdz (by omega) hn (by decide) (.inl ⟨rfl, rfl, by decide⟩) expV_empty (by rw [cat_size, cat_size, hz, nil_cat]; show _ + (_ + 0) <= 512; omega), cat_nil]
  have hw : wrap (0 - (ByteArray.empty.size : Int)) = 0 := rfl
  rw [hw]
  refine made_key h hdz (by omega) (by omega) (by omega) ?_ rfl
  rw [cat_list, zer_list, dv_append, dv_zeros, List.length_replicate, Nat.add_zero, Nat.mul_assoc, <- Nat.pow_add]
  show dv d.data.toList * 10 ^ (x.toNat + (0 + 400 : Int).toNat) = dv d.data.toList * 10 ^ (x + 400).toNat
  rw [show x.toNat + (0 + 400 : Int).toNat = (x + 400).toNat by omega]
 rw [if_neg cA]
 by_cases cB : x < 0 /\ -21 <= x
 ·rw [if_pos cB]
  refine ⟨?_, rfl⟩
  have hf : at0 d ≠ 48 := by
   rcases hfst with ⟨_, hx⟩ | hf
   ·omega
   ·exact hf
  have hcs : (printC d x).size = (if 0 < 1 - x - (d.size : Int) then 1 - x - d.size else 0).toNat + d.size := by unfold printC; rw [cat_size, zer_size]
  have hcd : Dig (printC d x).data.toList := by unfold printC; rw [cat_list, zer_list]; exact dig_append (dig_zeros _) hd
  have hcv : dv (printC d x).data.toList = dv d.data.toList := by unfold printC; rw [cat_list, zer_list, dv_append, dv_zeros, Nat.zero_mul, Nat.zero_add]
  have hc0 : 1 < ((printC d x).size : Int) + x -> at0 (printC d x) = at0 d := fun hlt => by
   have : (if 0 < 1 - x - (d.size : Int) then 1 - x - d.size else 0) = 0 := by
    split at hcs
    ·omega
    ·rename_i hq; rw [if_neg hq]
   unfold printC
   rw [this]
   show at0 (zer 0 ++ d) = _
   rw [show zer 0 = ByteArray.empty from rfl, nil_cat]
  have hsz : 1 <= ((printC d x).size : Int) + x /\ ((printC d x).size : Int) <= 62 := by rw [hcs]; split <;> omega
  generalize printC d x = c at *
  obtain ⟨j, hj⟩ : ∃ j : Nat, (c.size : Int) + x = j := ⟨((c.size : Int) + x).toNat, by omega⟩
  rw [hj, Int.toNat_natCast]
  have e1 : (c.extract 0 j).size = j := by rw [ByteArray.size_extract]; omega
  have e2 : (c.extract j c.size).size = c.size - j := by rw [ByteArray.size_extract]; omega
  have e : signV ng ++ c.extract 0 j ++ mkS [46] ++ c.extract j c.size = signV ng ++ (c.extract 0 j ++ ((mkS [46] ++ c.extract j c.size) ++ ByteArray.empty)) := by rw [cat_nil, cat_assoc, cat_assoc]
  have hn : ¬ (1 < (c.extract 0 j).size /\ at0 (c.extract 0 j) = 48) := by
   rw [e1, at0_ext (by omega)]
   intro hq
   rw [hc0 (by omega)] at hq
   exact hf hq.2
  have e46 : (mkS [46]).size = 1 := rfl
  have e00 : (ByteArray.empty).size = 0 := rfl
  rw [e, parse_gen (p := c.extract j c.size) (x := 0) (dig_ext hcd _ _) (by omega) hn (by decide) (.inr ⟨rfl, by omega, dig_ext hcd _ _⟩) expV_empty (by rw [cat_size, cat_size, cat_size, cat_size, e1, e2, e46, e00]; omega), ext_cat _ _ (by omega), e2]
  have hw : wrap (0 - ((c.size - j : Nat) : Int)) = x := by rw [wrapN (by omega) (by omega)]; omega
  rw [hw]
  refine made_key h hcd (by omega) (by omega) (by omega) ?_ rfl
  rw [hcv]
 rw [if_neg cB]
 refine ⟨?_, rfl⟩
 have hf : at0 d ≠ 48 := by
  rcases hfst with ⟨hd1, hx⟩ | hf
  ·exfalso; apply cA; rw [hd1, hx]; decide
  ·exact hf
 have e0 : (d.extract 0 1).size = 1 := by rw [ByteArray.size_extract]; omega
 have e1 : (d.extract 1 d.size).size = d.size - 1 := by rw [ByteArray.size_extract]; omega
 have hi : (x + d.size - 1).natAbs < 1000000 := by omega
 have hts := smallText_size (i := x + d.size - 1) (by omega)
 have a101 : at0 (mkS [101] ++ smallText (x + d.size - 1)) = 101 := by rw [at0_cat (by decide)]; rfl
 have hn : ¬ (1 < (d.extract 0 1).size /\ at0 (d.extract 0 1) = 48) := by rw [e0]; omega
 have e46 : (mkS [46]).size = 1 := rfl
 have e101 : (mkS [101]).size = 1 := rfl
 have e00 : (ByteArray.empty).size = 0 := rfl
 by_cases hk : 1 < d.size
 ·have e : signV ng ++ d.extract 0 1 ++ (if 1 < d.size then mkS [46] else ByteArray.empty) ++ d.extract 1 d.size ++ mkS [101] ++ smallText (x + d.size - 1) = signV ng ++ (d.extract 0 1 ++ ((mkS [46] ++ d.extract 1 d.size) ++ (mkS [101] ++ smallText (x + d.size - 1)))) := by
   rw [if_pos hk]; simp only [cat_assoc]
  rw [e, parse_gen (p := d.extract 1 d.size) (dig_ext hd _ _) (by omega) hn (by omega) (.inr ⟨rfl, by omega, dig_ext hd _ _⟩) (expV_small hi) (by rw [cat_size, cat_size, cat_size, cat_size, cat_size, e0, e1, e46, e101]; omega), ext_cat _ _ (by omega), e1]
  have hw : wrap (x + d.size - 1 - ((d.size - 1 : Nat) : Int)) = x := by rw [wrapN (by omega) (by omega)]; omega
  rw [hw]
  exact made_key h hd (by omega) (by omega) (by omega) rfl rfl
 ·have hd1 : d.extract 1 d.size = ByteArray.empty := size_zero.1 (by omega)
  have hd0 : d.extract 0 1 = d := by
   have := ext_cat d 1 (by omega)
   rwa [hd1, cat_nil] at this
  have e : signV ng ++ d.extract 0 1 ++ (if 1 < d.size then mkS [46] else ByteArray.empty) ++ d.extract 1 d.size ++ mkS [101] ++ smallText (x + d.size - 1) = signV ng ++ (d ++ (ByteArray.empty ++ (mkS [101] ++ smallText (x + d.size - 1)))) := by
   rw [if_neg hk, hd1, hd0, cat_nil, cat_nil, nil_cat]; simp only [cat_assoc]
  rw [e, parse_gen (p := ByteArray.empty) hd (by omega) (by omega) (by omega) (.inl ⟨rfl, rfl, by omega⟩) (expV_small hi) (by rw [cat_size, cat_size, cat_size, cat_size, e101, e00]; omega), cat_nil, e00]
  have hw : wrap (x + d.size - 1 - ((0 : Nat) : Int)) = x := by rw [wrapN (by omega) (by omega)]; omega
  rw [hw]
  exact made_key h hd (by omega) (by omega) (by omega) rfl rfl
theorem bvA_append (a b : List UInt8) : ∀ acc, bvA acc (a ++ b) = bvA (bvA acc a) b := by
 induction a with
 | nil => intro _; rfl
 | cons x r ih => intro acc; exact ih _
theorem byts_zero : byts 0 = [] := by rw [byts]; rfl
theorem byts_pos {n : Nat} (h : n ≠ 0) : byts n = byts (n / 256) ++ [UInt8.ofNat (n % 256)] := by rw [byts, if_neg h]
theorem bv_byts : ∀ n, bvA 0 (byts n) = n := by
 intro n
 induction n using Nat.strongRecOn with
 | ind n ih =>
  by_cases h : n = 0
  ·rw [h, byts_zero]; rfl
  ·rw [byts_pos h, bvA_append, ih _ (by omega)]
   show n / 256 * 256 + (UInt8.ofNat (n % 256)).toNat = n
   rw [UInt8.toNat_ofNat']; omega
theorem byts_head : ∀ n, ∀ x r, byts n = x :: r -> x.toNat ≠ 0 := by
 intro n
 induction n using Nat.strongRecOn with
 | ind n ih =>
  intro x r hx
  by_cases h : n = 0
  ·rw [h, byts_zero] at hx; cases hx
  ·rw [byts_pos h] at hx
   by_cases h1 : n / 256 = 0
   ·rw [h1, byts_zero, List.nil_append] at hx
    rw [<- (List.cons.inj hx).1, UInt8.toNat_ofNat']; omega
   ·cases hb : byts (n / 256) with
    | nil =>
     have := bv_byts (n / 256)
     rw [hb] at this
     exact absurd this.symm h1
    | cons y q =>
     rw [hb, List.cons_append] at hx
     rw [<- (List.cons.inj hx).1]
     exact ih _ (by omega) y q hb
def e39 : Nat := 40
theorem of_bytes {t : NumT} (h : (bytesV t).2 = 0) : numOk t /\ ofV t.1 (bytesV t).1 = (t, 0) := by
 unfold bytesV at h
 split at h
 ·exact absurd h (by decide)
 rename_i h1
 split at h
 ·exact absurd h (by decide)
 rename_i h2
 split at h
 ·exact absurd h (by decide)
 rename_i h3
 have ht : numOk t := Classical.byContradiction fun hn => h1 hn
 refine ⟨ht, ?_⟩
 unfold bytesV
 rw [if_neg h1, if_neg h2, if_neg h3]
 unfold ofV
 rw [bv_byts]
 obtain ⟨hd, hpos, b1, b2, b3, hfst⟩ := num_first ht
 have hm : dv t.2.1.data.toList * 10 ^ t.2.2.toNat < 10 ^ e39 := by
  have h1 := dv_lt _ hd
  rw [list_len] at h1
  have h2 : dv t.2.1.data.toList * 10 ^ t.2.2.toNat < 10 ^ t.2.1.size * 10 ^ t.2.2.toNat := Nat.mul_lt_mul_of_pos_right h1 (pow_pos10 _)
  rw [<- Nat.pow_add] at h2
  exact Nat.lt_of_lt_of_le h2 (Nat.pow_le_pow_right (by decide) (show _ <= 40 by omega))
 have hl : _ <= 40 := digs_len hm
 clear hm
 refine made_key ht (by rw [bytes_list]; exact digs_dig _) (by omega) (by omega) (by rw [bytes_len]; omega) ?_ rfl
 rw [bytes_list, dv_digs, Nat.mul_assoc, <- Nat.pow_add]
 rw [show t.2.2.toNat + (0 + 400 : Int).toNat = (t.2.2 + 400).toNat by omega]
theorem made_num {ng : Bool} {s : ByteArray} {e : Int} {t : NumT} (h : madeV ng s e = (t, 0)) : numOk t := by
 unfold madeV at h
 split at h
 ·cases h; rfl
 ·simp only at h
  split at h
  ·rename_i hf
   cases h
   exact hf
  ·cases h
theorem ite_num {c : Prop} [Decidable c] {k : Int} {b : NumT × Int} {t : NumT} (hk : k ≠ 0) (h : (if c then (noNumT, k) else b) = (t, 0)) : b = (t, 0) := by
 by_cases hc : c
 ·rw [if_pos hc] at h
  exact absurd (congrArg Prod.snd h) hk
 ·rwa [if_neg hc] at h
theorem parse_num {s : ByteArray} {t : NumT} (h : parseV s = (t, 0)) : numOk t :=
 made_num (ite_num (by decide) (ite_num (by decide) (ite_num (by decide) (ite_num (by decide) (ite_num (by decide) h)))))
end Go.Proofs.YtflhikakndanjaaDoor.Vk
/- Contracts: numbers' texts, read. -/
namespace Go.Proofs.YtflhikakndanjaaDoor.Vk
open Go Go.Ab Go.RowKit
theorem one_text {d : List D} {k : ByteArray} (h : FitL tb [.cell (.sc .s), .lit k] d) : ∃ s, d = [sD s, sD k] := by
 match d, h with
 | [a, b], ⟨h1, h2, _⟩ =>
  obtain ⟨l, rfl⟩ := fits_str h1
  exact ⟨l, by rw [show b = sD k from h2]⟩
theorem pre_byte {s : ByteArray} {c : UInt8} (h : 1 <= s.size) : s.extract 0 1 = mkS [c.toNat] ↔ at0 s = c.toNat := by
 have e : (s.extract 0 1).data.toList = [s.data.toList.getD 0 0] := by
  rw [ext_list']
  cases hl : s.data.toList with
  | nil => rw [size_len, hl] at h; exact absurd h (by decide)
  | cons x r => rfl
 have e2 : (mkS [c.toNat]).data.toList = [c] := by simp [mkS]
 constructor
 ·intro h1
  rw [h1, e2] at e
  unfold at0
  rw [<- (List.cons.inj e).1]
 ·intro h1
  apply ba_ext
  rw [e, e2, show s.data.toList.getD 0 0 = c from UInt8.toNat_inj.1 h1]
theorem at0_none {s : ByteArray} (h : ¬ 1 <= s.size) : at0 s = 0 := by
 have : s = ByteArray.empty := size_zero.1 (by omega)
 rw [this]; rfl
def heads_cutminus : List Hd := []
def entry_cutminus : Tree :=
 (.ite (.ge (.pr .slen [.v0]) (.i 1))
 (.giv (.le (.i 1) (.pr .slen [.v0]))
 (.ite (.pr (.scmp .eql) [(.pr .ssub [.v0, (.i 0), (.i 1)]), (.lit (.string (mkS [45])))])
 (.rt (.pr .row [(.pr .ssub [.v0, (.i 1), (.pr .slen [.v0])]), (.lit (.bool true))]))
 (.rt (.pr .row [.v0, (.lit (.bool false))]))))
 (.rt (.pr .row [.v0, (.lit (.bool false))])))
def trees_cutminus : List Tree := []
noncomputable def deps_cutminus : List Sig := []
theorem ok_cutminus : check q_cutminus deps_cutminus heads_cutminus entry_cutminus trees_cutminus = true := by kernel_rfl
theorem cutminus_ok (n : Nat) (pre : List D -> Prop) : @Ok (I n) q_cutminus pre := by
 letI := I n
 refine fn_ok (n := n) (hphi n) ok_cutminus (by intro q hq; simp [deps_cutminus] at hq) (fun _ _ _ => False) (fun _ _ => 0) ?_ (fun j h t d ds hj => by simp [heads_cutminus] at hj)
 intro ds hf hp
 obtain ⟨s, rfl⟩ := one_text hf
 have h1n : (1 : Int).toNat = 1 := rfl
 have hb := @pre_byte s 45
 have hz := @at0_none s
 have h45 : (45 : UInt8).toNat = 45 := rfl
 rw [h45] at hb
 simp only [entry_cutminus, q_cutminus, Tree.holds, Out.den, E.den, E.denL, dn, List.getD_cons_zero, List.getD_cons_succ, List.length_map, phi_1000, phi_cutminus, Int.toNat_natCast, Int.toNat_zero, h1n, tail_def]
 unfold cutP
 refine ⟨fun h => ⟨by omega, fun hc => ?_, fun hc => ?_⟩, fun h => ?_⟩
 ·have := (hb (by omega)).1 hc
  rw [if_pos this, decide_eq_true this]
 ·have : ¬ at0 s = 45 := fun k => hc ((hb (by omega)).2 k)
  rw [if_neg this, decide_eq_false this]
 ·have : ¬ at0 s = 45 := by have := hz (by omega); omega
  rw [if_neg this, decide_eq_false this]
def heads_cutdot : List Hd := []
def entry_cutdot : Tree :=
 (.ite (.ge (.pr .slen [.v0]) (.i 1))
 (.giv (.le (.i 1) (.pr .slen [.v0]))
 (.ite (.pr (.scmp .eql) [(.pr .ssub [.v0, (.i 0), (.i 1)]), (.lit (.string (mkS [46])))])
 (.rt (.pr .row [(.pr .ssub [.v0, (.i 1), (.pr .slen [.v0])]), (.lit (.bool true))]))
 (.rt (.pr .row [.v0, (.lit (.bool false))]))))
 (.rt (.pr .row [.v0, (.lit (.bool false))])))
def trees_cutdot : List Tree := []
noncomputable def deps_cutdot : List Sig := []
theorem ok_cutdot : check q_cutdot deps_cutdot heads_cutdot entry_cutdot trees_cutdot = true := by kernel_rfl
theorem cutdot_ok (n : Nat) (pre : List D -> Prop) : @Ok (I n) q_cutdot pre := by
 letI := I n
 refine fn_ok (n := n) (hphi n) ok_cutdot (by intro q hq; simp [deps_cutdot] at hq) (fun _ _ _ => False) (fun _ _ => 0) ?_ (fun j h t d ds hj => by simp [heads_cutdot] at hj)
 intro ds hf hp
 obtain ⟨s, rfl⟩ := one_text hf
 have h1n : (1 : Int).toNat = 1 := rfl
 have hb := @pre_byte s 46
 have hz := @at0_none s
 have h45 : (46 : UInt8).toNat = 46 := rfl
 rw [h45] at hb
 simp only [entry_cutdot, q_cutdot, Tree.holds, Out.den, E.den, E.denL, dn, List.getD_cons_zero, List.getD_cons_succ, List.length_map, phi_1000, phi_cutdot, Int.toNat_natCast, Int.toNat_zero, h1n, tail_def]
 unfold cutP
 refine ⟨fun h => ⟨by omega, fun hc => ?_, fun hc => ?_⟩, fun h => ?_⟩
 ·have := (hb (by omega)).1 hc
  rw [if_pos this, decide_eq_true this]
 ·have : ¬ at0 s = 46 := fun k => hc ((hb (by omega)).2 k)
  rw [if_neg this, decide_eq_false this]
 ·have : ¬ at0 s = 46 := by have := hz (by omega); omega
  rw [if_neg this, decide_eq_false this]
def heads_hasminus : List Hd := []
def entry_hasminus : Tree :=
 (.ite (.ge (.pr .slen [.v0]) (.i 1))
 (.giv (.le (.i 1) (.pr .slen [.v0]))
 (.rt (.pr (.scmp .eql) [(.pr .ssub [.v0, (.i 0), (.i 1)]), (.lit (.string (mkS [45])))]))) .no)
def trees_hasminus : List Tree := []
noncomputable def deps_hasminus : List Sig := []
theorem ok_hasminus : check q_hasminus deps_hasminus heads_hasminus entry_hasminus trees_hasminus = true := by kernel_rfl
theorem hasminus_ok (n : Nat) (pre : List D -> Prop) : @Ok (I n) q_hasminus pre := by
 letI := I n
 refine fn_ok (n := n) (hphi n) ok_hasminus (by intro q hq; simp [deps_hasminus] at hq) (fun _ _ _ => False) (fun _ _ => 0) ?_ (fun j h t d ds hj => by simp [heads_hasminus] at hj)
 intro ds hf hp
 obtain ⟨s, rfl⟩ := one_text hf
 have h1n : (1 : Int).toNat = 1 := rfl
 have hb := @pre_byte s 45
 have hz := @at0_none s
 have h45 : (45 : UInt8).toNat = 45 := rfl
 rw [h45] at hb
 simp only [entry_hasminus, q_hasminus, Tree.holds, Out.den, E.den, E.denL, dn, List.getD_cons_zero, List.getD_cons_succ, List.length_map, phi_1000, phi_hasminus, Int.toNat_natCast, Int.toNat_zero, h1n, tail_def]
 refine ⟨fun h => ⟨by omega, ?_⟩, fun h => ?_⟩
 ·rw [show eqS (s.extract 0 1) (mkS [45]) = decide (at0 s = 45) from by rw [Bool.eq_iff_iff, eqS_t, decide_eq_true_iff]; exact hb (by omega)]
 ·rw [decide_eq_false (by have := hz (by omega); omega)]
def heads_hasplus : List Hd := []
def entry_hasplus : Tree :=
 (.ite (.ge (.pr .slen [.v0]) (.i 1))
 (.giv (.le (.i 1) (.pr .slen [.v0]))
 (.rt (.pr (.scmp .eql) [(.pr .ssub [.v0, (.i 0), (.i 1)]), (.lit (.string (mkS [43])))]))) .no)
def trees_hasplus : List Tree := []
noncomputable def deps_hasplus : List Sig := []
theorem ok_hasplus : check q_hasplus deps_hasplus heads_hasplus entry_hasplus trees_hasplus = true := by kernel_rfl
theorem hasplus_ok (n : Nat) (pre : List D -> Prop) : @Ok (I n) q_hasplus pre := by
 letI := I n
 refine fn_ok (n := n) (hphi n) ok_hasplus (by intro q hq; simp [deps_hasplus] at hq) (fun _ _ _ => False) (fun _ _ => 0) ?_ (fun j h t d ds hj => by simp [heads_hasplus] at hj)
 intro ds hf hp
 obtain ⟨s, rfl⟩ := one_text hf
 have h1n : (1 : Int).toNat = 1 := rfl
 have hb := @pre_byte s 43
 have hz := @at0_none s
 have h45 : (43 : UInt8).toNat = 43 := rfl
 rw [h45] at hb
 simp only [entry_hasplus, q_hasplus, Tree.holds, Out.den, E.den, E.denL, dn, List.getD_cons_zero, List.getD_cons_succ, List.length_map, phi_1000, phi_hasplus, Int.toNat_natCast, Int.toNat_zero, h1n, tail_def]
 refine ⟨fun h => ⟨by omega, ?_⟩, fun h => ?_⟩
 ·rw [show eqS (s.extract 0 1) (mkS [43]) = decide (at0 s = 43) from by rw [Bool.eq_iff_iff, eqS_t, decide_eq_true_iff]; exact hb (by omega)]
 ·rw [decide_eq_false (by have := hz (by omega); omega)]
theorem dec_from : ∀ (l : List UInt8) (acc : Nat), Dig l -> Lib.decFrom acc l = some (dvA acc l)
 | [], acc, _ => rfl
 | x :: r, acc, h => by
  have hx := h x (List.mem_cons_self ..)
  show (match Lib.digitVal x with | some d => Lib.decFrom (acc * 10 + d) r | none => none) = _
  unfold Lib.digitVal
  rw [if_pos hx]
  exact dec_from r _ fun y hy => h y (List.mem_cons_of_mem _ hy)
theorem atoi_dig {u : ByteArray} (h : digV u = true) : Lib.atoi u.data.toList = some (dv u.data.toList : Int) := by
 obtain ⟨hd, hne⟩ := (digV_iff u).1 h
 have hd' := dec_from u.data.toList 0 hd
 cases hl : u.data.toList with
 | nil => exact absurd (emp_list.2 hl) hne
 | cons x r =>
  have hx := hd x (by rw [hl]; exact List.mem_cons_self ..)
  have h45 : (x == 45) = false := by
   rw [beq_eq_false_iff_ne]
   intro e; rw [e] at hx; exact absurd hx (by decide)
  have h43 : (x == 43) = false := by
   rw [beq_eq_false_iff_ne]
   intro e; rw [e] at hx; exact absurd hx (by decide)
  show (if x == 45 then _ else if x == 43 then _ else _) = _
  rw [h45, h43, if_neg (by decide), if_neg (by decide)]
  unfold Lib.decNat
  rw [if_neg (by simp), <- hl, hd']
  rfl
theorem okM_plain [Interp] {q : SigM} {pre : List D -> Prop} (hb : q.back = []) (hbe : q.backE = []) (hob : ∀ vs ds bs sh (C : Nat -> Nat -> Option Value) (I : Nat -> Nat -> Prop) (H : Nat -> Option Obj), ArgsM sh C I H q.args vs ds bs -> bs = [])
  (h : ∀ (W : World) (vs : Array Value) (ds : List D), TabsMet tabs W -> ArgsM (kn [] tb).shape (fun b off => W.cell? ⟨b, off, none⟩) (fun _ _ => True) (fun b => W.heap[b]?) q.args vs.toList ds [] -> pre ds ->
   Calls Tryd.prog q.f vs W fun e W' => ∃ v rs ds', e = .returned v /\ Below W.heap.size W W' /\ Interp.phi q.g ds = .row ds' /\ resV q.res v rs /\ rs.length = q.res.length /\
    ∀ (C : Nat -> Nat -> Option Value) (I : Nat -> Nat -> Prop) (H : Nat -> Option Obj), ArgsM (kn [] tb).shape C I H q.res rs ds' [] /\ ∀ b off, ImmD (kn [] tb).shape q.res ds' [] b off) : OkM q pre := by
 intro W J vs ds bs hL hI ha hn hd hp
 obtain rfl := hob _ _ _ _ _ _ _ ha
 refine (callsIn_wide.2 (h W vs ds hL (ha.mono fun b off v hc _ => ⟨hc, trivial⟩) hp)).mono ?_
 rintro e W' ⟨v, rs, ds', rfl, hb', h1, h2, h3, h4⟩
 have ho : q.outs = q.res := by unfold SigM.outs; rw [hbe, List.append_nil]
 have hc : q.cur = [] := by unfold SigM.cur; rw [hb]; rfl
 refine ⟨hb'.mono (Nat.zero_le _), fun b hb1 _ => hb'.block b hb1, fun b off v hv _ => ?_, .inl ⟨rs, v, [], ds', [], h1, rfl, h2, h3, ?_, List.nodup_nil, fun b off _ _ _ => ?_, fun b hb1 => (by cases hb1), ?_⟩⟩
 ·rw [hb'.cell (p := ⟨b, off, none⟩) (cell?_lt hv)]; exact hv
 ·rw [ho, List.append_nil]; exact (h4 _ _ _).1
 ·rw [ho]; exact (h4 (fun _ _ => none) (fun _ _ => True) (fun _ => none)).2 b off
 ·rw [hc]; simp
theorem atoi_ok (n : Nat) : @OkM (I n) q_atoi (@okS (I n) n q_atoi.g) := by
 letI := I n
 refine okM_plain rfl rfl (fun vs ds bs sh C J H ha => ?_) fun W vs ds hL ha hp => ?_
 ·match vs, ds, bs, ha with
  | [v], [d], [], _ => rfl
  | [], _, _, ha => unfold q_atoi ArgsM at ha; exact ha.elim
  | [v], [], _, ha => unfold q_atoi ArgsM at ha; exact ha.elim
  | [v], [d], b :: bs, ha => unfold q_atoi ArgsM at ha; exact ha.2.elim
  | v :: _ :: _, [], _, ha => unfold q_atoi ArgsM at ha; exact ha.elim
  | v :: _ :: _, d :: _, _, ha => unfold q_atoi ArgsM at ha; exact ha.2.elim
  | [v], d :: _ :: _, _, ha => unfold q_atoi ArgsM at ha; exact ha.2.elim
 obtain ⟨vs⟩ := vs
 obtain ⟨v, d, rfl, rfl, hr⟩ : ∃ v d, vs = [v] /\ ds = [d] /\ ArgR (kn [] tb).shape (fun b off => W.cell? ⟨b, off, none⟩) (fun _ _ => True) (.cell (.sc .s)) v d := by
  match vs, ds, ha with
  | [v], [d], ha => unfold q_atoi ArgsM at ha; exact ⟨v, d, rfl, rfl, ha.1⟩
  | [], _, ha => unfold q_atoi ArgsM at ha; exact ha.elim
  | [v], [], ha => unfold q_atoi ArgsM at ha; exact ha.elim
  | v :: _ :: _, [], ha => unfold q_atoi ArgsM at ha; exact ha.elim
  | v :: _ :: _, d :: _, ha => unfold q_atoi ArgsM at ha; exact ha.2.elim
  | [v], d :: _ :: _, ha => unfold q_atoi ArgsM at ha; exact ha.2.elim
 obtain ⟨s, rfl, rfl⟩ := arg_str hr
 obtain ⟨p1, p2⟩ := (pre_atoi n s).1 (hp.2 rfl)
 refine (Tryd.strconv_Atoi s _ p1 (atoi_dig p2) W).mono ?_
 rintro e W' ⟨rfl, t, rfl⟩
 refine ⟨_, [.int .i64 (dv s.data.toList), .nilIface], [iD (dv s.data.toList)], rfl, Lib.bytesWorld_below W _ t, rfl, rfl, rfl, fun C J H => ⟨?_, fun b off => ?_⟩⟩
 ·unfold q_atoi ArgsM
  refine ⟨⟨?_, ?_⟩, ?_⟩
  ·unfold DV; exact ⟨rfl, tyV_ok (t := .i .i64) rfl⟩
  ·unfold fits; rfl
  ·unfold ArgsM
   exact ⟨⟨rfl, rfl⟩, by unfold ArgsM; trivial⟩
 ·unfold q_atoi ImmD ImmD ImmD
  trivial
end Go.Proofs.YtflhikakndanjaaDoor.Vk
/- Contracts: the reference's Parse. -/
namespace Go.Proofs.YtflhikakndanjaaDoor.Vk
open Go Go.Ab Go.RowKit
theorem expV_size (s : ByteArray) : (-1000000 : Int) <= (expV s).1 /\ (expV s).1 <= 1000000 := by
 have := minM_le (dv (expU s).data.toList)
 unfold expV
 split
 ·exact ⟨by decide, by decide⟩
 split
 ·exact ⟨by decide, by decide⟩
 split
 ·exact ⟨by decide, by decide⟩
 rw [dvM_min]
 split <;> exact ⟨by show _ <= _; simp only; omega, by show _ <= _; simp only; omega⟩
theorem cat_emp (a : ByteArray) : a ++ ByteArray.empty = a := cat_nil a
structure PC (s : ByteArray) (ng : Bool) (t : ByteArray) : Prop where
 ht : (if at0 s = 45 then tailV s else s) = t
 hn : decide (at0 s = 45) = ng
def HPQ (r p q : ByteArray) : Prop := (at0 r = 46 /\ p = frontV (tailV r) /\ q = restV (tailV r) /\ ¬ p = ByteArray.empty) \/ (¬ at0 r = 46 /\ p = ByteArray.empty /\ q = r)
theorem PC.w0 {s t : ByteArray} {ng : Bool} (h : PC s ng t) (h1 : frontV t = ByteArray.empty) : parseV s = (noNumT, 10) := by
 unfold parseV
 simp only [h.ht]
 rw [if_pos h1]
theorem PC.w1 {s t : ByteArray} {ng : Bool} (h : PC s ng t) (h1 : ¬ frontV t = ByteArray.empty) (h2 : 1 < (frontV t).size /\ at0 (frontV t) = 48) : parseV s = (noNumT, 10) := by
 unfold parseV
 simp only [h.ht]
 rw [if_neg h1, if_pos h2]
theorem PC.p0 {s t : ByteArray} {ng : Bool} (h : PC s ng t) (h1 : ¬ frontV t = ByteArray.empty) (h2 : ¬ (1 < (frontV t).size /\ at0 (frontV t) = 48)) (h3 : at0 (restV t) = 46) (h4 : frontV (tailV (restV t)) = ByteArray.empty) : parseV s = (noNumT, 10) := by
 unfold parseV
 simp only [h.ht]
 rw [if_neg h1, if_neg h2, if_pos ⟨h3, by rw [if_pos h3]; exact h4⟩]
theorem PC.px {s t p q : ByteArray} {ng : Bool} (h : PC s ng t) (h1 : ¬ frontV t = ByteArray.empty) (h2 : ¬ (1 < (frontV t).size /\ at0 (frontV t) = 48)) (h3 : HPQ (restV t) p q) :
  parseV s = if (expV q).2 = false then (noNumT, 10) else if 512 < (s.size : Int) then (noNumT, 2) else madeV ng (frontV t ++ p) (wrap ((expV q).1 - p.size)) := by
 unfold parseV
 simp only [h.ht, h.hn]
 rw [if_neg h1, if_neg h2]
 rcases h3 with ⟨a, rfl, rfl, b⟩ | ⟨a, rfl, rfl⟩
 ·rw [if_pos a, if_pos a, if_neg (fun k => b k.2)]
 ·rw [if_neg a, if_neg a, if_neg (fun k => a k.1)]
theorem hpq_dot {r : ByteArray} (h : at0 r = 46) (h1 : ¬ frontV (tailV r) = ByteArray.empty) : HPQ r (frontV (tailV r)) (restV (tailV r)) := .inl ⟨h, rfl, rfl, h1⟩
theorem hpq_no {r : ByteArray} (h : ¬ at0 r = 46) : HPQ r ByteArray.empty r := .inr ⟨h, rfl, rfl⟩
theorem pc_size {s t : ByteArray} {ng : Bool} (h : PC s ng t) : t.size <= s.size := by
 rw [<- h.ht]
 split
 ·rw [tail_size]; omega
 ·exact Nat.le_refl _
theorem hpq_size {t p q : ByteArray} (h : HPQ (restV t) p q) : q.size <= t.size /\ (frontV t).size + p.size <= t.size := by
 have f1 := front_size t
 have f2 := front_size (tailV (restV t))
 have f3 := tail_size (restV t)
 rcases h with ⟨_, rfl, rfl, _⟩ | ⟨_, rfl, rfl⟩
 ·omega
 ·have : (ByteArray.empty).size = 0 := rfl
  omega
end Go.Proofs.YtflhikakndanjaaDoor.Vk
/- A function's tree, checked part by part. -/
namespace Go.Proofs.YtflhikakndanjaaDoor.Vk
open Go Go.Ab Go.RowKit
theorem tok_giv {run : List E -> Option Out} {fx : List E} {c : E} {t : Tree} (h : Tree.ok run (c :: fx) t = true) : Tree.ok run fx (.giv c t) = true := h
theorem tok_ite {run : List E -> Option Out} {fx : List E} {c : E} {t f : Tree} (h : Tree.ok run (c :: fx) t = true) (h' : Tree.ok run (.pr .not [c] :: fx) f = true) : Tree.ok run fx (.ite c t f) = true := by
 unfold Tree.ok
 rw [h, h']; rfl
theorem checkN_split {q : Sig} {deps : List Sig} {depsM : List SigM} {heads : List Hd} {entry : Tree} {trees : List Tree} {fn : Func} {c : Code} (hf : Tryd.prog.funcs[q.f]? = some fn) (hb : fn.body = some c)
  (h0 : (Nat.beq heads.length trees.length && Nat.ble (q.args.length + fn.ntmps) Tr.lid && (heads.all fun h => Nat.ble h.ents.length Tr.lid)) = true)
  (he : entry.ok (runEntry Tryd.prog (tabsG tabs) muF (runN deps depsM) tb q fn c heads 400) [] = true) (ht : checkHeadsN (runHead Tryd.prog (tabsG tabs) muF (runN deps depsM) tb q fn c heads 400) trees 0 = true) : checkN q deps depsM heads entry trees = true := by
 unfold checkN
 rw [hf]
 simp only
 rw [hb]
 simp only
 rw [h0, he, ht]; rfl
end Go.Proofs.YtflhikakndanjaaDoor.Vk
/- Contracts: num.Parse, its ways. -/
namespace Go.Proofs.YtflhikakndanjaaDoor.Vk
open Go Go.Ab Go.RowKit
def heads_nparse : List Hd := []
def eZ7 : E := (.lit (.string (mkS [45])))
def eZ8 : E := (.app 89 [(.c 0 (.app 83 [.v0, eZ7]))])
def eZ9 : E := (.lit (.string .empty))
def eZ10 : E := (.lit (.string (mkS [48])))
def eZ11 : E := (.app 84 [(.c 1 eZ8), (.lit (.string (mkS [46])))])
def eZ12 : E := (.c 0 (.app 89 [(.c 0 eZ11)]))
def eZ13 : E := (.c 1 (.app 89 [(.c 0 eZ11)]))
def eZ14 : E := (.pr .slen [(.c 1 eZ8)])
def eZ15 : E := (.pr .row [(.lit (.bool false)), eZ9, (.i 0)])
def eZ16 : E := (.pr .row [eZ15, (.i 10)])
def eZ17 : E := (.ne (.pr .sat [eZ13, (.i 0)]) (.lit (.int .u8 69)))
def eZ18 : E := (.le (.i 1) (.pr .slen [eZ13]))
def eZ19 : E := (.pr .ssub [eZ13, (.i 1), (.pr .slen [eZ13])])
def eZ20 : E := (.app 1000 [eZ19, eZ7])
def eZ21 : E := (.app 85 [eZ19, eZ7])
def eZ22 : E := (.le (.i 1) (.pr .slen [eZ19]))
def eZ23 : E := (.pr .ssub [eZ19, (.i 1), (.pr .slen [eZ19])])
def eZ24 : E := (.app 1000 [eZ23])
def eZ25 : E := (.app 87 [eZ23])
def eZ26 : E := (.app 1000 [eZ23, eZ10])
def eZ27 : E := (.gt (.pr .slen [(.app 78 [eZ23, eZ10])]) (.i 6))
def eZ28 : E := (.gt (.pr .slen [.v0]) (.i 512))
def eZ29 : E := (.pr .row [eZ15, (.i 2)])
def eZ30 : E := (.le (.pr .slen [(.c 0 eZ8)]) (.i 1099511627776))
def eZ31 : E := (.pr .slen [eZ12])
def eZ32 : E := (.le eZ31 (.i 1099511627776))
def eZ33 : E := (.c 1 (.app 83 [.v0, eZ7]))
def eZ34 : E := (.pr .scat [(.c 0 eZ8), eZ12])
def eZ35 : E := (.pr (.iop .sub .i64) [(.i (-1000000)), eZ31])
def eZ36 : E := (.app 1000 [eZ33, eZ34, eZ35])
def eZ37 : E := (.pr .row [(.r3 (.c 0 (.app 88 [eZ33, eZ34, eZ35]))), (.c 1 (.app 88 [eZ33, eZ34, eZ35]))])
def eZ38 : E := (.le (.pr .slen [(.app 78 [eZ23, eZ10])]) (.i 1099511627776))
def eZ39 : E := (.pr .scat [eZ10, (.app 78 [eZ23, eZ10])])
def eZ40 : E := (.app 1000 [eZ39])
def eZ41 : E := (.app 2080 [eZ39])
def eZ42 : E := (.pr (.iop .sub .i64) [(.pr (.neg .i64) [(.c 0 (.app 80 [eZ39]))]), eZ31])
def eZ43 : E := (.app 1000 [eZ33, eZ34, eZ42])
def eZ44 : E := (.pr .row [(.r3 (.c 0 (.app 88 [eZ33, eZ34, eZ42]))), (.c 1 (.app 88 [eZ33, eZ34, eZ42]))])
def eZ45 : E := (.lit (.string (mkS [43])))
def eZ46 : E := (.app 1000 [eZ19, eZ45])
def eZ47 : E := (.app 86 [eZ19, eZ45])
def eZ48 : E := (.pr (.iop .sub .i64) [(.i 1000000), eZ31])
def eZ49 : E := (.app 1000 [eZ33, eZ34, eZ48])
def eZ50 : E := (.pr .row [(.r3 (.c 0 (.app 88 [eZ33, eZ34, eZ48]))), (.c 1 (.app 88 [eZ33, eZ34, eZ48]))])
def eZ51 : E := (.pr (.iop .sub .i64) [(.c 0 (.app 80 [eZ39])), eZ31])
def eZ52 : E := (.app 1000 [eZ33, eZ34, eZ51])
def eZ53 : E := (.pr .row [(.r3 (.c 0 (.app 88 [eZ33, eZ34, eZ51]))), (.c 1 (.app 88 [eZ33, eZ34, eZ51]))])
def eZ54 : E := (.app 1000 [eZ19])
def eZ55 : E := (.app 1000 [eZ19, eZ10])
def eZ56 : E := (.gt (.pr .slen [(.app 78 [eZ19, eZ10])]) (.i 6))
def eZ57 : E := (.le (.pr .slen [(.app 78 [eZ19, eZ10])]) (.i 1099511627776))
def eZ58 : E := (.pr .scat [eZ10, (.app 78 [eZ19, eZ10])])
def eZ59 : E := (.app 1000 [eZ58])
def eZ60 : E := (.app 2080 [eZ58])
def eZ61 : E := (.pr (.iop .sub .i64) [(.c 0 (.app 80 [eZ58])), eZ31])
def eZ62 : E := (.app 1000 [eZ33, eZ34, eZ61])
def eZ63 : E := (.pr .row [(.r3 (.c 0 (.app 88 [eZ33, eZ34, eZ61]))), (.c 1 (.app 88 [eZ33, eZ34, eZ61]))])
def eZ64 : E := (.app 1000 [eZ33, eZ34, (.pr (.iop .sub .i64) [(.i 0), eZ31])])
def eZ65 : E := (.app 88 [eZ33, eZ34, (.pr (.iop .sub .i64) [(.i 0), eZ31])])
def eZ66 : E := (.pr .row [(.r3 (.c 0 eZ65)), (.c 1 eZ65)])
def eZ67 : E := (.ne (.pr .sat [(.c 1 eZ8), (.i 0)]) (.lit (.int .u8 69)))
def eZ68 : E := (.le (.i 1) eZ14)
def eZ69 : E := (.pr .ssub [(.c 1 eZ8), (.i 1), eZ14])
def eZ70 : E := (.app 1000 [eZ69, eZ7])
def eZ71 : E := (.app 85 [eZ69, eZ7])
def eZ72 : E := (.le (.i 1) (.pr .slen [eZ69]))
def eZ73 : E := (.pr .ssub [eZ69, (.i 1), (.pr .slen [eZ69])])
def eZ74 : E := (.app 1000 [eZ73])
def eZ75 : E := (.app 87 [eZ73])
def eZ76 : E := (.app 1000 [eZ73, eZ10])
def eZ77 : E := (.gt (.pr .slen [(.app 78 [eZ73, eZ10])]) (.i 6))
def eZ78 : E := (.pr .scat [(.c 0 eZ8), eZ9])
def eZ79 : E := (.app 1000 [eZ33, eZ78, (.i (-1000000))])
def eZ80 : E := (.app 88 [eZ33, eZ78, (.i (-1000000))])
def eZ81 : E := (.pr .row [(.r3 (.c 0 eZ80)), (.c 1 eZ80)])
def eZ82 : E := (.le (.pr .slen [(.app 78 [eZ73, eZ10])]) (.i 1099511627776))
def eZ83 : E := (.pr .scat [eZ10, (.app 78 [eZ73, eZ10])])
def eZ84 : E := (.app 1000 [eZ83])
def eZ85 : E := (.app 2080 [eZ83])
def eZ86 : E := (.pr (.iop .sub .i64) [(.pr (.neg .i64) [(.c 0 (.app 80 [eZ83]))]), (.i 0)])
def eZ87 : E := (.app 1000 [eZ33, eZ78, eZ86])
def eZ88 : E := (.pr .row [(.r3 (.c 0 (.app 88 [eZ33, eZ78, eZ86]))), (.c 1 (.app 88 [eZ33, eZ78, eZ86]))])
def eZ89 : E := (.app 1000 [eZ69, eZ45])
def eZ90 : E := (.app 86 [eZ69, eZ45])
def eZ91 : E := (.app 1000 [eZ33, eZ78, (.i 1000000)])
def eZ92 : E := (.pr .row [(.r3 (.c 0 (.app 88 [eZ33, eZ78, (.i 1000000)]))), (.c 1 (.app 88 [eZ33, eZ78, (.i 1000000)]))])
def eZ93 : E := (.pr (.iop .sub .i64) [(.c 0 (.app 80 [eZ83])), (.i 0)])
def eZ94 : E := (.app 1000 [eZ33, eZ78, eZ93])
def eZ95 : E := (.pr .row [(.r3 (.c 0 (.app 88 [eZ33, eZ78, eZ93]))), (.c 1 (.app 88 [eZ33, eZ78, eZ93]))])
def eZ96 : E := (.app 1000 [eZ69])
def eZ97 : E := (.app 1000 [eZ69, eZ10])
def eZ98 : E := (.gt (.pr .slen [(.app 78 [eZ69, eZ10])]) (.i 6))
def eZ99 : E := (.le (.pr .slen [(.app 78 [eZ69, eZ10])]) (.i 1099511627776))
def eZ100 : E := (.pr .scat [eZ10, (.app 78 [eZ69, eZ10])])
def eZ101 : E := (.app 1000 [eZ100])
def eZ102 : E := (.app 2080 [eZ100])
def eZ103 : E := (.pr (.iop .sub .i64) [(.c 0 (.app 80 [eZ100])), (.i 0)])
def eZ104 : E := (.app 1000 [eZ33, eZ78, eZ103])
def eZ105 : E := (.pr .row [(.r3 (.c 0 (.app 88 [eZ33, eZ78, eZ103]))), (.c 1 (.app 88 [eZ33, eZ78, eZ103]))])
def eZ106 : E := (.pr .row [(.r3 (.c 0 (.app 88 [eZ33, eZ78, (.i 0)]))), (.c 1 (.app 88 [eZ33, eZ78, (.i 0)]))])
def c0_nparse : E :=(.app 1000 [.v0, eZ7])
def c1_nparse : E :=(.app 1000 [(.c 0 (.app 83 [.v0, eZ7]))])
def c2_nparse : E :=(.pr (.scmp .eql) [(.c 0 eZ8), eZ9])
def c3_nparse : E :=(.lt (.i 0) (.pr .slen [(.c 0 eZ8)]))
def c4_nparse : E :=(.eq (.pr .sat [(.c 0 eZ8), (.i 0)]) (.lit (.int .u8 48)))
def c5_nparse : E :=(.pr (.scmp .neq) [(.c 0 eZ8), eZ10])
def c6_nparse : E :=(.app 1000 [(.c 1 eZ8), (.lit (.string (mkS [46])))])
def c7_nparse : E :=(.c 1 eZ11)
def c8_nparse : E :=(.app 1000 [(.c 0 eZ11)])
def c9_nparse : E :=(.pr (.scmp .eql) [eZ12, eZ9])
def c10_nparse : E :=(.pr (.scmp .neq) [eZ13, eZ9])
def c11_nparse : E :=(.lt (.i 0) (.pr .slen [eZ13]))
def c12_nparse : E :=(.ne (.pr .sat [eZ13, (.i 0)]) (.lit (.int .u8 101)))
def c13_nparse : E :=(.pr (.scmp .neq) [(.c 1 eZ8), eZ9])
def c14_nparse : E :=(.lt (.i 0) eZ14)
def c15_nparse : E :=(.ne (.pr .sat [(.c 1 eZ8), (.i 0)]) (.lit (.int .u8 101)))
def t0_nparse : Tree :=
 (.rt eZ16)
def t1_nparse : Tree :=
 (.rt eZ16)
def t2_nparse : Tree :=
 (.rt eZ16)
def t3_nparse : Tree :=
 (.ite eZ17
 (.rt eZ16)
 (.giv eZ18
 (.giv eZ20
 (.ite eZ21
 (.giv eZ22
 (.giv eZ24
 (.ite eZ25
 (.giv eZ26
 (.ite eZ27
 (.ite eZ28
 (.rt eZ29)
 (.giv eZ30
 (.giv eZ32
 (.giv eZ36
 (.rt eZ37)))))
 (.giv eZ38
 (.giv eZ40
 (.giv eZ41
 (.ite eZ28
 (.rt eZ29)
 (.giv eZ30
 (.giv eZ32
 (.giv eZ43
 (.rt eZ44))))))))))
 (.rt eZ16))))
 (.giv eZ46
 (.ite eZ47
 (.giv eZ22
 (.giv eZ24
 (.ite eZ25
 (.giv eZ26
 (.ite eZ27
 (.ite eZ28
 (.rt eZ29)
 (.giv eZ30
 (.giv eZ32
 (.giv eZ49
 (.rt eZ50)))))
 (.giv eZ38
 (.giv eZ40
 (.giv eZ41
 (.ite eZ28
 (.rt eZ29)
 (.giv eZ30
 (.giv eZ32
 (.giv eZ52
 (.rt eZ53))))))))))
 (.rt eZ16))))
 (.giv eZ54
 (.ite (.app 87 [eZ19])
 (.giv eZ55
 (.ite eZ56
 (.ite eZ28
 (.rt eZ29)
 (.giv eZ30
 (.giv eZ32
 (.giv eZ49
 (.rt eZ50)))))
 (.giv eZ57
 (.giv eZ59
 (.giv eZ60
 (.ite eZ28
 (.rt eZ29)
 (.giv eZ30
 (.giv eZ32
 (.giv eZ62
 (.rt eZ63))))))))))
 (.rt eZ16)))))))))
def t4_nparse : Tree :=
 (.giv eZ18
 (.giv eZ20
 (.ite eZ21
 (.giv eZ22
 (.giv eZ24
 (.ite eZ25
 (.giv eZ26
 (.ite eZ27
 (.ite eZ28
 (.rt eZ29)
 (.giv eZ30
 (.giv eZ32
 (.giv eZ36
 (.rt eZ37)))))
 (.giv eZ38
 (.giv eZ40
 (.giv eZ41
 (.ite eZ28
 (.rt eZ29)
 (.giv eZ30
 (.giv eZ32
 (.giv eZ43
 (.rt eZ44))))))))))
 (.rt eZ16))))
 (.giv eZ46
 (.ite eZ47
 (.giv eZ22
 (.giv eZ24
 (.ite eZ25
 (.giv eZ26
 (.ite eZ27
 (.ite eZ28
 (.rt eZ29)
 (.giv eZ30
 (.giv eZ32
 (.giv eZ49
 (.rt eZ50)))))
 (.giv eZ38
 (.giv eZ40
 (.giv eZ41
 (.ite eZ28
 (.rt eZ29)
 (.giv eZ30
 (.giv eZ32
 (.giv eZ52
 (.rt eZ53))))))))))
 (.rt eZ16))))
 (.giv eZ54
 (.ite (.app 87 [eZ19])
 (.giv eZ55
 (.ite eZ56
 (.ite eZ28
 (.rt eZ29)
 (.giv eZ30
 (.giv eZ32
 (.giv eZ49
 (.rt eZ50)))))
 (.giv eZ57
 (.giv eZ59
 (.giv eZ60
 (.ite eZ28
 (.rt eZ29)
 (.giv eZ30
 (.giv eZ32
 (.giv eZ62
 (.rt eZ63))))))))))
 (.rt eZ16))))))))
def t5_nparse : Tree :=
 (.ite eZ28
 (.rt eZ29)
 (.giv eZ30
 (.giv eZ32
 (.giv eZ64
 (.rt eZ66)))))
def t6_nparse : Tree :=
 (.ite eZ67
 (.rt eZ16)
 (.giv eZ68
 (.giv eZ70
 (.ite eZ71
 (.giv eZ72
 (.giv eZ74
 (.ite eZ75
 (.giv eZ76
 (.ite eZ77
 (.ite eZ28
 (.rt eZ29)
 (.giv eZ30
 (.giv eZ79
 (.rt eZ81))))
 (.giv eZ82
 (.giv eZ84
 (.giv eZ85
 (.ite eZ28
 (.rt eZ29)
 (.giv eZ30
 (.giv eZ87
 (.rt eZ88)))))))))
 (.rt eZ16))))
 (.giv eZ89
 (.ite eZ90
 (.giv eZ72
 (.giv eZ74
 (.ite eZ75
 (.giv eZ76
 (.ite eZ77
 (.ite eZ28
 (.rt eZ29)
 (.giv eZ30
 (.giv eZ91
 (.rt eZ92))))
 (.giv eZ82
 (.giv eZ84
 (.giv eZ85
 (.ite eZ28
 (.rt eZ29)
 (.giv eZ30
 (.giv eZ94
 (.rt eZ95)))))))))
 (.rt eZ16))))
 (.giv eZ96
 (.ite (.app 87 [eZ69])
 (.giv eZ97
 (.ite eZ98
 (.ite eZ28
 (.rt eZ29)
 (.giv eZ30
 (.giv eZ91
 (.rt eZ92))))
 (.giv eZ99
 (.giv eZ101
 (.giv eZ102
 (.ite eZ28
 (.rt eZ29)
 (.giv eZ30
 (.giv eZ104
 (.rt eZ105)))))))))
 (.rt eZ16)))))))))
def t7_nparse : Tree :=
 (.giv eZ68
 (.giv eZ70
 (.ite eZ71
 (.giv eZ72
 (.giv eZ74
 (.ite eZ75
 (.giv eZ76
 (.ite eZ77
 (.ite eZ28
 (.rt eZ29)
 (.giv eZ30
 (.giv eZ79
 (.rt eZ81))))
 (.giv eZ82
 (.giv eZ84
 (.giv eZ85
 (.ite eZ28
 (.rt eZ29)
 (.giv eZ30
 (.giv eZ87
 (.rt eZ88)))))))))
 (.rt eZ16))))
 (.giv eZ89
 (.ite eZ90
 (.giv eZ72
 (.giv eZ74
 (.ite eZ75
 (.giv eZ76
 (.ite eZ77
 (.ite eZ28
 (.rt eZ29)
 (.giv eZ30
 (.giv eZ91
 (.rt eZ92))))
 (.giv eZ82
 (.giv eZ84
 (.giv eZ85
 (.ite eZ28
 (.rt eZ29)
 (.giv eZ30
 (.giv eZ94
 (.rt eZ95)))))))))
 (.rt eZ16))))
 (.giv eZ96
 (.ite (.app 87 [eZ69])
 (.giv eZ97
 (.ite eZ98
 (.ite eZ28
 (.rt eZ29)
 (.giv eZ30
 (.giv eZ91
 (.rt eZ92))))
 (.giv eZ99
 (.giv eZ101
 (.giv eZ102
 (.ite eZ28
 (.rt eZ29)
 (.giv eZ30
 (.giv eZ104
 (.rt eZ105)))))))))
 (.rt eZ16))))))))
def t8_nparse : Tree :=
 (.ite eZ28
 (.rt eZ29)
 (.giv eZ30
 (.giv (.app 1000 [eZ33, eZ78, (.i 0)])
 (.rt eZ106))))
def t9_nparse : Tree :=
 (.rt eZ16)
def t10_nparse : Tree :=
 (.ite eZ17
 (.rt eZ16)
 (.giv eZ18
 (.giv eZ20
 (.ite eZ21
 (.giv eZ22
 (.giv eZ24
 (.ite eZ25
 (.giv eZ26
 (.ite eZ27
 (.ite eZ28
 (.rt eZ29)
 (.giv eZ30
 (.giv eZ32
 (.giv eZ36
 (.rt eZ37)))))
 (.giv eZ38
 (.giv eZ40
 (.giv eZ41
 (.ite eZ28
 (.rt eZ29)
 (.giv eZ30
 (.giv eZ32
 (.giv eZ43
 (.rt eZ44))))))))))
 (.rt eZ16))))
 (.giv eZ46
 (.ite eZ47
 (.giv eZ22
 (.giv eZ24
 (.ite eZ25
 (.giv eZ26
 (.ite eZ27
 (.ite eZ28
 (.rt eZ29)
 (.giv eZ30
 (.giv eZ32
 (.giv eZ49
 (.rt eZ50)))))
 (.giv eZ38
 (.giv eZ40
 (.giv eZ41
 (.ite eZ28
 (.rt eZ29)
 (.giv eZ30
 (.giv eZ32
 (.giv eZ52
 (.rt eZ53))))))))))
 (.rt eZ16))))
 (.giv eZ54
 (.ite (.app 87 [eZ19])
 (.giv eZ55
 (.ite eZ56
 (.ite eZ28
 (.rt eZ29)
 (.giv eZ30
 (.giv eZ32
 (.giv eZ49
 (.rt eZ50)))))
 (.giv eZ57
 (.giv eZ59
 (.giv eZ60
 (.ite eZ28
 (.rt eZ29)
 (.giv eZ30
 (.giv eZ32
 (.giv eZ62
 (.rt eZ63))))))))))
 (.rt eZ16)))))))))
def t11_nparse : Tree :=
 (.giv eZ18
 (.giv eZ20
 (.ite eZ21
 (.giv eZ22
 (.giv eZ24
 (.ite eZ25
 (.giv eZ26
 (.ite eZ27
 (.ite eZ28
 (.rt eZ29)
 (.giv eZ30
 (.giv eZ32
 (.giv eZ36
 (.rt eZ37)))))
 (.giv eZ38
 (.giv eZ40
 (.giv eZ41
 (.ite eZ28
 (.rt eZ29)
 (.giv eZ30
 (.giv eZ32
 (.giv eZ43
 (.rt eZ44))))))))))
 (.rt eZ16))))
 (.giv eZ46
 (.ite eZ47
 (.giv eZ22
 (.giv eZ24
 (.ite eZ25
 (.giv eZ26
 (.ite eZ27
 (.ite eZ28
 (.rt eZ29)
 (.giv eZ30
 (.giv eZ32
 (.giv eZ49
 (.rt eZ50)))))
 (.giv eZ38
 (.giv eZ40
 (.giv eZ41
 (.ite eZ28
 (.rt eZ29)
 (.giv eZ30
 (.giv eZ32
 (.giv eZ52
 (.rt eZ53))))))))))
 (.rt eZ16))))
 (.giv eZ54
 (.ite (.app 87 [eZ19])
 (.giv eZ55
 (.ite eZ56
 (.ite eZ28
 (.rt eZ29)
 (.giv eZ30
 (.giv eZ32
 (.giv eZ49
 (.rt eZ50)))))
 (.giv eZ57
 (.giv eZ59
 (.giv eZ60
 (.ite eZ28
 (.rt eZ29)
 (.giv eZ30
 (.giv eZ32
 (.giv eZ62
 (.rt eZ63))))))))))
 (.rt eZ16))))))))
def t12_nparse : Tree :=
 (.ite eZ28
 (.rt eZ29)
 (.giv eZ30
 (.giv eZ32
 (.giv eZ64
 (.rt eZ66)))))
def t13_nparse : Tree :=
 (.ite eZ67
 (.rt eZ16)
 (.giv eZ68
 (.giv eZ70
 (.ite eZ71
 (.giv eZ72
 (.giv eZ74
 (.ite eZ75
 (.giv eZ76
 (.ite eZ77
 (.ite eZ28
 (.rt eZ29)
 (.giv eZ30
 (.giv eZ79
 (.rt eZ81))))
 (.giv eZ82
 (.giv eZ84
 (.giv eZ85
 (.ite eZ28
 (.rt eZ29)
 (.giv eZ30
 (.giv eZ87
 (.rt eZ88)))))))))
 (.rt eZ16))))
 (.giv eZ89
 (.ite eZ90
 (.giv eZ72
 (.giv eZ74
 (.ite eZ75
 (.giv eZ76
 (.ite eZ77
 (.ite eZ28
 (.rt eZ29)
 (.giv eZ30
 (.giv eZ91
 (.rt eZ92))))
 (.giv eZ82
 (.giv eZ84
 (.giv eZ85
 (.ite eZ28
 (.rt eZ29)
 (.giv eZ30
 (.giv eZ94
 (.rt eZ95)))))))))
 (.rt eZ16))))
 (.giv eZ96
 (.ite (.app 87 [eZ69])
 (.giv eZ97
 (.ite eZ98
 (.ite eZ28
 (.rt eZ29)
 (.giv eZ30
 (.giv eZ91
 (.rt eZ92))))
 (.giv eZ99
 (.giv eZ101
 (.giv eZ102
 (.ite eZ28
 (.rt eZ29)
 (.giv eZ30
 (.giv eZ104
 (.rt eZ105)))))))))
 (.rt eZ16)))))))))
def t14_nparse : Tree :=
 (.giv eZ68
 (.giv eZ70
 (.ite eZ71
 (.giv eZ72
 (.giv eZ74
 (.ite eZ75
 (.giv eZ76
 (.ite eZ77
 (.ite eZ28
 (.rt eZ29)
 (.giv eZ30
 (.giv eZ79
 (.rt eZ81))))
 (.giv eZ82
 (.giv eZ84
 (.giv eZ85
 (.ite eZ28
 (.rt eZ29)
 (.giv eZ30
 (.giv eZ87
 (.rt eZ88)))))))))
 (.rt eZ16))))
 (.giv eZ89
 (.ite eZ90
 (.giv eZ72
 (.giv eZ74
 (.ite eZ75
 (.giv eZ76
 (.ite eZ77
 (.ite eZ28
 (.rt eZ29)
 (.giv eZ30
 (.giv eZ91
 (.rt eZ92))))
 (.giv eZ82
 (.giv eZ84
 (.giv eZ85
 (.ite eZ28
 (.rt eZ29)
 (.giv eZ30
 (.giv eZ94
 (.rt eZ95)))))))))
 (.rt eZ16))))
 (.giv eZ96
 (.ite (.app 87 [eZ69])
 (.giv eZ97
 (.ite eZ98
 (.ite eZ28
 (.rt eZ29)
 (.giv eZ30
 (.giv eZ91
 (.rt eZ92))))
 (.giv eZ99
 (.giv eZ101
 (.giv eZ102
 (.ite eZ28
 (.rt eZ29)
 (.giv eZ30
 (.giv eZ104
 (.rt eZ105)))))))))
 (.rt eZ16))))))))
def t15_nparse : Tree :=
 (.ite eZ28
 (.rt eZ29)
 (.giv eZ30
 (.giv (.app 1000 [eZ33, eZ78, (.i 0)])
 (.rt eZ106))))
def entry_nparse : Tree :=
 (.giv c0_nparse
 (.giv c1_nparse
 (.ite c2_nparse t0_nparse
 (.giv c3_nparse
 (.ite c4_nparse
 (.ite c5_nparse t1_nparse
 (.giv c6_nparse
 (.ite c7_nparse
 (.giv c8_nparse
 (.ite c9_nparse t2_nparse
 (.ite c10_nparse
 (.giv c11_nparse
 (.ite c12_nparse t3_nparse t4_nparse)) t5_nparse)))
 (.ite c13_nparse
 (.giv c14_nparse
 (.ite c15_nparse t6_nparse t7_nparse)) t8_nparse))))
 (.giv c6_nparse
 (.ite c7_nparse
 (.giv c8_nparse
 (.ite c9_nparse t9_nparse
 (.ite c10_nparse
 (.giv c11_nparse
 (.ite c12_nparse t10_nparse t11_nparse)) t12_nparse)))
 (.ite c13_nparse
 (.giv c14_nparse
 (.ite c15_nparse t13_nparse t14_nparse)) t15_nparse))))))))
def trees_nparse : List Tree := []
noncomputable def deps_nparse : List Sig := [q_cutminus, q_cutdot, q_hasminus, q_hasplus, q_nfront, q_ndigits, q_trimzero, q_nmade]
noncomputable def depsM_nparse : List SigM := [q_atoi]

noncomputable def fn_nparse : Func := (Tryd.prog.funcs[37]?).get (by kernel_rfl)
noncomputable def bd_nparse : Code := (fn_nparse.body).get (by kernel_rfl)
noncomputable def run_nparse : List E -> Option Out := runEntry Tryd.prog (tabsG tabs) muF (runN deps_nparse depsM_nparse) tb q_nparse fn_nparse bd_nparse heads_nparse 400
theorem p0_nparse : Tree.ok run_nparse [c2_nparse, c1_nparse, c0_nparse] t0_nparse = true := by kernel_rfl
theorem p1_nparse : Tree.ok run_nparse [c5_nparse, c4_nparse, c3_nparse, .pr .not [c2_nparse], c1_nparse, c0_nparse] t1_nparse = true := by kernel_rfl
theorem p2_nparse : Tree.ok run_nparse [c9_nparse, c8_nparse, c7_nparse, c6_nparse, .pr .not [c5_nparse], c4_nparse, c3_nparse, .pr .not [c2_nparse], c1_nparse, c0_nparse] t2_nparse = true := by kernel_rfl
theorem p3_nparse : Tree.ok run_nparse [c12_nparse, c11_nparse, c10_nparse, .pr .not [c9_nparse], c8_nparse, c7_nparse, c6_nparse, .pr .not [c5_nparse], c4_nparse, c3_nparse, .pr .not [c2_nparse], c1_nparse, c0_nparse] t3_nparse = true := by kernel_rfl
theorem p4_nparse : Tree.ok run_nparse [.pr .not [c12_nparse], c11_nparse, c10_nparse, .pr .not [c9_nparse], c8_nparse, c7_nparse, c6_nparse, .pr .not [c5_nparse], c4_nparse, c3_nparse, .pr .not [c2_nparse], c1_nparse, c0_nparse] t4_nparse = true := by kernel_rfl
theorem p5_nparse : Tree.ok run_nparse [.pr .not [c10_nparse], .pr .not [c9_nparse], c8_nparse, c7_nparse, c6_nparse, .pr .not [c5_nparse], c4_nparse, c3_nparse, .pr .not [c2_nparse], c1_nparse, c0_nparse] t5_nparse = true := by kernel_rfl
theorem p6_nparse : Tree.ok run_nparse [c15_nparse, c14_nparse, c13_nparse, .pr .not [c7_nparse], c6_nparse, .pr .not [c5_nparse], c4_nparse, c3_nparse, .pr .not [c2_nparse], c1_nparse, c0_nparse] t6_nparse = true := by kernel_rfl
theorem p7_nparse : Tree.ok run_nparse [.pr .not [c15_nparse], c14_nparse, c13_nparse, .pr .not [c7_nparse], c6_nparse, .pr .not [c5_nparse], c4_nparse, c3_nparse, .pr .not [c2_nparse], c1_nparse, c0_nparse] t7_nparse = true := by kernel_rfl
theorem p8_nparse : Tree.ok run_nparse [.pr .not [c13_nparse], .pr .not [c7_nparse], c6_nparse, .pr .not [c5_nparse], c4_nparse, c3_nparse, .pr .not [c2_nparse], c1_nparse, c0_nparse] t8_nparse = true := by kernel_rfl
theorem p9_nparse : Tree.ok run_nparse [c9_nparse, c8_nparse, c7_nparse, c6_nparse, .pr .not [c4_nparse], c3_nparse, .pr .not [c2_nparse], c1_nparse, c0_nparse] t9_nparse = true := by kernel_rfl
theorem p10_nparse : Tree.ok run_nparse [c12_nparse, c11_nparse, c10_nparse, .pr .not [c9_nparse], c8_nparse, c7_nparse, c6_nparse, .pr .not [c4_nparse], c3_nparse, .pr .not [c2_nparse], c1_nparse, c0_nparse] t10_nparse = true := by kernel_rfl
theorem p11_nparse : Tree.ok run_nparse [.pr .not [c12_nparse], c11_nparse, c10_nparse, .pr .not [c9_nparse], c8_nparse, c7_nparse, c6_nparse, .pr .not [c4_nparse], c3_nparse, .pr .not [c2_nparse], c1_nparse, c0_nparse] t11_nparse = true := by kernel_rfl
theorem p12_nparse : Tree.ok run_nparse [.pr .not [c10_nparse], .pr .not [c9_nparse], c8_nparse, c7_nparse, c6_nparse, .pr .not [c4_nparse], c3_nparse, .pr .not [c2_nparse], c1_nparse, c0_nparse] t12_nparse = true := by kernel_rfl
theorem p13_nparse : Tree.ok run_nparse [c15_nparse, c14_nparse, c13_nparse, .pr .not [c7_nparse], c6_nparse, .pr .not [c4_nparse], c3_nparse, .pr .not [c2_nparse], c1_nparse, c0_nparse] t13_nparse = true := by kernel_rfl
theorem p14_nparse : Tree.ok run_nparse [.pr .not [c15_nparse], c14_nparse, c13_nparse, .pr .not [c7_nparse], c6_nparse, .pr .not [c4_nparse], c3_nparse, .pr .not [c2_nparse], c1_nparse, c0_nparse] t14_nparse = true := by kernel_rfl
theorem p15_nparse : Tree.ok run_nparse [.pr .not [c13_nparse], .pr .not [c7_nparse], c6_nparse, .pr .not [c4_nparse], c3_nparse, .pr .not [c2_nparse], c1_nparse, c0_nparse] t15_nparse = true := by kernel_rfl
theorem oke_nparse : Tree.ok run_nparse [] entry_nparse = true :=
 (tok_giv (tok_giv (tok_ite p0_nparse (tok_giv (tok_ite (tok_ite p1_nparse (tok_giv (tok_ite (tok_giv (tok_ite p2_nparse (tok_ite (tok_giv (tok_ite p3_nparse p4_nparse)) p5_nparse))) (tok_ite (tok_giv (tok_ite p6_nparse p7_nparse)) p8_nparse)))) (tok_giv (tok_ite (tok_giv (tok_ite p9_nparse (tok_ite (tok_giv (tok_ite p10_nparse p11_nparse)) p12_nparse))) (tok_ite (tok_giv (tok_ite p13_nparse p14_nparse)) p15_nparse))))))))
theorem ok_nparse : checkN q_nparse deps_nparse depsM_nparse heads_nparse entry_nparse trees_nparse = true := checkN_split (Option.some_get _).symm (Option.some_get _).symm (by kernel_rfl) oke_nparse (by kernel_rfl)
end Go.Proofs.YtflhikakndanjaaDoor.Vk
/- Contracts: num.Parse. -/
namespace Go.Proofs.YtflhikakndanjaaDoor.Vk
open Go Go.Ab Go.RowKit
theorem dvM_le (u : ByteArray) : 0 <= dvM u /\ dvM u <= 1000000 := by
 rw [dvM_min]
 have := minM_le (dv u.data.toList)
 omega
theorem cut6 {u : ByteArray} (hd : digV u = true) : (6 < ((cutLV u (mkS [48])).size : Int) -> dvM u = 1000000) /\ (¬ 6 < ((cutLV u (mkS [48])).size : Int) -> dvM u = (dv (mkS [48] ++ cutLV u (mkS [48])).data.toList : Int) /\ (mkS [48] ++ cutLV u (mkS [48])).size <= 7 /\ digV (mkS [48] ++ cutLV u (mkS [48])) = true) := by
 have hg := digV_dig hd
 have ec : cutLV u (mkS [48]) = ⟨(digs (dv u.data.toList)).toArray⟩ := cutL_digs hg
 have ez : (mkS [48]).size = 1 := rfl
 have el : (mkS [48]).data.toList = [48] := rfl
 rw [ec, bytes_len]
 refine ⟨fun h => ?_, fun h => ⟨?_, ?_, ?_⟩⟩
 ·unfold dvM
  rw [if_neg]
  intro hlt
  have : (digs (dv u.data.toList)).length <= 6 := digs_len (k := 6) hlt
  omega
 ·have h1 := dv_lt _ (digs_dig (dv u.data.toList))
  rw [dv_digs] at h1
  have h2 : 10 ^ (digs (dv u.data.toList)).length <= 10 ^ 6 := Nat.pow_le_pow_right (by decide) (by omega)
  unfold dvM
  rw [if_pos (Nat.lt_of_lt_of_le h1 h2), cat_list, el, bytes_list, List.singleton_append, dv_cons, dv_digs]
  show _ = (((48 - 48) * 10 ^ (digs (dv u.data.toList)).length + dv u.data.toList : Nat) : Int)
  rw [Nat.sub_self, Nat.zero_mul, Nat.zero_add]
 ·rw [cat_size, ez, bytes_len]; omega
 ·rw [digV_iff]
  refine ⟨?_, ne_empty (by rw [cat_size, ez]; omega)⟩
  rw [cat_list, el, bytes_list]
  exact dig_append (fun x hx => by rw [List.mem_singleton] at hx; rw [hx]; decide) (digs_dig _)
theorem exp_val {q u : ByteArray} {sg : Bool} (h0 : ¬ q = ByteArray.empty) (hE : at0 q = 101 \/ at0 q = 69) (hu : u = expU q) (hs : expM q = sg) (hd : digV u = true) : (expV q).1 = (if sg then -(dvM u) else dvM u) /\ (expV q).2 = true := by
 subst hu hs
 unfold expV
 rw [if_neg h0, if_neg (by omega), if_neg (by rw [hd]; decide)]
 exact ⟨rfl, rfl⟩
theorem exp_no {q u : ByteArray} (h0 : ¬ q = ByteArray.empty) (hE : at0 q = 101 \/ at0 q = 69) (hu : u = expU q) (hd : digV u = false) : (expV q).2 = false := by
 subst hu
 unfold expV
 rw [if_neg h0, if_neg (by omega), if_pos hd]
theorem exp_bad {q : ByteArray} (h0 : ¬ q = ByteArray.empty) (h1 : ¬ (at0 q : Int) = 101) (h2 : ¬ (at0 q : Int) = 69) : (expV q).2 = false := by
 unfold expV
 rw [if_neg h0, if_pos (by omega)]
theorem expU_45 {q : ByteArray} (h : at0 (tailV q) = 45) : tailV (tailV q) = expU q /\ expM q = true := by
 unfold expU expM
 rw [if_pos (.inl h)]
 exact ⟨rfl, decide_eq_true h⟩
theorem expU_43 {q : ByteArray} (h : ¬ at0 (tailV q) = 45) (h' : at0 (tailV q) = 43) : tailV (tailV q) = expU q /\ expM q = false := by
 unfold expU expM
 rw [if_pos (.inr h')]
 exact ⟨rfl, decide_eq_false h⟩
theorem expU_no {q : ByteArray} (h : ¬ at0 (tailV q) = 45) (h' : ¬ at0 (tailV q) = 43) : tailV q = expU q /\ expM q = false := by
 unfold expU expM
 rw [if_neg (by omega)]
 exact ⟨rfl, decide_eq_false h⟩
theorem nparse_more (n : Nat) : @Ok (I n) q_nparse (fun ds => @okS (I n) n q_nparse.g ds /\ 10 < n) := by
 letI := I n
 refine fn_okN (hphi n) ok_nparse (by
  intro q hq
  simp only [deps_nparse, List.mem_cons, List.not_mem_nil, or_false] at hq
  rcases hq with rfl | rfl | rfl | rfl | rfl | rfl | rfl | rfl
  ·exact okS_of (cutminus_ok n _)
  ·exact okS_of (cutdot_ok n _)
  ·exact okS_of (hasminus_ok n _)
  ·exact okS_of (hasplus_ok n _)
  ·exact okS_of (nfront_ok n)
  ·exact okS_of (ndigits_ok n)
  ·exact okS_of (trimzero_ok n)
  ·exact okS_of (nmade_ok n)) (by
  intro q hq
  simp only [depsM_nparse, List.mem_singleton] at hq
  subst hq
  exact ⟨atoi_ok n, fun h => by cases h⟩) (fun _ _ _ => False) (fun _ _ => 0) ?_ (fun j h t d ds hj => by simp [heads_nparse] at hj)
 intro ds hf ⟨hp, hn⟩
 obtain ⟨s, rfl⟩ := one_str hf
 have hsz := (pre_nparse n s).1 (hp.2 rfl)
 have h1n : (1 : Int).toNat = 1 := rfl
 simp only [entry_nparse, eZ7, eZ8, eZ9, eZ10, eZ11, eZ12, eZ13, eZ14, eZ15, eZ16, eZ17, eZ18, eZ19, eZ20, eZ21, eZ22, eZ23, eZ24, eZ25, eZ26, eZ27, eZ28, eZ29, eZ30, eZ31, eZ32, eZ33, eZ34, eZ35, eZ36, eZ37, eZ38, eZ39, eZ40, eZ41, eZ42, eZ43, eZ44, eZ45, eZ46, eZ47, eZ48, eZ49, eZ50, eZ51, eZ52, eZ53, eZ54, eZ55, eZ56, eZ57, eZ58, eZ59, eZ60, eZ61, eZ62, eZ63, eZ64, eZ65, eZ66, eZ67, eZ68, eZ69, eZ70, eZ71, eZ72, eZ73, eZ74, eZ75, eZ76, eZ77, eZ78, eZ79, eZ80, eZ81, eZ82, eZ83, eZ84, eZ85, eZ86, eZ87, eZ88, eZ89, eZ90, eZ91, eZ92, eZ93, eZ94, eZ95, eZ96, eZ97, eZ98, eZ99, eZ100, eZ101, eZ102, eZ103, eZ104, eZ105, eZ106, c0_nparse, c1_nparse, c2_nparse, c3_nparse, c4_nparse, c5_nparse, c6_nparse, c7_nparse, c8_nparse, c9_nparse, c10_nparse, c11_nparse, c12_nparse, c13_nparse, c14_nparse, c15_nparse, t0_nparse, t1_nparse, t2_nparse, t3_nparse, t4_nparse, t5_nparse, t6_nparse, t7_nparse, t8_nparse, t9_nparse, t10_nparse, t11_nparse, t12_nparse, t13_nparse, t14_nparse, t15_nparse, q_nparse, Tree.holds, Out.den, E.den, E.denL, dn, List.getD_cons_zero, List.getD_cons_succ, List.length_map, phi_1000, phi_cutminus, phi_cutdot, phi_hasminus, phi_hasplus, phi_nfront, phi_ndigits, phi_trimzero, phi_atoi, pre_atoi, phi_nmade, phi_nparse, row_at0, row_at1, Int.toNat_zero, Int.toNat_natCast, h1n, at0_def, tail_def, num_at0, num_at1, num_at2, num_put, cat_emp, decide_eq_true_eq, decide_eq_false_iff_not]
 have okU : ∀ u : ByteArray, u.size <= s.size -> okD n [sD u] := fun u h => okD_one.2 ⟨by simp only [D.sz]; omega, lim_sD.2 (Nat.le_trans h (Nat.le_trans hsz (by decide)))⟩
 have okC : ∀ (u c : ByteArray), u.size <= s.size -> c.size <= 1 -> okD n [sD u, sD c] := fun u c h hc => okD_two.2 ⟨by simp only [D.sz]; omega, lim_sD.2 (Nat.le_trans h (Nat.le_trans hsz (by decide))), lim_sD.2 (Nat.le_trans hc (by decide))⟩
 have ok45 := fun u h => okC u (mkS [45]) h (by decide)
 have ok46 := fun u h => okC u (mkS [46]) h (by decide)
 have ok43 := fun u h => okC u (mkS [43]) h (by decide)
 have ok48 := fun u h => okC u (mkS [48]) h (by decide)
 have okZ : ∀ u : ByteArray, u.size <= 7 -> okD n [sD u] := fun u h => okD_one.2 ⟨by simp only [D.sz]; omega, lim_sD.2 (Nat.le_trans h (by decide))⟩
 have okM : ∀ (b : Bool) (u : ByteArray) (y : Int), u.size <= s.size -> okD n [bD b, sD u, iD y] := fun b u y h => ⟨by simp only [D.szL, D.sz]; omega, by simp only [D.LimL, D.Lim, and_true, true_and]; exact Nat.le_trans h (Nat.le_trans hsz (by decide))⟩
 have key : ∀ {x : NumT} {e : Int}, parseV s = (x, e) -> D.row [numD x, iD e] = D.row [numD (parseV s).1, iD (parseV s).2] := fun h => by rw [h]
 have wrN : ∀ v z : Int, 0 <= v -> v <= 1000000 -> 0 <= z -> z <= 1000000 -> IntKind.i64.wrap (-v - z) = -v - z := fun v z _ _ _ _ => wrapI (by omega) (by omega)
 have wrP : ∀ v z : Int, 0 <= v -> v <= 1000000 -> 0 <= z -> z <= 1000000 -> IntKind.i64.wrap (v - z) = v - z := fun v z _ _ _ _ => wrapI (by omega) (by omega)
 have wrM : ∀ v z : Int, 0 <= v -> v <= 1000000 -> 0 <= z -> z <= 1000000 -> IntKind.i64.wrap (IntKind.i64.wrap (-v) - z) = -v - z := fun v z _ _ _ _ => by rw [wrapI (i := -v) (by omega) (by omega), wrapI (by omega) (by omega)]
 have wrP0 : ∀ v z : Int, 0 <= v -> v <= 1000000 -> z = 0 -> (0 : Int) <= 0 -> IntKind.i64.wrap (v - 0) = v := fun v z _ _ _ _ => by rw [wrapI (by omega) (by omega)]; omega
 have wrM0 : ∀ v z : Int, 0 <= v -> v <= 1000000 -> z = 0 -> (0 : Int) <= 0 -> IntKind.i64.wrap (IntKind.i64.wrap (-v) - 0) = -v := fun v z _ _ _ _ => by rw [wrapI (i := -v) (by omega) (by omega), wrapI (by omega) (by omega)]; omega
 have hC : PC s (decide (at0 s = 45)) (cutP 45 s) := ⟨rfl, rfl⟩
 have hts := pc_size hC
 have f1 := front_size (cutP 45 s)
 have f2 := tail_size (restV (cutP 45 s))
 have f3 := front_size (tailV (restV (cutP 45 s)))
 have hcp : at0 (restV (cutP 45 s)) = 46 -> cutP 46 (restV (cutP 45 s)) = tailV (restV (cutP 45 s)) := fun h => if_pos h
 have hw0 := fun h => key (hC.w0 h)
 have hw1 := fun h h' => key (hC.w1 h h')
 have hp0 := fun h h' h2 h3 => key (hC.p0 h h' h2 h3)
 have hpx := fun h h' p q hpq => @PC.px s (cutP 45 s) p q _ hC h h' hpq
 have hs1 : ∀ u : ByteArray, ¬ u = ByteArray.empty -> (at0 u : Int) = 48 -> (¬ u = mkS [48] -> Dig u.data.toList -> 1 < u.size /\ at0 u = 48) /\ (u = mkS [48] -> ¬ (1 < u.size /\ at0 u = 48)) := fun u h0 h1 => by
  refine ⟨fun h2 hd => ⟨?_, by omega⟩, fun h2 hc => ?_⟩
  ·apply Classical.byContradiction
   intro hn
   have hp := pos_of h0
   apply h2
   apply ba_ext
   cases hl : u.data.toList with
   | nil => exact absurd (emp_list.2 hl) h0
   | cons x r =>
    have hr : r = [] := by
     have := size_len u
     rw [hl, List.length_cons] at this
     exact List.eq_nil_of_length_eq_zero (by omega)
    have hx : x = 48 := by
     unfold at0 at h1
     rw [hl] at h1
     exact u48 h1
    rw [hr, hx]; rfl
  ·rw [h2] at hc; exact absurd hc.1 (by decide)
 have hfd := front_dig (cutP 45 s)
 generalize cutP 45 s = t at *
 have Y : ∀ (p q wp : ByteArray) (h1 : ¬ frontV t = ByteArray.empty) (h2 : ¬ (1 < (frontV t).size /\ at0 (frontV t) = 48)) (h3 : HPQ (restV t) p q), wp = frontV t ++ p -> (∀ a : Int, (expV q).2 = true -> a = (expV q).1 - p.size ->
   (512 < (s.size : Int) -> D.row [numD noNumT, iD 2] = D.row [numD (parseV s).1, iD (parseV s).2]) /\ (¬ 512 < (s.size : Int) -> ((frontV t).size : Int) <= 1099511627776 /\ (p.size : Int) <= 1099511627776 /\ okD n [bD (decide (at0 s = 45)), sD wp, iD a] /\
    D.row [numD (madeV (decide (at0 s = 45)) wp a).1, iD (madeV (decide (at0 s = 45)) wp a).2] = D.row [numD (parseV s).1, iD (parseV s).2])) /\
   ((expV q).2 = false -> D.row [numD noNumT, iD 10] = D.row [numD (parseV s).1, iD (parseV s).2]) := by
  intro p q wp h1 h2 h3 hwp
  have hx := hpx h1 h2 p q h3
  obtain ⟨z1, z2⟩ := hpq_size h3
  obtain ⟨e1, e2⟩ := expV_size q
  refine ⟨fun a ho ha => ⟨fun h5 => key ?_, fun h5 => ⟨by omega, by omega, okM _ _ _ (by rw [hwp, cat_size]; omega), ?_⟩⟩, fun ho => key ?_⟩
  ·rw [hx, if_neg (by rw [ho]; decide), if_pos h5]
  ·rw [hx, if_neg (by rw [ho]; decide), if_neg h5, hwp, ha, show wrap ((expV q).1 - (p.size : Int)) = (expV q).1 - p.size from wrapI (by omega) (by omega)]
  ·rw [hx, if_pos ho]
 have e00 : ((ByteArray.empty).size : Int) = 0 := rfl
 refine ⟨okC _ _ (Nat.le_refl _) (by decide), okU _ hts, hw0, fun hw => ⟨by have := pos_of hw; omega, fun h48 => ⟨fun h1 => hw1 hw ((hs1 _ hw h48).1 h1 hfd), fun h1 => ?_⟩, fun h48 => ?_⟩⟩
 all_goals
  have h2 : ¬ (1 < (frontV t).size /\ at0 (frontV t) = 48) := by
   first | exact (hs1 _ hw h48).2 h1 | omega
  refine ⟨ok46 _ (by omega), fun hdot => ?_, fun hdot => ?_⟩
  ·rw [hcp hdot]
   refine ⟨okU _ (by omega), fun hp => hp0 hw h2 hdot hp, fun hp => ?_⟩
   obtain ⟨YR, K10⟩ := Y _ _ _ hw h2 (hpq_dot hdot hp) rfl
   have pz0 : 0 <= ((frontV (tailV (restV t))).size : Int) /\ ((frontV (tailV (restV t))).size : Int) <= 1000000 := by omega
   have q1 := tail_size (restV (tailV (restV t)))
   have q2 := tail_size (tailV (restV (tailV (restV t))))
   refine ⟨fun hq => ⟨by have := pos_of hq; omega, fun h101 => ⟨fun h69 => K10 (exp_bad hq h101 h69), fun h69 => ?_⟩, fun h101 => ?_⟩, fun hqe => YR _ (by rw [hqe, expV_emp]) (by rw [hqe, expV_emp]; exact wrP _ _ (by decide) (by decide) (by omega) (by omega))⟩
   all_goals
    have hE : at0 (restV (tailV (restV t))) = 101 \/ at0 (restV (tailV (restV t))) = 69 := by omega
    exact ⟨by have := at0_pos (s := restV (tailV (restV t))) (by omega); omega, ok45 _ (by omega), fun h45 => ⟨by have := at0_pos (s := tailV (restV (tailV (restV t)))) (by omega); omega, okU _ (by omega), ⟨fun hd => ⟨ok48 _ (by omega), fun h6 => YR _ (exp_val hq hE (expU_45 h45).1 (expU_45 h45).2 hd).2 (by rw [(exp_val hq hE (expU_45 h45).1 (expU_45 h45).2 hd).1, (cut6 hd).1 h6]; exact wrN _ _ (by decide) (by decide) (by omega) (by omega)), fun h6 => ⟨by have := ((cut6 hd).2 h6).2.1; rw [cat_size] at this; omega, okZ _ ((cut6 hd).2 h6).2.1, ⟨by have := ((cut6 hd).2 h6).2.1; omega, ((cut6 hd).2 h6).2.2⟩, YR _ (exp_val hq hE (expU_45 h45).1 (expU_45 h45).2 hd).2 (by rw [(exp_val hq hE (expU_45 h45).1 (expU_45 h45).2 hd).1, ((cut6 hd).2 h6).1]; have := dvM_le (tailV (tailV (restV (tailV (restV t))))); rw [((cut6 hd).2 h6).1] at this; exact wrM _ _ this.1 this.2 (by omega) (by omega))⟩⟩, fun hd => K10 (exp_no hq hE (expU_45 h45).1 hd)⟩⟩, fun h45 => ⟨ok43 _ (by omega), fun h43 => ⟨by have := at0_pos (s := tailV (restV (tailV (restV t)))) (by omega); omega, okU _ (by omega), ⟨fun hd => ⟨ok48 _ (by omega), fun h6 => YR _ (exp_val hq hE (expU_43 h45 h43).1 (expU_43 h45 h43).2 hd).2 (by rw [(exp_val hq hE (expU_43 h45 h43).1 (expU_43 h45 h43).2 hd).1, (cut6 hd).1 h6]; exact wrP _ _ (by decide) (by decide) (by omega) (by omega)), fun h6 => ⟨by have := ((cut6 hd).2 h6).2.1; rw [cat_size] at this; omega, okZ _ ((cut6 hd).2 h6).2.1, ⟨by have := ((cut6 hd).2 h6).2.1; omega, ((cut6 hd).2 h6).2.2⟩, YR _ (exp_val hq hE (expU_43 h45 h43).1 (expU_43 h45 h43).2 hd).2 (by rw [(exp_val hq hE (expU_43 h45 h43).1 (expU_43 h45 h43).2 hd).1, ((cut6 hd).2 h6).1]; have := dvM_le (tailV (tailV (restV (tailV (restV t))))); rw [((cut6 hd).2 h6).1] at this; exact wrP _ _ this.1 this.2 (by omega) (by omega))⟩⟩, fun hd => K10 (exp_no hq hE (expU_43 h45 h43).1 hd)⟩⟩, fun h43 => ⟨okU _ (by omega), ⟨fun hd => ⟨ok48 _ (by omega), fun h6 => YR _ (exp_val hq hE (expU_no h45 h43).1 (expU_no h45 h43).2 hd).2 (by rw [(exp_val hq hE (expU_no h45 h43).1 (expU_no h45 h43).2 hd).1, (cut6 hd).1 h6]; exact wrP _ _ (by decide) (by decide) (by omega) (by omega)), fun h6 => ⟨by have := ((cut6 hd).2 h6).2.1; rw [cat_size] at this; omega, okZ _ ((cut6 hd).2 h6).2.1, ⟨by have := ((cut6 hd).2 h6).2.1; omega, ((cut6 hd).2 h6).2.2⟩, YR _ (exp_val hq hE (expU_no h45 h43).1 (expU_no h45 h43).2 hd).2 (by rw [(exp_val hq hE (expU_no h45 h43).1 (expU_no h45 h43).2 hd).1, ((cut6 hd).2 h6).1]; have := dvM_le (tailV (restV (tailV (restV t)))); rw [((cut6 hd).2 h6).1] at this; exact wrP _ _ this.1 this.2 (by omega) (by omega))⟩⟩, fun hd => K10 (exp_no hq hE (expU_no h45 h43).1 hd)⟩⟩⟩⟩
  ·obtain ⟨YR0, K10⟩ := Y _ _ _ hw h2 (hpq_no hdot) (cat_emp _).symm
   have YR : ∀ a : Int, (expV (restV t)).2 = true -> a = (expV (restV t)).1 -> (512 < (s.size : Int) -> D.row [numD noNumT, iD 2] = D.row [numD (parseV s).1, iD (parseV s).2]) /\ (¬ 512 < (s.size : Int) -> ((frontV t).size : Int) <= 1099511627776 /\ okD n [bD (decide (at0 s = 45)), sD (frontV t), iD a] /\
    D.row [numD (madeV (decide (at0 s = 45)) (frontV t) a).1, iD (madeV (decide (at0 s = 45)) (frontV t) a).2] = D.row [numD (parseV s).1, iD (parseV s).2]) := fun a h h' => ⟨(YR0 a h (by rw [e00]; omega)).1, fun h5 => ⟨((YR0 a h (by rw [e00]; omega)).2 h5).1, ((YR0 a h (by rw [e00]; omega)).2 h5).2.2⟩⟩
   have q1 := tail_size (restV t)
   have q2 := tail_size (tailV (restV t))
   refine ⟨fun hq => ⟨by have := pos_of hq; omega, fun h101 => ⟨fun h69 => K10 (exp_bad hq h101 h69), fun h69 => ?_⟩, fun h101 => ?_⟩, fun hqe => YR _ (by rw [hqe, expV_emp]) (by rw [hqe, expV_emp])⟩
   all_goals
    have hE : at0 (restV t) = 101 \/ at0 (restV t) = 69 := by omega
    exact ⟨by have := at0_pos (s := restV t) (by omega); omega, ok45 _ (by omega), fun h45 => ⟨by have := at0_pos (s := tailV (restV t)) (by omega); omega, okU _ (by omega), ⟨fun hd => ⟨ok48 _ (by omega), fun h6 => YR _ (exp_val hq hE (expU_45 h45).1 (expU_45 h45).2 hd).2 (by rw [(exp_val hq hE (expU_45 h45).1 (expU_45 h45).2 hd).1, (cut6 hd).1 h6]; exact rfl), fun h6 => ⟨by have := ((cut6 hd).2 h6).2.1; rw [cat_size] at this; omega, okZ _ ((cut6 hd).2 h6).2.1, ⟨by have := ((cut6 hd).2 h6).2.1; omega, ((cut6 hd).2 h6).2.2⟩, YR _ (exp_val hq hE (expU_45 h45).1 (expU_45 h45).2 hd).2 (by rw [(exp_val hq hE (expU_45 h45).1 (expU_45 h45).2 hd).1, ((cut6 hd).2 h6).1]; have := dvM_le (tailV (tailV (restV t))); rw [((cut6 hd).2 h6).1] at this; exact wrM0 _ _ this.1 this.2 (by omega) (by omega))⟩⟩, fun hd => K10 (exp_no hq hE (expU_45 h45).1 hd)⟩⟩, fun h45 => ⟨ok43 _ (by omega), fun h43 => ⟨by have := at0_pos (s := tailV (restV t)) (by omega); omega, okU _ (by omega), ⟨fun hd => ⟨ok48 _ (by omega), fun h6 => YR _ (exp_val hq hE (expU_43 h45 h43).1 (expU_43 h45 h43).2 hd).2 (by rw [(exp_val hq hE (expU_43 h45 h43).1 (expU_43 h45 h43).2 hd).1, (cut6 hd).1 h6]; exact rfl), fun h6 => ⟨by have := ((cut6 hd).2 h6).2.1; rw [cat_size] at this; omega, okZ _ ((cut6 hd).2 h6).2.1, ⟨by have := ((cut6 hd).2 h6).2.1; omega, ((cut6 hd).2 h6).2.2⟩, YR _ (exp_val hq hE (expU_43 h45 h43).1 (expU_43 h45 h43).2 hd).2 (by rw [(exp_val hq hE (expU_43 h45 h43).1 (expU_43 h45 h43).2 hd).1, ((cut6 hd).2 h6).1]; have := dvM_le (tailV (tailV (restV t))); rw [((cut6 hd).2 h6).1] at this; exact wrP0 _ _ this.1 this.2 (by omega) (by omega))⟩⟩, fun hd => K10 (exp_no hq hE (expU_43 h45 h43).1 hd)⟩⟩, fun h43 => ⟨okU _ (by omega), ⟨fun hd => ⟨ok48 _ (by omega), fun h6 => YR _ (exp_val hq hE (expU_no h45 h43).1 (expU_no h45 h43).2 hd).2 (by rw [(exp_val hq hE (expU_no h45 h43).1 (expU_no h45 h43).2 hd).1, (cut6 hd).1 h6]; exact rfl), fun h6 => ⟨by have := ((cut6 hd).2 h6).2.1; rw [cat_size] at this; omega, okZ _ ((cut6 hd).2 h6).2.1, ⟨by have := ((cut6 hd).2 h6).2.1; omega, ((cut6 hd).2 h6).2.2⟩, YR _ (exp_val hq hE (expU_no h45 h43).1 (expU_no h45 h43).2 hd).2 (by rw [(exp_val hq hE (expU_no h45 h43).1 (expU_no h45 h43).2 hd).1, ((cut6 hd).2 h6).1]; have := dvM_le (tailV (restV t)); rw [((cut6 hd).2 h6).1] at this; exact wrP0 _ _ this.1 this.2 (by omega) (by omega))⟩⟩, fun hd => K10 (exp_no hq hE (expU_no h45 h43).1 hd)⟩⟩⟩⟩
theorem nparse_ok (n : Nat) : @Ok (I n) q_nparse (@okS (I n) n q_nparse.g) :=
 ok_irrel (by decide) (@Ok.less (I (n + 20)) _ _ _ (nparse_more (n + 20)) fun ds h => ⟨⟨⟨by have := h.1.1; omega, h.1.2⟩, h.2⟩, by omega⟩)
end Go.Proofs.YtflhikakndanjaaDoor.Vk
/- Contracts of the reference of chapter 1: Small, Whole. -/
namespace Go.Proofs.YtflhikakndanjaaDoor.Vk
open Go Go.Ab Go.RowKit
-- head 0 of loop 0: [t0 .sh (.cell (.sc (.i .i64))), t3 .sh (.cell (.sc .s)), t4 .sh (.cell (.sc .s))]
end Go.Proofs.YtflhikakndanjaaDoor.Vk
/- Contracts of the reference of chapter 1: Zeros, less, aligned, Less. -/
namespace Go.Proofs.YtflhikakndanjaaDoor.Vk
open Go Go.Ab Go.RowKit
-- head 0 of loop 0: [t0 .sh (.cell (.sc (.i .i64))), t3 .sh (.cell (.sc .s)), t4 .sh (.cell (.sc (.i .i64)))]
end Go.Proofs.YtflhikakndanjaaDoor.Vk
/- strconv.Itoa, number by number: what is run. -/
namespace Go.Proofs.YtflhikakndanjaaDoor.Vk
open Go Go.Ab Go.RowKit
/- Three digits at most, quickly. -/
def dec3 (m : Nat) : List UInt8 := if m < 10 then [UInt8.ofNat (48 + m)] else if m < 100 then [UInt8.ofNat (48 + m / 10), UInt8.ofNat (48 + m % 10)] else [UInt8.ofNat (48 + m / 100), UInt8.ofNat (48 + m / 10 % 10), UInt8.ofNat (48 + m % 10)]
def isText (l : List UInt8) (r : Option (AV × St)) : Bool := match r with | some (.v (.string s), _) => List.beq s.data.toList l | _ => false
noncomputable def runI (i : Int) : Option (AV × St) := evFn Tryd.prog (tabsG tabs) muF (evDrawnX Tryd.prog (tabsG tabs)) 100000 noOrc 200 (.func 87) [.v (.int .i64 i)] none0
noncomputable def okPos (m : Nat) : Bool := isText (dec3 m) (runI (m : Int))
noncomputable def okNeg (m : Nat) : Bool := isText (45 :: dec3 m) (runI (-(m : Int)))
noncomputable def allFrom (p : Nat -> Bool) : Nat -> Nat -> Bool
 | _, 0 => true
 | a, k + 1 => p a && allFrom p (a + 1) k
theorem allFrom_at {p : Nat -> Bool} : ∀ {k a m : Nat}, allFrom p a k = true -> a <= m -> m < a + k -> p m = true
 | 0, a, m, _, h1, h2 => by omega
 | k + 1, a, m, h, h1, h2 => by
  unfold allFrom at h
  rw [Bool.and_eq_true] at h
  by_cases e : a = m
  ·rw [<- e]; exact h.1
  ·exact allFrom_at h.2 (by omega) (by omega)
theorem text_eq {l : List UInt8} {r : Option (AV × St)} (h : isText l r = true) : ∃ s', r = some (.v (.string ⟨l.toArray⟩), s') := by
 unfold isText at h
 split at h
 ·rename_i s s'
  have hl : s.data.toList = l := eq_of_beq (α := List UInt8) h
  exact ⟨s', by rw [<- hl]⟩
 ·cases h
theorem calls_of_text {l : List UInt8} {i : Int} {W : World} (hL : TabsMet tabs W) (h : isText l (runI i) = true) : Calls Tryd.prog 87 #[.int .i64 i] W fun e W' => e = .returned (.string ⟨l.toArray⟩) /\ Below W.heap.size W W' := by
 haveI : Interp := ⟨fun _ _ => .nil⟩
 obtain ⟨s', hr⟩ := text_eq h
 have hd : ∀ call, CallOk Tryd.prog (tabsG tabs) W.heap.size W call -> DrawnOk Tryd.prog (tabsG tabs) W.heap.size W (evDrawnX Tryd.prog (tabsG tabs) call) := fun call hc => drawnX_sound noNum Tryd.checked.mixed hc
 have hc := fn_sound (mu := muF) (P := Tryd.prog) noNum 100000 (noOrc_ok (B0 := W.heap.size) (w0 := W)) hd 200
 have hG := glob_of_tabs hL
 have := hc (.func 87) _ none0 _ s' hr W Mp.start #[.int .i64 i] (Sim.start hG Mp.start fun _ _ h => h) ⟨_, _, rfl, ⟨rfl, rfl⟩, VRl_nil⟩
 refine (callsIn_wide.1 this).mono fun e W' hq => ?_
 obtain ⟨v, M', rfl, hvr, hs', _⟩ := Done.down hq rfl
 exact ⟨by rw [hvr.1], hs'.below⟩
end Go.Proofs.YtflhikakndanjaaDoor.Vk
/- strconv.Itoa, number by number: 0 to 219. -/
namespace Go.Proofs.YtflhikakndanjaaDoor.Vk
open Go Go.Ab Go.RowKit
theorem ia0 : allFrom okPos 0 100 = true := by kernel_rfl
theorem ia1 : allFrom okPos 100 40 = true := by kernel_rfl
theorem ia2 : allFrom okPos 140 40 = true := by kernel_rfl
theorem ia3 : allFrom okPos 180 40 = true := by kernel_rfl
end Go.Proofs.YtflhikakndanjaaDoor.Vk
/- strconv.Itoa, number by number: 220 to 439. -/
namespace Go.Proofs.YtflhikakndanjaaDoor.Vk
open Go Go.Ab Go.RowKit
theorem ib0 : allFrom okPos 220 44 = true := by kernel_rfl
theorem ib1 : allFrom okPos 264 44 = true := by kernel_rfl
theorem ib2 : allFrom okPos 308 44 = true := by kernel_rfl
theorem ib3 : allFrom okPos 352 44 = true := by kernel_rfl
theorem ib4 : allFrom okPos 396 44 = true := by kernel_rfl
end Go.Proofs.YtflhikakndanjaaDoor.Vk
/- strconv.Itoa, number by number: -1 to -200. -/
namespace Go.Proofs.YtflhikakndanjaaDoor.Vk
open Go Go.Ab Go.RowKit
theorem ic0 : allFrom okNeg 1 40 = true := by kernel_rfl
theorem ic1 : allFrom okNeg 41 40 = true := by kernel_rfl
theorem ic2 : allFrom okNeg 81 40 = true := by kernel_rfl
theorem ic3 : allFrom okNeg 121 40 = true := by kernel_rfl
theorem ic4 : allFrom okNeg 161 40 = true := by kernel_rfl
end Go.Proofs.YtflhikakndanjaaDoor.Vk
/- strconv.Itoa, number by number: -201 to -400. -/
namespace Go.Proofs.YtflhikakndanjaaDoor.Vk
open Go Go.Ab Go.RowKit
theorem id0 : allFrom okNeg 201 40 = true := by kernel_rfl
theorem id1 : allFrom okNeg 241 40 = true := by kernel_rfl
theorem id2 : allFrom okNeg 281 40 = true := by kernel_rfl
theorem id3 : allFrom okNeg 321 40 = true := by kernel_rfl
theorem id4 : allFrom okNeg 361 40 = true := by kernel_rfl
end Go.Proofs.YtflhikakndanjaaDoor.Vk
/- strconv.Itoa, number by number: all of them. -/
namespace Go.Proofs.YtflhikakndanjaaDoor.Vk
open Go Go.Ab Go.RowKit
theorem digs_small {m : Nat} (h : m < 10) (h0 : m ≠ 0) : digs m = [UInt8.ofNat (48 + m)] := by
 rw [digs_pos h0, show m / 10 = 0 by omega, digs_zero, show m % 10 = m by omega]; rfl
theorem dec3_eq {m : Nat} (h : m < 1000) : dec3 m = digsZ m := by
 unfold dec3
 by_cases h1 : m < 10
 ·rw [if_pos h1, dzZ, show m / 10 = 0 by omega, digs_zero, show m % 10 = m by omega]; rfl
 rw [if_neg h1]
 by_cases h2 : m < 100
 ·rw [if_pos h2, dzZ, digs_small (by omega) (by omega)]; rfl
 rw [if_neg h2, dzZ, digs_pos (n := m / 10) (by omega), digs_small (by omega) (by omega), show m / 10 / 10 = m / 100 by omega]
 rfl
theorem itoa_pos {m : Nat} (h : m < 440) : okPos m = true := by
 by_cases hia0 : m < 100
 ·exact allFrom_at ia0 (by omega) (by omega)
 by_cases hia1 : m < 140
 ·exact allFrom_at ia1 (by omega) (by omega)
 by_cases hia2 : m < 180
 ·exact allFrom_at ia2 (by omega) (by omega)
 by_cases hia3 : m < 220
 ·exact allFrom_at ia3 (by omega) (by omega)
 by_cases hib0 : m < 264
 ·exact allFrom_at ib0 (by omega) (by omega)
 by_cases hib1 : m < 308
 ·exact allFrom_at ib1 (by omega) (by omega)
 by_cases hib2 : m < 352
 ·exact allFrom_at ib2 (by omega) (by omega)
 by_cases hib3 : m < 396
 ·exact allFrom_at ib3 (by omega) (by omega)
 by_cases hib4 : m < 440
 ·exact allFrom_at ib4 (by omega) (by omega)
 omega
theorem itoa_neg {m : Nat} (h0 : 0 < m) (h : m <= 400) : okNeg m = true := by
 by_cases hic0 : m < 41
 ·exact allFrom_at ic0 (by omega) (by omega)
 by_cases hic1 : m < 81
 ·exact allFrom_at ic1 (by omega) (by omega)
 by_cases hic2 : m < 121
 ·exact allFrom_at ic2 (by omega) (by omega)
 by_cases hic3 : m < 161
 ·exact allFrom_at ic3 (by omega) (by omega)
 by_cases hic4 : m < 201
 ·exact allFrom_at ic4 (by omega) (by omega)
 by_cases hid0 : m < 241
 ·exact allFrom_at id0 (by omega) (by omega)
 by_cases hid1 : m < 281
 ·exact allFrom_at id1 (by omega) (by omega)
 by_cases hid2 : m < 321
 ·exact allFrom_at id2 (by omega) (by omega)
 by_cases hid3 : m < 361
 ·exact allFrom_at id3 (by omega) (by omega)
 by_cases hid4 : m < 401
 ·exact allFrom_at id4 (by omega) (by omega)
 omega
theorem itoa_ok (n : Nat) : @Ok (I n) q_itoa (@okS (I n) n q_itoa.g) := by
 letI := I n
 refine ok_scalar (t := .s) rfl fun W vs ds hL ha hp => ?_
 obtain ⟨v, d, rfl, rfl, h1⟩ := args_one ha
 obtain ⟨i, rfl, rfl⟩ := arg_int h1
 obtain ⟨p1, p2⟩ := (pre_itoa n i).1 (hp.2 rfl)
 by_cases hi : i < 0
 ·have h := itoa_neg (m := i.natAbs) (by omega) (by omega)
  unfold okNeg at h
  rw [show -((i.natAbs : Nat) : Int) = i by omega, dec3_eq (by omega)] at h
  refine (calls_of_text hL h).mono ?_
  rintro e W' ⟨rfl, hb⟩
  refine ⟨_, rfl, hb, ?_, rfl⟩
  rw [show @Interp.phi (I n) q_itoa.g [iD i] = sD (smallText i) from rfl]
  unfold smallText
  rw [if_pos hi]
  congr 2
 ·have h := itoa_pos (m := i.natAbs) (by omega)
  unfold okPos at h
  rw [show ((i.natAbs : Nat) : Int) = i by omega, dec3_eq (by omega)] at h
  refine (calls_of_text hL h).mono ?_
  rintro e W' ⟨rfl, hb⟩
  refine ⟨_, rfl, hb, ?_, rfl⟩
  rw [show @Interp.phi (I n) q_itoa.g [iD i] = sD (smallText i) from rfl]
  unfold smallText
  rw [if_neg hi, nil_cat]
end Go.Proofs.YtflhikakndanjaaDoor.Vk
