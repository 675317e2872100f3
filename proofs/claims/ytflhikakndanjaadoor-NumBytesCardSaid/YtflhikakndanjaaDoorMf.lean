/- Merged own texts, without what this claim does not use. -/
import Derived.Test.YtflhikakndanjaaDoorMe
import Derived.Test.YtflhikakndanjaaDoorRows
import Derived.KernelRfl
import Derived.Lib.SlTrimSet
import Derived.Lib.ValidLaws
import Derived.Lib.Bytealg
import Derived.Shelf.Strings.Builder1
import Derived.Shelf.Strings.Builder2
import Derived.Shelf.Strings.Trim
import Derived.Shelf.Small.Utf8
import Derived.Shelf.Small.Strs
import Derived.Shelf.Strings.BuilderF
import Derived.Shelf.Strconv.Atoi
import Derived.Shelf.Strconv.Itoa0
import Derived.Shelf.Strconv.Itoa1
import Derived.Shelf.LaysM
import Derived.Shelf.Strconv.Itoa2
import Derived.Shelf.Strconv.Itoa3
import Derived.Shelf.Strings.Search1
import Derived.Shelf.Strings.Prefix
import Derived.Shelf.Strings.Runes
import Derived.Shelf.Strings.AsciiSet
import Derived.Shelf.Bits.Mul64
import Derived.Shelf.Strings.Repeat
import Derived.Shelf.Unicode.DecodeSlow
import Derived.Shelf.Strings.SlTrimAscii
import Derived.Test.YtflhikakndanjaaDoorProg
import Derived.Lib.Repeat
set_option maxRecDepth 100000
set_option linter.unusedVariables false
set_option linter.unusedSimpArgs false
set_option linter.unusedSectionVars false
set_option linter.constructorNameAsVariable false
namespace Go.Ab
def E.v0 : E := .var 0
def E.v1 : E := .var 1
def E.v2 : E := .var 2
def E.v3 : E := .var 3
def E.v4 : E := .var 4
def E.v5 : E := .var 5
def E.v6 : E := .var 6
def E.v7 : E := .var 7
def E.v8 : E := .var 8
def E.i (x : Int) : E := .lit (.int .i64 x)
def E.c (k : Nat) (x : E) : E := .pr (.cell k) [x]
def E.n (x : E) : E := .pr .len [x]
def E.a (x y : E) : E := .pr .at [x, y]
def E.lt (x y : E) : E := .pr (.icmp .lss) [x, y]
def E.le (x y : E) : E := .pr (.icmp .leq) [x, y]
def E.eq (x y : E) : E := .pr (.icmp .eql) [x, y]
def E.ge (x y : E) : E := .pr (.icmp .geq) [x, y]
def E.gt (x y : E) : E := .pr (.icmp .gtr) [x, y]
def E.ne (x y : E) : E := .pr (.icmp .neq) [x, y]
def E.r3 (x : E) : E := .pr .row [.pr (.cell 0) [x], .pr (.cell 1) [x], .pr (.cell 2) [x]]
def Tree.no : Tree := .leaf (.ret (.lit (.bool false)))
def Tree.ye : Tree := .leaf (.ret (.lit (.bool true)))
def Tree.rt (x : E) : Tree := .leaf (.ret x)
def Tree.g (j : Nat) (x : List E) : Tree := .leaf (.go j x)
theorem dt : (E.v0 = E.var 0) /\ (E.v1 = E.var 1) /\ (E.v2 = E.var 2) /\ (E.v3 = E.var 3) /\ (E.v4 = E.var 4) /\ (E.v5 = E.var 5) /\ (E.v6 = E.var 6) /\ (E.v7 = E.var 7) /\ (E.v8 = E.var 8) /\ (∀ (x : Int), E.i x = E.lit (.int .i64 x)) /\ (∀ (k : Nat) (x : E), E.c k x = E.pr (.cell k) [x]) /\ (∀ (x : E), E.n x = E.pr .len [x]) /\ (∀ (x y : E), E.a x y = E.pr .at [x, y]) /\ (∀ (x y : E), E.lt x y = E.pr (.icmp .lss) [x, y]) /\ (∀ (x y : E), E.le x y = E.pr (.icmp .leq) [x, y]) /\ (∀ (x y : E), E.eq x y = E.pr (.icmp .eql) [x, y]) /\ (∀ (x y : E), E.ge x y = E.pr (.icmp .geq) [x, y]) /\ (∀ (x y : E), E.gt x y = E.pr (.icmp .gtr) [x, y]) /\ (∀ (x y : E), E.ne x y = E.pr (.icmp .neq) [x, y]) /\ (∀ (x : E), E.r3 x = E.pr .row [.pr (.cell 0) [x], .pr (.cell 1) [x], .pr (.cell 2) [x]]) /\ (Tree.no = Tree.leaf (.ret (.lit (.bool false)))) /\ (Tree.ye = Tree.leaf (.ret (.lit (.bool true)))) /\ (∀ (x : E), Tree.rt x = Tree.leaf (.ret x)) /\ (∀ (j : Nat) (x : List E), Tree.g j x = Tree.leaf (.go j x)) := ⟨rfl, rfl, rfl, rfl, rfl, rfl, rfl, rfl, rfl, fun _ => rfl, fun _ _ => rfl, fun _ => rfl, fun _ _ => rfl, fun _ _ => rfl, fun _ _ => rfl, fun _ _ => rfl, fun _ _ => rfl, fun _ _ => rfl, fun _ _ => rfl, fun _ => rfl, rfl, rfl, fun _ => rfl, fun _ _ => rfl⟩
theorem dn : type_of% (And.intro @den1 (And.intro @den2 (And.intro @den3 (And.intro @den4 (And.intro @den5 (And.intro @den6 (And.intro @den7 (And.intro @den8 (And.intro @Bool.not_eq_true' (And.intro @Bool.not_eq_false' (And.intro @true_and (And.intro @and_true (dt))))))))))))) := And.intro @den1 (And.intro @den2 (And.intro @den3 (And.intro @den4 (And.intro @den5 (And.intro @den6 (And.intro @den7 (And.intro @den8 (And.intro @Bool.not_eq_true' (And.intro @Bool.not_eq_false' (And.intro @true_and (And.intro @and_true (dt))))))))))))
end Go.Ab
/- The seat's functions by their ways: what is asked for one of them, and what all share. -/
namespace Go.Proofs.YtflhikakndanjaaDoor.Vk
open Go Go.Ab Go.RowKit
theorem noNum : NoNum Tryd.prog := by
 have h : (Tryd.prog.funcs.all fun fn => !(fn.name == "runtime.NumGoroutine")) = true := by kernel_rfl
 intro f fn hf
 have := Array.all_eq_true_iff_forall_mem.1 h fn (Array.mem_of_getElem? hf)
 simpa using this
noncomputable def tabs : List (Nat × List Value) := laidTabs Tryd.prog Rows.numRoundRow.laid
theorem tabs_nodup : (tabs.map (·.1)).Nodup := of_decide_eq_true (by kernel_rfl)
theorem tabs_plain : (tabs.all fun x => x.2.all scalar) = true := by kernel_rfl
def tb : List (Nat × List CT) := [(29, [.sc (.i .i64), .sc .b, .sc .b, .sc .s, .sc (.i .i64), .sc (.i .u64), .sc .s, .sl 9, .sl 29]), (9, [.sc .s]), (24, [.sc .b, .sc .s, .sc (.i .i64)]), (55, [.sc (.i .i64), .sl 9, .sl 55]), (3, [.sc (.i .i64)]), (5, [.sc (.i .u8)])]
def muL : List Nat := [93, 91, 45, 44, 46]
def muF (f : Nat) : Bool := muL.any (Nat.beq f)
def q_numcheck : Sig := { f := 42, g := 5, args := [(.row 24)], res := [(.cell (.sc (.i .i64)))] }
def q_trim : Sig := { f := 121, g := 6, args := [(.cell (.sc .s)), (.lit (mkS [48, 49, 50, 51, 52, 53, 54, 55, 56, 57]))], res := [(.cell (.sc .s))] }
def q_repeat : Sig := { f := 86, g := 20, args := [(.lit (mkS [48])), (.cell (.sc (.i .i64)))], res := [(.cell (.sc .s))] }
def q_rall : Sig := { f := 135, g := 36, args := [(.cell (.sc .s))], res := [(.cell (.sc .b))] }
def q_rzeros : Sig := { f := 89, g := 37, args := [(.cell (.sc (.i .i64)))], res := [(.cell (.sc .s))] }
def q_trimzero : Sig := { f := 80, g := 78, args := [(.cell (.sc .s)), (.lit (mkS [48]))], res := [(.cell (.sc .s))] }
def q_trimrzero : Sig := { f := 128, g := 79, args := [(.cell (.sc .s)), (.lit (mkS [48]))], res := [(.cell (.sc .s))] }
def q_nmade : Sig := { f := 82, g := 88, args := [(.cell (.sc .b)), (.cell (.sc .s)), (.cell (.sc (.i .i64)))], res := [(.row 24), (.cell (.sc (.i .i64)))] }
def q_nisint : Sig := { f := 49, g := 93, args := [(.row 24)], res := [(.cell (.sc .b))] }
def q_nof : Sig := { f := 45, g := 94, args := [(.cell (.sc .b)), (.cell (.sl 5))], res := [(.row 24), (.cell (.sc (.i .i64)))] }
def q_nbytes : Sig := { f := 44, g := 95, args := [(.row 24)], res := [(.cell (.sl 5)), (.cell (.sc (.i .i64)))] }
def q_qis : Sig := { f := 88, g := 96, args := [(.row 24)], res := [(.cell (.sc .b))] }
def q_qmade : Sig := { f := 85, g := 98, args := [(.cell (.sc .b)), (.cell (.sc .s)), (.cell (.sc (.i .i64)))], res := [(.row 24), (.cell (.sc .b))] }
def q_qisint : Sig := { f := 50, g := 108, args := [(.row 24)], res := [(.cell (.sc .b))] }
def q_qof : Sig := { f := 46, g := 109, args := [(.cell (.sc .b)), (.cell (.sl 5))], res := [(.row 24), (.cell (.sc (.i .i64)))] }
def q_qbytes : Sig := { f := 48, g := 110, args := [(.row 24)], res := [(.cell (.sl 5)), (.cell (.sc (.i .i64)))] }
def q_nawake : Sig := { f := 41, g := 112, args := [], res := [(.cell (.sc .b))] }
def q_nbyt : Sig := { f := 12, g := 115, args := [(.cell (.sc .b)), (.cell (.sl 5)), (.row 24)], res := [(.cell (.sc .b))] }
def q_reverse : SigM := { f := 93, g := 82, args := [.ar 5], res := [], back := [0], backE := [.ar 5], pan := none }
def special (g : Nat) : Bool := match g with | 20 | 21 | 23 | 24 | 25 | 26 | 33 | 35 | 37 | 38 | 39 | 43 | 47 | 49 | 50 | 51 | 56 | 64 | 65 | 68 | 69 | 80 | 81 | 82 | 90 | 94 | 98 | 100 | 101 | 102 | 105 | 106 | 109 | 111 | 127 | 130 | 132 | 133 | 134 | 135 | 137 | 139 => true | _ => false
def needK (g : Nat) (es : List E) : List E := bif special g then [.app 1000 es, .app (2000 + g) es] else [.app 1000 es]
noncomputable def orcL : List Sig -> Ab.Call
 | [] => noOrc
 | q :: r => orElse (ctrOrc tb q (needK q.g)) (orElse (lendOrc tb q (needK q.g)) (orcL r))
noncomputable def selfL (deps : List Sig) : Ab.Call := evFn Tryd.prog (tabsG tabs) muF (evDrawnX Tryd.prog (tabsG tabs)) 400 (orcL deps) 40
noncomputable def runL (deps : List Sig) : Code -> Tm -> St -> Option (Ex × Tm × St) := evCode Tryd.prog (tabsG tabs) (evDrawnX Tryd.prog (tabsG tabs)) (selfL deps) false 400
noncomputable def checkHeads (q : Sig) (fn : Func) (c : Code) (deps : List Sig) (heads : List Hd) : List Tree -> Nat -> Bool
 | [], j => Nat.beq heads.length j
 | t :: r, j => t.ok (runHead Tryd.prog (tabsG tabs) muF (runL deps) tb q fn c heads 400 j) [] && checkHeads q fn c deps heads r (j + 1)
noncomputable def check (q : Sig) (deps : List Sig) (heads : List Hd) (entry : Tree) (trees : List Tree) : Bool :=
 match Tryd.prog.funcs[q.f]? with
 | some fn =>
  match fn.body with
  | some c => Nat.ble (q.args.length + fn.ntmps) Tr.lid && (heads.all fun h => Nat.ble h.ents.length Tr.lid) && entry.ok (runEntry Tryd.prog (tabsG tabs) muF (runL deps) tb q fn c heads 400) [] && checkHeads q fn c deps heads trees 0
  | none => false
 | none => false
section
variable [Interp]
abbrev Ok (q : Sig) (pre : List D -> Prop) : Prop := FnOk Tryd.prog tabs tb q pre
def okS (n g : Nat) (ds : List D) : Prop := okD n ds /\ (special g = true -> Interp.phi (2000 + g) ds = .v (.bool true))
theorem Ok.less {q : Sig} {p p' : List D -> Prop} (h : Ok q p) (hp : ∀ ds, p' ds -> p ds) : Ok q p' := fun W J vs ds hL hI ha h' => h W J vs ds hL hI ha (hp _ h')
theorem okS_of {q : Sig} {n : Nat} (h : Ok q (okD n)) : Ok q (okS n q.g) := h.less fun _ h => h.1
theorem orcL_ok {n : Nat} (hphi : ∀ ds, Interp.phi 1000 ds = .v (.bool true) -> okD n ds) {B0 : Nat} {w0 : World} : ∀ {l : List Sig}, (∀ q, q ∈ l -> Ok q (okS n q.g)) -> CallOk Tryd.prog (tabsG tabs) B0 w0 (orcL l)
 | [], _ => noOrc_ok
 | q :: r, h => by
  have hp : ∀ (env : Nat -> D) (es : List E), (∀ e ∈ needK q.g es, e.den env = .v (.bool true)) -> okS n q.g (E.denL env es) := fun env es hn => by
   unfold needK at hn
   cases hs : special q.g with
   | false =>
    rw [hs] at hn
    have := hn _ (List.mem_singleton.2 rfl)
    exact ⟨hphi _ (by simpa only [E.den] using this), fun h => by rw [hs] at h; cases h⟩
   | true =>
    rw [hs] at hn
    have h1 := hn _ (List.mem_cons_self ..)
    have h2 := hn _ (List.mem_cons_of_mem _ (List.mem_singleton.2 rfl))
    exact ⟨hphi _ (by simpa only [E.den] using h1), fun _ => by simpa only [E.den] using h2⟩
  exact orElse_ok (ctrOrc_ok tabs_nodup tabs_plain (h q (List.mem_cons_self ..)) hp) (orElse_ok (lendOrc_ok tabs_nodup tabs_plain (h q (List.mem_cons_self ..)) hp) (orcL_ok hphi fun q' hq' => h q' (List.mem_cons_of_mem _ hq')))
theorem checkHeads_get {q : Sig} {fn : Func} {c : Code} {deps : List Sig} {heads : List Hd} : ∀ {trees : List Tree} {j : Nat}, checkHeads q fn c deps heads trees j = true -> heads.length = j + trees.length /\ ∀ (i : Nat) (t : Tree), trees[i]? = some t -> t.ok (runHead Tryd.prog (tabsG tabs) muF (runL deps) tb q fn c heads 400 (j + i)) [] = true
 | [], j, h => ⟨by unfold checkHeads at h; rw [nbe h]; rfl, fun i t ht => by simp at ht⟩
 | t :: r, j, h => by
  unfold checkHeads at h
  rw [Bool.and_eq_true] at h
  obtain ⟨k1, k2⟩ := checkHeads_get h.2
  refine ⟨by rw [k1, List.length_cons]; omega, fun i t' ht => ?_⟩
  cases i with
  | zero => simp only [List.getElem?_cons_zero, Option.some.injEq] at ht; subst ht; exact h.1
  | succ i =>
   have := k2 i t' (by simpa using ht)
   rw [show j + 1 + i = j + (i + 1) by omega] at this; exact this
theorem fn_okS {n : Nat} (hphi : ∀ ds, Interp.phi 1000 ds = .v (.bool true) -> okD n ds) {q : Sig} {deps : List Sig} {heads : List Hd} {entry : Tree} {trees : List Tree} (hc : check q deps heads entry trees = true) (hdeps : ∀ q, q ∈ deps -> Ok q (okS n q.g)) {pre : List D -> Prop} (Inv : Nat -> D -> List D -> Prop) (meas : Nat -> List D -> Nat)
  (h0 : ∀ ds, FitL tb q.args ds -> pre ds -> entry.holds (fun o => match o with | .ret d => d = Interp.phi q.g ds | .go j es => Inv j (Interp.phi q.g ds) es) (envOf ds))
  (hj : ∀ j h t d ds, heads[j]? = some h -> trees[j]? = some t -> FitE tb h.ents ds -> Inv j d ds -> t.holds (fun o => match o with | .ret x => x = d | .go i es => Inv i d es /\ meas i es < meas j ds) (envOf ds)) : Ok q pre := by
 unfold check at hc
 split at hc
 ·rename_i fn hfn
  split at hc
  ·rename_i c hb
   simp only [Bool.and_eq_true] at hc
   obtain ⟨⟨⟨c1, c2⟩, c3⟩, c4⟩ := hc
   obtain ⟨k1, k2⟩ := checkHeads_get c4
   rw [Nat.zero_add] at k1
   have hget : ∀ j h, heads[j]? = some h -> ∃ t, trees[j]? = some t := fun j h hj => ⟨_, List.getElem?_eq_getElem (by rw [<- k1]; exact (List.getElem?_eq_some_iff.1 hj).1)⟩
   refine fnOk_tree (mu := muF) (orc := orcL deps) (K := 400) (k := 40) (fuel := 400) noNum Tryd.checked.mixed (fun B0 w0 => orcL_ok hphi hdeps) tabs_nodup tabs_plain hfn hb c1 heads c2 entry (fun j => (trees[j]?).getD .dead) c3 (fun j h hh => ?_) Inv meas h0 (fun j h d ds hh hf hi => ?_)
   ·obtain ⟨t, ht⟩ := hget j h hh
    have := k2 j t ht
    rw [Nat.zero_add] at this
    rw [ht]; exact this
   ·obtain ⟨t, ht⟩ := hget j h hh
    rw [ht]
    exact hj j h t d ds hh ht hf hi
  ·cases hc
 ·cases hc
theorem fn_ok {n : Nat} (hphi : ∀ ds, Interp.phi 1000 ds = .v (.bool true) -> okD n ds) {q : Sig} {deps : List Sig} {heads : List Hd} {entry : Tree} {trees : List Tree} (hc : check q deps heads entry trees = true) (hdeps : ∀ q, q ∈ deps -> Ok q (okD n)) {pre : List D -> Prop} (Inv : Nat -> D -> List D -> Prop) (meas : Nat -> List D -> Nat)
  (h0 : ∀ ds, FitL tb q.args ds -> pre ds -> entry.holds (fun o => match o with | .ret d => d = Interp.phi q.g ds | .go j es => Inv j (Interp.phi q.g ds) es) (envOf ds))
  (hj : ∀ j h t d ds, heads[j]? = some h -> trees[j]? = some t -> FitE tb h.ents ds -> Inv j d ds -> t.holds (fun o => match o with | .ret x => x = d | .go i es => Inv i d es /\ meas i es < meas j ds) (envOf ds)) : Ok q pre :=
 fn_okS hphi hc (fun q hq => okS_of (hdeps q hq)) Inv meas h0 hj
abbrev OkM (q : SigM) (pre : List D -> Prop) : Prop := FnOkM Tryd.prog tabs tb q pre
def Goes (q : SigM) : Prop := q.pan.isSome = true -> ∀ ds, ∃ b : Bool, Interp.phi (3000 + q.g) ds = D.ofBool b /\ (b = true ↔ Interp.phi q.g ds ≠ .nil)
theorem OkM.less {q : SigM} {p p' : List D -> Prop} (h : OkM q p) (hp : ∀ ds, p' ds -> p ds) : OkM q p' := fun W J vs ds bs hL hI ha hn hd h' => h W J vs ds bs hL hI ha hn hd (hp _ h')
end
noncomputable def orcML : List SigM -> Ab.Call
 | [] => noOrc
 | q :: r => orElse (ctrOrcM tb q (needK q.g)) (orcML r)
noncomputable def selfN (deps : List Sig) (depsM : List SigM) : Ab.Call := evFn Tryd.prog (tabsG tabs) muF (evDrawnX Tryd.prog (tabsG tabs)) 400 (orElse (orcL deps) (orcML depsM)) 40
noncomputable def runN (deps : List Sig) (depsM : List SigM) : Code -> Tm -> St -> Option (Ex × Tm × St) := evCode Tryd.prog (tabsG tabs) (evDrawnX Tryd.prog (tabsG tabs)) (selfN deps depsM) false 400
noncomputable def checkHeadsN (run : Nat -> List E -> Option Out) : List Tree -> Nat -> Bool
 | [], j => true
 | t :: r, j => t.ok (run j) [] && checkHeadsN run r (j + 1)
noncomputable def checkN (q : Sig) (deps : List Sig) (depsM : List SigM) (heads : List Hd) (entry : Tree) (trees : List Tree) : Bool :=
 match Tryd.prog.funcs[q.f]? with
 | some fn =>
  match fn.body with
  | some c => Nat.beq heads.length trees.length && Nat.ble (q.args.length + fn.ntmps) Tr.lid && (heads.all fun h => Nat.ble h.ents.length Tr.lid) && entry.ok (runEntry Tryd.prog (tabsG tabs) muF (runN deps depsM) tb q fn c heads 400) [] && checkHeadsN (runHead Tryd.prog (tabsG tabs) muF (runN deps depsM) tb q fn c heads 400) trees 0
  | none => false
 | none => false
noncomputable def checkM (q : SigM) (deps : List Sig) (depsM : List SigM) (heads : List HdM) (entry : Tree) (trees : List Tree) : Bool :=
 match Tryd.prog.funcs[q.f]? with
 | some fn =>
  match fn.body with
  | some c => Nat.beq heads.length trees.length && Nat.ble (q.args.length + fn.ntmps) Tr.lid && (heads.all fun h => Nat.ble h.ents.length Tr.lid) && entry.ok (runEntryM Tryd.prog (tabsG tabs) muF (runN deps depsM) tb q fn c heads 400) [] && checkHeadsN (runHeadM Tryd.prog (tabsG tabs) muF (runN deps depsM) tb q fn c heads 400) trees 0
  | none => false
 | none => false
theorem checkHeadsN_get {run : Nat -> List E -> Option Out} : ∀ {trees : List Tree} {j : Nat}, checkHeadsN run trees j = true -> ∀ (i : Nat) (t : Tree), trees[i]? = some t -> t.ok (run (j + i)) [] = true
 | [], j, h => fun i t ht => by simp at ht
 | t :: r, j, h => by
  unfold checkHeadsN at h
  rw [Bool.and_eq_true] at h
  intro i t' ht
  cases i with
  | zero => simp only [List.getElem?_cons_zero, Option.some.injEq] at ht; subst ht; exact h.1
  | succ i =>
   have := checkHeadsN_get h.2 i t' (by simpa using ht)
   rw [show j + 1 + i = j + (i + 1) by omega] at this; exact this
section
variable [Interp]
theorem orcML_ok {n : Nat} (hphi : ∀ ds, Interp.phi 1000 ds = .v (.bool true) -> okD n ds) {B0 : Nat} {w0 : World} : ∀ {l : List SigM}, (∀ q, q ∈ l -> OkM q (okS n q.g) /\ Goes q) -> CallOk Tryd.prog (tabsG tabs) B0 w0 (orcML l)
 | [], _ => noOrc_ok
 | q :: r, h => orElse_ok (ctrOrcM_ok tabs_nodup tabs_plain (h q (List.mem_cons_self ..)).1 (fun env es hn => by
   unfold needK at hn
   cases hs : special q.g with
   | false =>
    rw [hs] at hn
    have := hn _ (List.mem_singleton.2 rfl)
    exact ⟨hphi _ (by simpa only [E.den] using this), fun h => by rw [hs] at h; cases h⟩
   | true =>
    rw [hs] at hn
    have h1 := hn _ (List.mem_cons_self ..)
    have h2 := hn _ (List.mem_cons_of_mem _ (List.mem_singleton.2 rfl))
    exact ⟨hphi _ (by simpa only [E.den] using h1), fun _ => by simpa only [E.den] using h2⟩) (h q (List.mem_cons_self ..)).2) (orcML_ok hphi fun q' hq' => h q' (List.mem_cons_of_mem _ hq'))
theorem fn_okN {n : Nat} (hphi : ∀ ds, Interp.phi 1000 ds = .v (.bool true) -> okD n ds) {q : Sig} {deps : List Sig} {depsM : List SigM} {heads : List Hd} {entry : Tree} {trees : List Tree} (hc : checkN q deps depsM heads entry trees = true) (hdeps : ∀ q, q ∈ deps -> Ok q (okS n q.g)) (hdepsM : ∀ q, q ∈ depsM -> OkM q (okS n q.g) /\ Goes q) {pre : List D -> Prop} (Inv : Nat -> D -> List D -> Prop) (meas : Nat -> List D -> Nat)
  (h0 : ∀ ds, FitL tb q.args ds -> pre ds -> entry.holds (fun o => match o with | .ret d => d = Interp.phi q.g ds | .go j es => Inv j (Interp.phi q.g ds) es) (envOf ds))
  (hj : ∀ j h t d ds, heads[j]? = some h -> trees[j]? = some t -> FitE tb h.ents ds -> Inv j d ds -> t.holds (fun o => match o with | .ret x => x = d | .go i es => Inv i d es /\ meas i es < meas j ds) (envOf ds)) : Ok q pre := by
 unfold checkN at hc
 split at hc
 ·rename_i fn hfn
  split at hc
  ·rename_i c hb
   simp only [Bool.and_eq_true] at hc
   obtain ⟨⟨⟨⟨c0, c1⟩, c2⟩, c3⟩, c4⟩ := hc
   have k1 := nbe c0
   have k2 := checkHeadsN_get c4
   have hget : ∀ j h, heads[j]? = some h -> ∃ t, trees[j]? = some t := fun j h hj => ⟨_, List.getElem?_eq_getElem (by rw [<- k1]; exact (List.getElem?_eq_some_iff.1 hj).1)⟩
   refine fnOk_tree (mu := muF) (orc := orElse (orcL deps) (orcML depsM)) (K := 400) (k := 40) (fuel := 400) noNum Tryd.checked.mixed (fun B0 w0 => orElse_ok (orcL_ok hphi hdeps) (orcML_ok hphi hdepsM)) tabs_nodup tabs_plain hfn hb c1 heads c2 entry (fun j => (trees[j]?).getD .dead) c3 (fun j h hh => ?_) Inv meas h0 (fun j h d ds hh hf hi => ?_)
   ·obtain ⟨t, ht⟩ := hget j h hh
    have := k2 j t ht
    rw [Nat.zero_add] at this
    rw [ht]; exact this
   ·obtain ⟨t, ht⟩ := hget j h hh
    rw [ht]
    exact hj j h t d ds hh ht hf hi
  ·cases hc
 ·cases hc
theorem fn_okM {n : Nat} (hphi : ∀ ds, Interp.phi 1000 ds = .v (.bool true) -> okD n ds) {q : SigM} {deps : List Sig} {depsM : List SigM} {heads : List HdM} {entry : Tree} {trees : List Tree} (hc : checkM q deps depsM heads entry trees = true) (hdeps : ∀ q, q ∈ deps -> Ok q (okS n q.g)) (hdepsM : ∀ q, q ∈ depsM -> OkM q (okS n q.g) /\ Goes q) {pre : List D -> Prop} (Inv : Nat -> D -> List D -> Prop) (meas : Nat -> List D -> Nat)
  (h0 : ∀ ds, FitE tb q.args ds -> pre ds -> entry.holds (fun o => match o with | .ret d => d = Interp.phi q.g ds | .go j es => Inv j (Interp.phi q.g ds) es) (envOf ds))
  (hj : ∀ j h t d ds, heads[j]? = some h -> trees[j]? = some t -> FitE tb h.ents ds -> Inv j d ds -> t.holds (fun o => match o with | .ret x => x = d | .go i es => Inv i d es /\ meas i es < meas j ds) (envOf ds)) : OkM q pre := by
 unfold checkM at hc
 split at hc
 ·rename_i fn hfn
  split at hc
  ·rename_i c hb
   simp only [Bool.and_eq_true] at hc
   obtain ⟨⟨⟨⟨c0, c1⟩, c2⟩, c3⟩, c4⟩ := hc
   have k1 := nbe c0
   have k2 := checkHeadsN_get c4
   have hget : ∀ j h, heads[j]? = some h -> ∃ t, trees[j]? = some t := fun j h hj => ⟨_, List.getElem?_eq_getElem (by rw [<- k1]; exact (List.getElem?_eq_some_iff.1 hj).1)⟩
   refine fnOkM_tree (mu := muF) (orc := orElse (orcL deps) (orcML depsM)) (K := 400) (k := 40) (fuel := 400) noNum Tryd.checked.mixed (fun B0 w0 => orElse_ok (orcL_ok hphi hdeps) (orcML_ok hphi hdepsM)) tabs_nodup tabs_plain hfn hb c1 heads c2 entry (fun j => (trees[j]?).getD .dead) c3 (fun j h hh => ?_) Inv meas h0 (fun j h d ds hh hf hi => ?_)
   ·obtain ⟨t, ht⟩ := hget j h hh
    have := k2 j t ht
    rw [Nat.zero_add] at this
    rw [ht]; exact this
   ·obtain ⟨t, ht⟩ := hget j h hh
    rw [ht]
    exact hj j h t d ds hh ht hf hi
  ·cases hc
 ·cases hc
end
end Go.Proofs.YtflhikakndanjaaDoor.Vk
/- Types (a kind, names, parts) as Lean's own type; what fits, how large they are. -/
namespace Go.Ab
open Go
inductive Typ where
 | mk (kind : Int) (names : List ByteArray) (list : List Typ)
instance : Inhabited Typ := ⟨.mk 0 [] []⟩
namespace Typ
def kind : Typ -> Int | .mk k _ _ => k
def names : Typ -> List ByteArray | .mk _ n _ => n
def list : Typ -> List Typ | .mk _ _ l => l
end Typ
mutual
def Typ.toD : Typ -> D
 | .mk k ns l => .row [iD k, strsD ns, .lst (Typ.toDs l)]
def Typ.toDs : List Typ -> List D
 | [] => []
 | v :: r => v.toD :: Typ.toDs r
end
theorem toDsT_map : ∀ (l : List Typ), Typ.toDs l = l.map Typ.toD
 | [] => by unfold Typ.toDs; rfl
 | v :: r => by unfold Typ.toDs; rw [toDsT_map r]; rfl
abbrev typsD (l : List Typ) : D := .lst (l.map Typ.toD)
theorem toD_rowT (v : Typ) : v.toD = .row [iD v.kind, strsD v.names, typsD v.list] := by
 cases v with
 | mk k ns l => unfold Typ.toD; rw [toDsT_map]; rfl
theorem typ_ind {p : Typ -> Prop} (h : ∀ v, (∀ x, x ∈ v.list -> p x) -> p v) : ∀ v, p v := by
 intro v
 have key : ∀ (n : Nat) (v : Typ), SizeOf.sizeOf v < n -> p v := by
  intro n
  induction n with
  | zero => intro v hv; omega
  | succ n ih =>
   intro v hv
   refine h v fun x hx => ih x ?_
   have := List.sizeOf_lt_of_mem hx
   cases v with
   | mk k ns l =>
    rw [Typ.mk.sizeOf_spec] at hv
    show SizeOf.sizeOf x < n
    have : SizeOf.sizeOf x < SizeOf.sizeOf l := this
    omega
 exact key _ v (Nat.lt_succ_self _)
mutual
def D.typ1 : D -> Typ
 | .row [k, ns, l] => .mk k.int ns.strs (D.typs l)
 | _ => default
def D.typs : D -> List Typ
 | .lst l => D.typsL l
 | _ => []
def D.typsL : List D -> List Typ
 | [] => []
 | d :: r => d.typ1 :: D.typsL r
end
theorem typsL_map : ∀ (l : List D), D.typsL l = l.map D.typ1
 | [] => by unfold D.typsL; rfl
 | v :: r => by unfold D.typsL; rw [typsL_map r]; rfl
@[simp] theorem typ1_toD (v : Typ) : v.toD.typ1 = v := by
 induction v using typ_ind with
 | h v ih =>
  rw [toD_rowT]
  unfold D.typ1
  show Typ.mk v.kind (strsD v.names).strs (D.typs (typsD v.list)) = v
  rw [strs_strsD]
  unfold D.typs
  rw [typsL_map, List.map_map]
  have : v.list.map (D.typ1 ∘ Typ.toD) = v.list := by
   conv => rhs; rw [<- List.map_id v.list]
   exact List.map_congr_left fun x hx => ih x hx
  rw [this]
  cases v; rfl
@[simp] theorem typs_typsD (l : List Typ) : (typsD l).typs = l := by
 unfold D.typs
 rw [typsL_map, List.map_map]
 conv => rhs; rw [<- List.map_id l]
 exact List.map_congr_left fun x _ => typ1_toD x
section
variable {sh : Nat -> List CT}
end
end Go.Ab
/- What the functions come to, in plain Lean. -/
namespace Go.Proofs.YtflhikakndanjaaDoor.Vk
open Go Go.Ab Go.RowKit
abbrev wrap := IntKind.i64.wrap
def one : ByteArray := mkS [48]
def tenDigits : ByteArray := mkS [48, 49, 50, 51, 52, 53, 54, 55, 56, 57]

mutual
def depV : Val -> Int
 | .mk _ _ _ _ _ _ _ _ l => wrap (depL 0 l + 1)
def depL : Int -> List Val -> Int
 | acc, [] => acc
 | acc, v :: r => depL (if depV v > acc then depV v else acc) r
end
mutual
def sizV : Val -> Int
 | .mk _ _ _ _ _ _ _ _ l => sizL 1 l
def sizL : Int -> List Val -> Int
 | acc, [] => acc
 | acc, v :: r => sizL (wrap (acc + sizV v)) r
end
def trimV (s c : ByteArray) : ByteArray := ⟨(Lib.trimS s.data.toList c.data.toList).toArray⟩
def validV (s : ByteArray) : Bool := Lib.validD s.data.toList
def numV (neg : Bool) (d : ByteArray) (e : Int) : Int :=
 if neg = false /\ d = one /\ e = 0 then 0 else
 if d = ByteArray.empty then 10 else
 if ¬ trimV d tenDigits = ByteArray.empty then 10 else
 if 40 < (d.size : Int) then 10 else
 if (d.data.toList.getD 0 0).toNat = 48 then 10 else
 if d.extract (d.size - 1) d.size = one then 10 else
 if e < -400 then 10 else if 400 < e then 10 else 0
def namesV (seen : D) : List ByteArray -> Bool
 | [] => true
 | s :: r => if ((mfind (sD s) seen.rows).getD (bD false)).bool then false else if validV s then namesV (.lst (mput (sD s) (bD true) seen.rows)) r else false
def ixL {α : Type} (p : α -> Bool) : List α -> Nat -> Int
 | [], _ => -1
 | x :: r, i => if p x then (i : Int) else ixL p r (i + 1)
mutual
def formedV : Val -> Bool
 | .mk k f ng d e b t ns l =>
  if k = 1 then !f && (ng == false && eqS d .empty && eqI e 0) && eqI b 0 && eqS t .empty && ns.length == 0 && l.length == 0
  else if k = 2 then (ng == false && eqS d .empty && eqI e 0) && eqI b 0 && eqS t .empty && ns.length == 0 && l.length == 0
  else if k = 3 then eqI (numV ng d e) 0 && !f && eqI b 0 && eqS t .empty && ns.length == 0 && l.length == 0
  else if k = 4 then !f && (ng == false && eqS d .empty && eqI e 0) && eqS t .empty && ns.length == 0 && l.length == 0
  else if k = 5 then validV t && !f && (ng == false && eqS d .empty && eqI e 0) && eqI b 0 && ns.length == 0 && l.length == 0
  else if k = 6 then !f && (ng == false && eqS d .empty && eqI e 0) && eqI b 0 && ns.length == 0 && l.length == 0
  else if k = 7 then !f && (ng == false && eqS d .empty && eqI e 0) && eqI b 0 && eqS t .empty && ns.length == 0 && ltI (formedL l 0) 0
  else if k = 8 then ns.length == l.length && namesV (.lst []) ns && !f && (ng == false && eqS d .empty && eqI e 0) && eqI b 0 && eqS t .empty && ltI (formedL l 0) 0
  else if k = 9 then l.length == 1 && validV t && !f && (ng == false && eqS d .empty && eqI e 0) && eqI b 0 && ns.length == 0 && ltI (formedL l 0) 0
  else false
def formedL : List Val -> Nat -> Int
 | [], _ => -1
 | v :: r, i => if formedV v then formedL r (i + 1) else (i : Int)
end
mutual
def shortV : Val -> Bool
 | .mk k f ng d e b t ns l =>
  if (t.size : Int) > (if k = 9 then 64 else 4096) then false
  else if (l.length : Int) > 256 then false
  else if ixL (fun s : ByteArray => decide ((s.size : Int) > 64)) ns 0 ≥ 0 then false
  else !(decide (shortL l 0 ≥ 0))
def shortL : List Val -> Nat -> Int
 | [], _ => -1
 | v :: r, i => if shortV v then shortL r (i + 1) else (i : Int)
end
def checkV (v : Val) : Int := if formedV v then (if shortV v then (if 16 < depV v then 2 else if 4096 < sizV v then 2 else 0) else 2) else 40
noncomputable def eqV (a b : Val) : Bool := @decide (a = b) (Classical.propDecidable _)
noncomputable def eqVs (a b : List Val) : Bool := @decide (a = b) (Classical.propDecidable _)
def cmpZ (a b : Int) : Int := if a < b then -1 else if b < a then 1 else 0
def cmpS (a b : ByteArray) : Int := Lib.compareBytes a.data.toList b.data.toList
def zer (i : Int) : ByteArray := ⟨(List.replicate i.toNat (48 : UInt8)).toArray⟩
def levX (e e' : Int) : Int := if e' < e then e' else e
def levP (d : ByteArray) (e x : Int) : ByteArray := d ++ zer (wrap (e - x))
def levQ (p q : ByteArray) : ByteArray := zer (if wrap ((q.size : Int) - p.size) > 0 then wrap ((q.size : Int) - p.size) else 0) ++ p
def numcmpV (ng : Bool) (d : ByteArray) (e : Int) (ng' : Bool) (d' : ByteArray) (e' : Int) : Int × Int :=
 if ¬ numV ng d e = 0 then (0, 10) else if ¬ numV ng' d' e' = 0 then (0, 10) else
 if ng = ng' /\ d = d' /\ e = e' then (0, 0) else if ng = true /\ ng' = false then (-1, 0) else if ng = false /\ ng' = true then (1, 0) else
 let p := levP d e (levX e e'); let q := levP d' e' (levX e e'); let p := levQ p q; let q := levQ q p
 (if ng then wrap (-(cmpS p q)) else cmpS p q, 0)
def rowsG {α : Type} (c : α -> α -> Int) : List α -> List α -> Int
 | [], [] => 0
 | [], _ :: _ => -1
 | _ :: _, [] => 1
 | x :: r, y :: t => if c x y = 0 then rowsG c r t else c x y
def pairC (c : Val -> Val -> Int) (p q : ByteArray × Val) : Int := if cmpS p.1 q.1 = 0 then c p.2 q.2 else cmpS p.1 q.1
mutual
def hgt : Val -> Nat
 | .mk _ _ _ _ _ _ _ _ l => hgts l + 1
def hgts : List Val -> Nat
 | [] => 0
 | v :: r => max (hgt v) (hgts r)
end
def orderF : Nat -> Val -> Val -> Int
 | 0, _, _ => 0
 | n + 1, a, b =>
  if a.kind < b.kind then -1 else if b.kind < a.kind then 1 else
  if a.kind = 2 then (if a.flag = b.flag then 0 else if b.flag then -1 else 1)
  else if a.kind = 3 then (numcmpV a.neg a.dig a.exp b.neg b.dig b.exp).1
  else if a.kind = 4 then cmpZ a.bits b.bits
  else if a.kind = 5 then cmpS a.text b.text
  else if a.kind = 6 then cmpS a.text b.text
  else if a.kind = 8 then rowsG (pairC (orderF n)) (a.names.zip a.list) (b.names.zip b.list)
  else if a.kind = 9 then (if cmpS a.text b.text = 0 then rowsG (orderF n) a.list b.list else cmpS a.text b.text)
  else rowsG (orderF n) a.list b.list
def orderV (a b : Val) : Int := orderF (hgt a) a b
def vcmpV (a b : Val) : Int × Int := if ¬ checkV a = 0 then (0, checkV a) else if ¬ checkV b = 0 then (0, checkV b) else (orderV a b, 0)
def good (v : Val) : Bool := formedV v && shortV v
def digV (s : ByteArray) : Bool := (s.data.toList.all fun c => decide (48 <= c.toNat /\ c.toNat <= 57)) && decide (s.data.toList ≠ [])
def plainV (v : Val) : Bool := decide (1 <= v.kind /\ v.kind <= 9 /\ (v.kind ≠ 2 -> v.flag = false) /\ (v.kind ≠ 3 -> v.neg = false /\ v.dig = .empty /\ v.exp = 0) /\ (v.kind ≠ 4 -> v.bits = 0) /\ (v.kind ≠ 5 -> v.kind ≠ 6 -> v.kind ≠ 9 -> v.text = .empty) /\ (v.kind ≠ 8 -> v.names.length = 0) /\ (v.kind < 7 -> v.list.length = 0))
def ownV (v : Val) : Bool :=
 if v.kind = 3 then decide (numV v.neg v.dig v.exp = 0) else
 if v.kind = 5 then validV v.text else
 if v.kind = 9 then validV v.text && decide (v.list.length = 1) else
 if v.kind = 8 then v.names.all validV && decide (v.names.length = v.list.length) && decide v.names.Nodup else true
def numbV (s : ByteArray) (n : Int) : Int :=
 if n = 1 then ((s.data.toList.getD 0 0).toNat : Int) else
 ((s.data.toList.take n.toNat).drop 1).foldl (fun a c => wrap (wrap (64 * a) + (c.toNat : Int).tmod 64)) (((s.data.toList.getD 0 0).toNat : Int).tmod ((128 : Int).fdiv (2 ^ (min n.toNat 64))))
def c8 (i : Int) : UInt8 := UInt8.ofNat (IntKind.u8.wrap i).toNat
def encV (r : Int) : ByteArray :=
 if r < 128 then ⟨#[c8 r]⟩ else
 if r < 2048 then ⟨#[c8 (wrap (192 + wrap (r.tdiv 64))), c8 (wrap (128 + r.tmod 64))]⟩ else
 if r < 65536 then ⟨#[c8 (wrap (224 + wrap (r.tdiv 4096))), c8 (wrap (128 + (wrap (r.tdiv 64)).tmod 64)), c8 (wrap (128 + r.tmod 64))]⟩ else
 ⟨#[c8 (wrap (240 + wrap (r.tdiv 262144))), c8 (wrap (128 + (wrap (r.tdiv 4096)).tmod 64)), c8 (wrap (128 + (wrap (r.tdiv 64)).tmod 64)), c8 (wrap (128 + r.tmod 64))]⟩
def longV (c : Nat) : Int := if c < 128 then 1 else if 192 <= c /\ c < 224 then 2 else if 224 <= c /\ c < 240 then 3 else if 240 <= c /\ c < 248 then 4 else 0
def isR (r : Int) : Bool := decide (0 <= r /\ r <= 1114111 /\ (r < 55296 \/ 57343 < r))
def headOk (t : ByteArray) (n : Int) : Bool := isR (numbV t n) && decide (encV (numbV t n) = t.extract 0 n.toNat)
def padV (t : ByteArray) (n : Nat) (c : UInt8) : ByteArray := t ++ ⟨(List.replicate (n - t.size) c).toArray⟩
def chkV (s : ByteArray) (n r : Int) : Bool := isR r && (decide ((encV r).extract 0 (min s.size (encV r).size) = s) && decide (((encV r).size : Int) = n))
def leastV (n : Nat) : Int := [0, 0, 128, 2048, 65536].getD n 0
def beginsV (s : ByteArray) : Bool :=
 let n := longV (s.data.toList.getD 0 0).toNat
 if n <= s.size then false else
 let a := numbV (padV s n.toNat 128) n
 let b := numbV (padV s n.toNat 191) n
 if chkV s n a then true else if chkV s n b then true else
 decide (a <= leastV n.toNat) && (decide (leastV n.toNat <= b) && decide ((encV (leastV n.toNat)).extract 0 s.size = s))
def decV (s : ByteArray) (i : Int) : Int × Int × Int :=
 if i < 0 then (0, 0, 1) else if (s.size : Int) <= i then (0, 0, 1) else
 let t := s.extract i.toNat s.size
 let n := longV (t.data.toList.getD 0 0).toNat
 if 0 < n /\ n <= t.size /\ headOk t n = true then (numbV t n, n, 0) else if (t.size : Int) < n /\ beginsV t = true then (0, 0, 31) else (0, 0, 30)
def countF : Nat -> ByteArray -> Int -> Int -> Int × Int
 | 0, _, c, _ => (c, 0)
 | k + 1, s, c, i => if i < s.size then (if (decV s i).2.2 = 0 then countF k s (wrap (c + 1)) (wrap (i + (decV s i).2.1)) else (0, (decV s i).2.2)) else (c, 0)
def partsN (most : Int) : Int -> List ByteArray -> Int
 | n, [] => n
 | n, s :: r => if n <= most then partsN most (wrap (n + s.size)) r else n
mutual
def partsV (most : Int) : Int -> Int -> Val -> Int
 | n, within, .mk k f ng d e b t ns l =>
  if within > 300 then wrap (most + 1) else partsL most within (partsN most (wrap (wrap (wrap (wrap (n + 1) + t.size) + d.size) + ns.length)) ns) l
def partsL (most : Int) (within : Int) : Int -> List Val -> Int
 | n, [] => n
 | n, v :: r => if n <= most then partsL most within (partsV most n (wrap (within + 1)) v) r else n
end
mutual
def manyV : Val -> Bool
 | .mk k f ng d e b t ns l => if (ns.length : Int) > 2000 then true else manyL l
def manyL : List Val -> Bool
 | [] => false
 | v :: r => if manyV v then true else manyL r
end
def idxI (s : ByteArray) : List ByteArray -> Nat -> Int
 | [], _ => -1
 | x :: r, i => if s = x then (i : Int) else idxI s r (i + 1)
def placesL : List ByteArray -> Nat -> List D -> List D
 | [], _, m => m
 | s :: r, i, m => placesL r (i + 1) (mput (sD s) (iD i) m)
mutual
def formedT : Typ -> Bool
 | .mk k ns l =>
  if k = 9 then ns.length == 0 && l.length == 1 && ltI (formedTL l 0) 0
  else if k = 10 \/ k = 11 then ns.length == l.length && decide ns.Nodup && ltI (ixL (fun s => !validV s) ns 0) 0 && ltI (formedTL l 0) 0
  else decide (1 <= k /\ k <= 8) && ns.length == 0 && l.length == 0
def formedTL : List Typ -> Nat -> Int
 | [], _ => -1
 | t :: r, i => if formedT t then formedTL r (i + 1) else (i : Int)
end
mutual
def spanT : Typ -> Int × Int × Bool
 | .mk k ns l =>
  let s := spanTL l (0, 1, if (l.length : Int) <= 256 then !decide (ixL (fun s : ByteArray => decide ((s.size : Int) > 64)) ns 0 ≥ 0) else false)
  (wrap (s.1 + 1), s.2.1, s.2.2)
def spanTL : List Typ -> Int × Int × Bool -> Int × Int × Bool
 | [], acc => acc
 | t :: r, acc => spanTL r (if (spanT t).1 > acc.1 then (spanT t).1 else acc.1, wrap (acc.2.1 + (spanT t).2.1), acc.2.2 && (spanT t).2.2)
end
def checkT (t : Typ) : Int := if formedT t then (if (spanT t).2.2 then (if (spanT t).1 > 16 then 2 else if (spanT t).2.1 > 4096 then 2 else 0) else 2) else 110
mutual
def hgtT : Typ -> Nat
 | .mk _ _ l => hgtTs l + 1
def hgtTs : List Typ -> Nat
 | [] => 0
 | v :: r => max (hgtT v) (hgtTs r)
end
def kindsT (k : Int) : Int := [0, 0, 1, 2, 3, 3, 4, 5, 6].getD k.toNat 0
def optB {α : Type} (o : Option α) (f : α -> Bool) : Bool := match o with | some x => f x | none => false
def hasF : Nat -> Typ -> Val -> Bool
 | 0, _, _ => false
 | n + 1, t, v =>
  if t.kind = 1 then true
  else if t.kind = 9 then decide (v.kind = 7) && optB t.list[0]? fun x => v.list.all (hasF n x)
  else if t.kind = 10 then decide (v.kind = 8) && decide (v.names = t.names) && (t.list.zip v.list).all fun p => hasF n p.1 p.2
  else if t.kind = 11 then decide (v.kind = 9) && (decide (0 <= idxI v.text t.names 0) && optB t.list[(idxI v.text t.names 0).toNat]? fun x => optB v.list[0]? (hasF n x))
  else decide (v.kind = kindsT t.kind) && (decide (t.kind ≠ 5) || decide (v.exp ≥ 0))
def hasT (t : Typ) (v : Val) : Bool := hasF (hgtT t) t v
def subF : Nat -> Typ -> Typ -> Bool
 | 0, _, _ => false
 | n + 1, a, b =>
  if b.kind = 1 \/ (a.kind = 5 /\ b.kind = 4) then true
  else if a.kind ≠ b.kind then false
  else if a.kind = 11 then (a.names.zip a.list).all fun p => decide (0 <= idxI p.1 b.names 0) && optB b.list[(idxI p.1 b.names 0).toNat]? (subF n p.2)
  else decide (a.names = b.names) && (decide (a.list.length = b.list.length) && (a.list.zip b.list).all fun p => subF n p.1 p.2)
def subT (a b : Typ) : Bool := subF (hgtT a) a b
def HasT (t : Typ) (v : Val) : Bool × Int := if ¬ checkT t = 0 then (false, checkT t) else if ¬ checkV v = 0 then (false, checkV v) else (hasT t v, 0)
def SubT (a b : Typ) : Bool × Int := if ¬ checkT a = 0 then (false, checkT a) else if ¬ checkT b = 0 then (false, checkT b) else (subT a b, 0)
mutual
def partsT (most : Int) : Int -> Int -> Typ -> Int
 | n, within, .mk k ns l => if within > 300 then wrap (most + 1) else partsTL most within (partsN most (wrap (wrap (n + 1) + ns.length)) ns) l
def partsTL (most : Int) (within : Int) : Int -> List Typ -> Int
 | n, [] => n
 | n, v :: r => if n <= most then partsTL most within (partsT most n (wrap (within + 1)) v) r else n
end
mutual
def wideT : Typ -> Bool
 | .mk k ns l => if (ns.length : Int) > 1000 then true else wideTL l
def wideTL : List Typ -> Bool
 | [] => false
 | v :: r => if wideT v then true else wideTL r
end
mutual
def smallV : Val -> Bool
 | .mk k f ng d e b t ns l => decide (ns.length <= 1000000) && decide (l.length <= 1000000) && smallL l
def smallL : List Val -> Bool
 | [] => true
 | v :: r => smallV v && smallL r
end
mutual
def smallT : Typ -> Bool
 | .mk k ns l => decide (ns.length <= 1000000) && decide (l.length <= 1000000) && smallTL l
def smallTL : List Typ -> Bool
 | [] => true
 | v :: r => smallT v && smallTL r
end
noncomputable def eqT (a b : Typ) : Bool := @decide (a = b) (Classical.propDecidable _)
def everyT : Typ := .mk 1 [] []
def pickT (b : Typ) (s : ByteArray) (t : Typ) : Option Typ :=
 match b.list[(idxI s b.names 0).toNat]? with
 | some u => if 0 <= idxI s b.names 0 then (if subT u t then some t else if subT t u then some u else none) else some t
 | none => some t
def pickL (b : Typ) : List (ByteArray × Typ) -> Option (List Typ)
 | [] => some []
 | p :: r => match pickT b p.1 p.2, pickL b r with
  | some t, some l => some (t :: l)
  | _, _ => none
def newN (a : List ByteArray) : List (ByteArray × Typ) -> List (ByteArray × Typ)
 | [] => []
 | p :: r => if 0 <= idxI p.1 a 0 then newN a r else p :: newN a r
def joinT (a b : Typ) : Typ :=
 if subT a b then b else if subT b a then a else if ¬ a.kind = 11 \/ ¬ b.kind = 11 then everyT else
 match pickL b (a.names.zip a.list) with
 | none => everyT
 | some l =>
  let out := Typ.mk 11 (a.names ++ (newN a.names (b.names.zip b.list)).map (·.1)) (l ++ (newN a.names (b.names.zip b.list)).map (·.2))
  if checkT out = 0 then out else everyT
def JoinT (a b : Typ) : Typ × Int := if ¬ checkT a = 0 then (.mk 0 [] [], checkT a) else if ¬ checkT b = 0 then (.mk 0 [] [], checkT b) else (joinT a b, 0)

def dvA : Nat -> List UInt8 -> Nat
 | acc, [] => acc
 | acc, x :: r => dvA (acc * 10 + (x.toNat - 48)) r
abbrev dv (l : List UInt8) : Nat := dvA 0 l
def Dig (l : List UInt8) : Prop := ∀ x, x ∈ l -> 48 <= x.toNat /\ x.toNat <= 57
def digs (n : Nat) : List UInt8 := if n = 0 then [] else digs (n / 10) ++ [UInt8.ofNat (48 + n % 10)]
termination_by n
decreasing_by omega
abbrev NumT := Bool × ByteArray × Int
def numD (t : NumT) : D := .row [bD t.1, sD t.2.1, iD t.2.2]
def toNum (d : D) : NumT := ((d.cells.getD 0 .nil).bool, (d.cells.getD 1 .nil).str, (d.cells.getD 2 .nil).int)
def cutLV (s c : ByteArray) : ByteArray := ⟨(Lib.trimLeftS s.data.toList c.data.toList).toArray⟩
def cutRV (s c : ByteArray) : ByteArray := ⟨(Lib.trimRightS s.data.toList c.data.toList).toArray⟩
def noNumT : NumT := (false, ByteArray.empty, 0)
def zeroT : NumT := (false, one, 0)
def formN (t : NumT) : Int := numV t.1 t.2.1 t.2.2
def madeV (ng : Bool) (d : ByteArray) (e : Int) : NumT × Int :=
 if cutLV d one = ByteArray.empty then (zeroT, 0) else
 let r := cutRV (cutLV d one) one
 let x := wrap (wrap (e + (cutLV d one).size) - r.size)
 if numV ng r x = 0 then ((ng, r, x), 0) else (noNumT, 2)
def valX (t : NumT) (x : Int) : Int := if t.1 then -((dv t.2.1.data.toList * 10 ^ (t.2.2 - x).toNat : Nat) : Int) else (dv t.2.1.data.toList * 10 ^ (t.2.2 - x).toNat : Nat)
def addV (t u : NumT) : NumT × Int :=
 if ¬ formN t = 0 then (noNumT, 10) else if ¬ formN u = 0 then (noNumT, 10) else
 let x := levX t.2.2 u.2.2
 let s := valX t x + valX u x
 madeV (decide (s < 0)) ⟨(digs s.natAbs).toArray⟩ x
def rowN : Nat -> Nat -> List UInt8
 | 0, _ => []
 | k + 1, m => rowN k (m / 10) ++ [UInt8.ofNat (48 + m % 10)]
def plusV (a b : ByteArray) : ByteArray :=
 let m := dv a.data.toList + dv b.data.toList
 ⟨((if 10 ^ a.size <= m then [49] else []) ++ rowN a.size (m % 10 ^ a.size)).toArray⟩
def minusV (a b : ByteArray) : ByteArray := ⟨(rowN a.size (dv a.data.toList - dv b.data.toList)).toArray⟩
def digsZ (n : Nat) : List UInt8 := if n = 0 then [48] else digs n
def smallText (i : Int) : ByteArray := (if i < 0 then ⟨#[45]⟩ else ByteArray.empty) ++ ⟨(digsZ i.natAbs).toArray⟩
def wholeT (i : Int) : NumT := (madeV (decide (i < 0)) ⟨(digsZ i.natAbs).toArray⟩ 0).1
def restV (s : ByteArray) : ByteArray := cutLV s tenDigits
def frontV (s : ByteArray) : ByteArray := s.extract 0 (s.size - (restV s).size)
def at0 (s : ByteArray) : Nat := (s.data.toList.getD 0 0).toNat
def tailV (s : ByteArray) : ByteArray := s.extract 1 s.size
def cutP (c : Nat) (s : ByteArray) : ByteArray := if at0 s = c then tailV s else s
def expU (s : ByteArray) : ByteArray := if at0 (tailV s) = 45 \/ at0 (tailV s) = 43 then tailV (tailV s) else tailV s
def expM (s : ByteArray) : Bool := decide (at0 (tailV s) = 45)
def dvM (u : ByteArray) : Int := if dv u.data.toList < 1000000 then (dv u.data.toList : Int) else 1000000
def expV (s : ByteArray) : Int × Bool :=
 if s = ByteArray.empty then (0, true) else
 if at0 s ≠ 101 /\ at0 s ≠ 69 then (0, false) else
 if digV (expU s) = false then (0, false) else
 (if expM s then -(dvM (expU s)) else dvM (expU s), true)
def parseV (s : ByteArray) : NumT × Int :=
 let t := if at0 s = 45 then tailV s else s
 let r := restV t
 if frontV t = ByteArray.empty then (noNumT, 10) else
 if 1 < (frontV t).size /\ at0 (frontV t) = 48 then (noNumT, 10) else
 let p := if at0 r = 46 then frontV (tailV r) else ByteArray.empty
 let q := if at0 r = 46 then restV (tailV r) else r
 if at0 r = 46 /\ p = ByteArray.empty then (noNumT, 10) else
 if (expV q).2 = false then (noNumT, 10) else
 if 512 < (s.size : Int) then (noNumT, 2) else
 madeV (decide (at0 s = 45)) (frontV t ++ p) (wrap ((expV q).1 - p.size))
def signV (b : Bool) : ByteArray := if b then mkS [45] else ByteArray.empty
def printC (d : ByteArray) (x : Int) : ByteArray := zer (if 0 < 1 - x - d.size then 1 - x - d.size else 0) ++ d
def printV (t : NumT) : ByteArray × Int :=
 if ¬ formN t = 0 then (ByteArray.empty, 10) else
 let d := t.2.1
 let x := t.2.2
 if 0 <= x /\ (d.size : Int) + x <= 21 then (signV t.1 ++ d ++ zer x, 0) else
 if x < 0 /\ -21 <= x then
  let c := printC d x
  (signV t.1 ++ c.extract 0 ((c.size : Int) + x).toNat ++ mkS [46] ++ c.extract ((c.size : Int) + x).toNat c.size, 0)
 else (signV t.1 ++ d.extract 0 1 ++ (if 1 < d.size then mkS [46] else ByteArray.empty) ++ d.extract 1 d.size ++ mkS [101] ++ smallText (x + d.size - 1), 0)
def bvA : Nat -> List UInt8 -> Nat
 | acc, [] => acc
 | acc, x :: r => bvA (acc * 256 + x.toNat) r
def bytL (d : D) : List UInt8 := d.rows.map fun r => UInt8.ofNat (r.cells.getD 0 .nil).int.toNat
def bytesD (l : List UInt8) : D := .lst (l.map fun c => .row [.v (.int .u8 c.toNat)])
def byts (n : Nat) : List UInt8 := if n = 0 then [] else byts (n / 256) ++ [UInt8.ofNat (n % 256)]
termination_by n
decreasing_by omega
def ofV (ng : Bool) (b : List UInt8) : NumT × Int := madeV ng ⟨(digs (bvA 0 b)).toArray⟩ 0
def bytesV (t : NumT) : List UInt8 × Int :=
 if ¬ formN t = 0 then ([], 10) else if t.2.2 < 0 then ([], 11) else if 40 < (t.2.1.size : Int) + t.2.2 then ([], 2) else
 (byts (dv t.2.1.data.toList * 10 ^ t.2.2.toNat), 0)

noncomputable def phiG (g : Nat) (ds : List D) : D :=
 let d0 := ds.getD 0 .nil
 let d1 := ds.getD 1 .nil
 match g with
 | 0 => iD (depV d0.val1)
 | 1 => iD (sizV d0.val1)
 | 2 => bD (formedV d0.val1)
 | 3 => iD (formedL d0.vals 0)
 | 4 => bD (namesV (.lst []) d0.strs)
 | 5 => iD (numV (d0.cells.getD 0 .nil).bool (d0.cells.getD 1 .nil).str (d0.cells.getD 2 .nil).int)
 | 6 => sD (trimV d0.str d1.str)
 | 7 => bD (validV d0.str)
 | 8 => bD (shortV d0.val1)
 | 9 => iD (ixL (fun s : ByteArray => decide ((s.size : Int) > 64)) d0.strs 0)
 | 10 => iD (shortL d0.vals 0)
 | 11 => iD (partsV (ds.getD 2 .nil).int d1.int (ds.getD 3 .nil).int d0.val1)
 | 12 => bD (manyV d0.val1)
 | 13 => iD (checkV d0.val1)
 | 14 => bD true
 | 15 => bD true
 | 16 => bD (decide (d0.strs = d1.strs))
 | 17 => bD (eqV d0.val1 d1.val1)
 | 18 => bD (eqVs d0.vals d1.vals)
 | 19 => iD (cmpS d0.str d1.str)
 | 20 => sD (zer d1.int)
 | 21 =>
  let x := levX (d0.cells.getD 2 .nil).int (d1.cells.getD 2 .nil).int
  let p := levP (d0.cells.getD 1 .nil).str (d0.cells.getD 2 .nil).int x
  let q := levP (d1.cells.getD 1 .nil).str (d1.cells.getD 2 .nil).int x
  .row [sD (levQ p q), sD (levQ q (levQ p q)), iD x]
 | 22 =>
  let r := numcmpV (d0.cells.getD 0 .nil).bool (d0.cells.getD 1 .nil).str (d0.cells.getD 2 .nil).int (d1.cells.getD 0 .nil).bool (d1.cells.getD 1 .nil).str (d1.cells.getD 2 .nil).int
  .row [iD r.1, iD r.2]
 | 23 => pairsD (d0.val1.names.zip d0.val1.list)
 | 24 => iD (orderV d0.val1 d1.val1)
 | 25 => iD (rowsG orderV d0.vals d1.vals)
 | 26 => iD (rowsG (pairC orderV) d0.pairs d1.pairs)
 | 27 => .row [iD (vcmpV d0.val1 d1.val1).1, iD (vcmpV d0.val1 d1.val1).2]
 | 44 => iD (depV d0.val1)
 | 45 => iD (sizV d0.val1)
 | 46 => bD (shortV d0.val1)
 | 48 => bD (eqV d0.val1 d1.val1)
 | 40 => bD (decide d0.strs.Nodup)
 | 36 => bD (digV d0.str)
 | 30 => bD (validV d0.str)
 | 42 => bD (ownV d0.val1)
 | 41 => bD (plainV d0.val1)
 | 43 => bD (formedV d0.val1)
 | 47 => iD (checkV d0.val1)
 | 35 => iD (numbV d0.str d1.int)
 | 34 => sD (encV d0.int)
 | 37 => sD (zer d0.int)
 | 38 => bD (decide (cmpS d0.str d1.str = -1))
 | 39 => bD (decide ((numcmpV (d0.cells.getD 0 .nil).bool (d0.cells.getD 1 .nil).str (d0.cells.getD 2 .nil).int (d1.cells.getD 0 .nil).bool (d1.cells.getD 1 .nil).str (d1.cells.getD 2 .nil).int).1 = -1))
 | 33 => bD (beginsV d0.str)
 | 32 => .row [iD (decV d0.str d1.int).1, iD (decV d0.str d1.int).2.1, iD (decV d0.str d1.int).2.2]
 | 31 => .row [iD (countF (d0.str.size + 1) d0.str 0 0).1, iD (countF (d0.str.size + 1) d0.str 0 0).2]
 | 49 => bD (decide (orderV d0.val1 d1.val1 = -1))
 | 50 => .row [iD (vcmpV d0.val1 d1.val1).1, iD (vcmpV d0.val1 d1.val1).2]
 | 54 => iD (longV d0.int.toNat)
 | 55 => bD (isR d0.int)
 | 56 =>
  let x := levX (d0.cells.getD 2 .nil).int (d1.cells.getD 2 .nil).int
  let p := levP (d0.cells.getD 1 .nil).str (d0.cells.getD 2 .nil).int x
  let q := levP (d1.cells.getD 1 .nil).str (d1.cells.getD 2 .nil).int x
  .row [sD (levQ p q), sD (levQ q (levQ p q)), iD x]
 | 53 => bD true
 | 57 => .row [.lst (placesL d0.strs 0 [])]
 | 58 => bD (formedT d0.typ1)
 | 59 => iD (ixL (fun s => !validV s) d0.strs 0)
 | 60 => iD (formedTL d0.typs 0)
 | 61 => .row [iD (spanT d0.typ1).1, iD (spanT d0.typ1).2.1, bD (spanT d0.typ1).2.2]
 | 62 => iD (ixL (fun s : ByteArray => decide ((s.size : Int) > 64)) d0.strs 0)
 | 63 => iD (checkT d0.typ1)
 | 64 => bD (hasT d0.typ1 d1.val1)
 | 65 => iD (ixL (fun v => !optB (d1.cells.getD 0 .nil).typ1.list[0]? fun x => hasT x v) d0.vals 0)
 | 66 => iD (idxI d1.str d0.strs 0)
 | 67 => .row [bD (HasT d0.typ1 d1.val1).1, iD (HasT d0.typ1 d1.val1).2]
 | 68 => bD (subT d0.typ1 d1.typ1)
 | 69 => bD (decide (d0.typs.length = d1.typs.length) && (d0.typs.zip d1.typs).all fun p => subT p.1 p.2)
 | 70 => iD (if ¬ checkT d0.typ1 = 0 then checkT d0.typ1 else checkT d1.typ1)
 | 71 => .row [bD (SubT d0.typ1 d1.typ1).1, iD (SubT d0.typ1 d1.typ1).2]
 | 72 => iD (partsT (ds.getD 2 .nil).int d1.int (ds.getD 3 .nil).int d0.typ1)
 | 73 => bD (wideT d0.typ1)
 | 74 => bD true
 | 75 => bD true
 | 76 => bD true
 | 120 => iD (idxI d1.str d0.strs 0)
 | 121 => bD (d0.strs.all validV && decide d0.strs.Nodup)
 | 122 => bD (formedT d0.typ1)
 | 123 => iD (spanT d0.typ1).1
 | 124 => iD (spanT d0.typ1).2.1
 | 125 => bD (spanT d0.typ1).2.2
 | 126 => iD (checkT d0.typ1)
 | 127 => bD (hasT d0.typ1 d1.val1)
 | 128 => .row [bD (HasT d0.typ1 d1.val1).1, iD (HasT d0.typ1 d1.val1).2]
 | 129 => bD (eqT d0.typ1 d1.typ1)
 | 130 => d0.typ1.toD
 | 131 => bD true
 | 77 => sD (cutLV d0.str d1.str)
 | 78 => sD (cutLV d0.str d1.str)
 | 79 => sD (cutRV d0.str d1.str)
 | 88 => let r := madeV d0.bool d1.str (ds.getD 2 .nil).int; .row [numD r.1, iD r.2]
 | 92 => let r := addV (toNum d0) (toNum d1); .row [numD r.1, iD r.2]
 | 96 => bD (decide (formN (toNum d0) = 0))
 | 97 => iD (formN (toNum d0))
 | 98 => let r := madeV d0.bool d1.str (ds.getD 2 .nil).int; .row [numD r.1, bD (decide (r.2 = 0))]
 | 102 => sD (smallText d0.int)
 | 111 => numD (wholeT d0.int)
 | 104 => let r := numcmpV (toNum d0).1 (toNum d0).2.1 (toNum d0).2.2 (toNum d1).1 (toNum d1).2.1 (toNum d1).2.2; .row [iD r.1, iD r.2]
 | 105 => sD (plusV d0.str d1.str)
 | 106 => sD (minusV d0.str d1.str)
 | 107 => let r := addV (toNum d0) (toNum d1); .row [numD r.1, iD r.2]
 | 114 => bD true
 | 80 => .row [iD (dv d0.str.data.toList)]
 | 81 => sD (smallText d0.int)
 | 87 => bD (digV d0.str)
 | 83 => .row [sD (cutP 45 d0.str), bD (decide (at0 d0.str = 45))]
 | 84 => .row [sD (cutP 46 d0.str), bD (decide (at0 d0.str = 46))]
 | 85 => bD (decide (at0 d0.str = 45))
 | 86 => bD (decide (at0 d0.str = 43))
 | 89 => .row [sD (frontV d0.str), sD (restV d0.str)]
 | 99 => .row [sD (frontV d0.str), sD (restV d0.str)]
 | 100 => .row [iD (expV d0.str).1, bD (expV d0.str).2]
 | 90 => .row [numD (parseV d0.str).1, iD (parseV d0.str).2]
 | 101 => .row [numD (parseV d0.str).1, iD (parseV d0.str).2]
 | 91 => .row [sD (printV (toNum d0)).1, iD (printV (toNum d0)).2]
 | 103 => .row [sD (printV (toNum d0)).1, iD (printV (toNum d0)).2]
 | 113 => bD true
 | 93 => bD (decide (formN (toNum d0) = 0 /\ 0 <= (toNum d0).2.2))
 | 108 => bD (decide (formN (toNum d0) = 0 /\ 0 <= (toNum d0).2.2))
 | 82 => .row [bytesD (bytL d0).reverse]
 | 94 => .row [numD (ofV d0.bool (bytL d1)).1, iD (ofV d0.bool (bytL d1)).2]
 | 109 => .row [numD (ofV d0.bool (bytL d1)).1, iD (ofV d0.bool (bytL d1)).2]
 | 95 => .row [bytesD (bytesV (toNum d0)).1, iD (bytesV (toNum d0)).2]
 | 110 => .row [bytesD (bytesV (toNum d0)).1, iD (bytesV (toNum d0)).2]
 | 115 => bD true
 | 116 => bD true
 | 112 => bD true
 | 118 => bD true
 | 117 => bD true
 | 119 => bD true
 | 132 => d0
 | 133 => d0
 | 134 => d0.typ1.toD
 | 135 => (joinT d0.typ1 d1.typ1).toD
 | 136 => .row [(JoinT d0.typ1 d1.typ1).1.toD, iD (JoinT d0.typ1 d1.typ1).2]
 | 137 => bD (subT d0.typ1 d1.typ1)
 | 138 => .row [bD (SubT d0.typ1 d1.typ1).1, iD (SubT d0.typ1 d1.typ1).2]
 | 139 => (joinT d0.typ1 d1.typ1).toD
 | 140 => .row [(JoinT d0.typ1 d1.typ1).1.toD, iD (JoinT d0.typ1 d1.typ1).2]
 | 141 => bD true
 | 142 => bD true
 | 51 => d0.val1.toD
 | 52 => bD true
 | 28 => bD true
 | 29 => bD true
 | _ => .nil
noncomputable def phiS (n : Nat) (g : Nat) (ds : List D) : D :=
 let d0 := ds.getD 0 .nil
 let d1 := ds.getD 1 .nil
 match g with
 | 2037 => bD (decide (0 <= d0.int /\ d0.int <= 1000000))
 | 2038 => bD (decide (d0.str.size = d1.str.size))
 | 2049 => bD (good d0.val1 && good d1.val1)
 | 2033 => bD (decide (0 < d0.str.size))
 | 2039 => bD (decide (numV (d0.cells.getD 0 .nil).bool (d0.cells.getD 1 .nil).str (d0.cells.getD 2 .nil).int = 0 /\ numV (d1.cells.getD 0 .nil).bool (d1.cells.getD 1 .nil).str (d1.cells.getD 2 .nil).int = 0))
 | 2035 => bD (decide (1 <= d1.int /\ d1.int <= 4 /\ d1.int <= d0.str.size))
 | 2043 => bD (decide (D.szL ds + 2 < n))
 | 2047 => bD (decide (D.szL ds + 4 < n))
 | 2050 => bD (decide (D.szL ds + 4 < n))
 | 2020 => bD (decide (0 <= d1.int /\ d1.int <= 1000000))
 | 2021 => bD (decide ((d0.cells.getD 1 .nil).str.size <= 40 /\ (d1.cells.getD 1 .nil).str.size <= 40 /\ -400 <= (d0.cells.getD 2 .nil).int /\ (d0.cells.getD 2 .nil).int <= 400 /\ -400 <= (d1.cells.getD 2 .nil).int /\ (d1.cells.getD 2 .nil).int <= 400))
 | 2056 => bD (decide ((d0.cells.getD 1 .nil).str.size <= 40 /\ (d1.cells.getD 1 .nil).str.size <= 40 /\ -400 <= (d0.cells.getD 2 .nil).int /\ (d0.cells.getD 2 .nil).int <= 400 /\ -400 <= (d1.cells.getD 2 .nil).int /\ (d1.cells.getD 2 .nil).int <= 400))
 | 2051 => bD (smallV d0.val1)
 | 2064 => bD (formedT d0.typ1 && formedV d1.val1)
 | 2127 => bD (formedT d0.typ1 && formedV d1.val1)
 | 2130 => bD (smallT d0.typ1)
 | 2105 => bD (decide (d0.str.size = d1.str.size /\ d0.str.size <= 10000) && (d0.str.data.toList.all (fun c => decide (48 <= c.toNat /\ c.toNat <= 57)) && d1.str.data.toList.all fun c => decide (48 <= c.toNat /\ c.toNat <= 57)))
 | 2106 => bD (decide (d0.str.size = d1.str.size /\ d0.str.size <= 10000 /\ dv d1.str.data.toList <= dv d0.str.data.toList) && (d0.str.data.toList.all (fun c => decide (48 <= c.toNat /\ c.toNat <= 57)) && d1.str.data.toList.all fun c => decide (48 <= c.toNat /\ c.toNat <= 57)))
 | 2098 => bD (decide (-1099511627776 <= (ds.getD 2 .nil).int /\ (ds.getD 2 .nil).int <= 1099511627776))
 | 2102 => bD (decide (-1099511627776 <= d0.int /\ d0.int <= 1099511627776))
 | 2111 => bD (decide (-1099511627776 <= d0.int /\ d0.int <= 1099511627776))
 | 2080 => bD (decide (d0.str.size <= 18) && digV d0.str)
 | 2081 => bD (decide (-400 <= d0.int /\ d0.int < 440))
 | 2090 => bD (decide (d0.str.size <= 1000000))
 | 2101 => bD (decide (d0.str.size <= 1000000))
 | 2082 => bD (@decide (∃ l : List UInt8, d0 = bytesD l /\ l.length <= 1000000) (Classical.propDecidable _))
 | 2094 => bD (@decide (∃ l : List UInt8, d1 = bytesD l /\ l.length <= 1000000) (Classical.propDecidable _))
 | 2109 => bD (@decide (∃ l : List UInt8, d1 = bytesD l /\ l.length <= 1000000) (Classical.propDecidable _))
 | 2100 => bD (decide (d0.str.size <= 1000000))
 | 2132 => bD (decide (d0.rows.length <= 1000000))
 | 2133 => bD (decide (d0.rows.length <= 1000000))
 | 2134 => bD (smallT d0.typ1)
 | 2135 => bD (formedT d0.typ1 && formedT d1.typ1 && (smallT d0.typ1 && smallT d1.typ1))
 | 2139 => bD (formedT d0.typ1 && formedT d1.typ1 && (smallT d0.typ1 && smallT d1.typ1))
 | 2137 => bD (formedT d0.typ1 && formedT d1.typ1)
 | 2065 => bD (formedT (d1.cells.getD 0 .nil).typ1 && (decide ((d1.cells.getD 0 .nil).typ1.list.length = 1) && d0.vals.all formedV))
 | 2068 => bD (formedT d0.typ1 && formedT d1.typ1)
 | 2069 => bD (d0.typs.all formedT && d1.typs.all formedT)
 | 2023 => bD (decide (d0.val1.names.length = d0.val1.list.length /\ d0.val1.list.length <= 256))
 | 2024 => bD (good d0.val1 && good d1.val1)
 | 2025 => bD (d0.vals.all good && d1.vals.all good)
 | 2026 => bD ((d0.pairs.all fun p => good p.2) && (d1.pairs.all fun p => good p.2))
 | 1000 => bD (@decide (okD n ds) (Classical.propDecidable _))
 | _ => .nil
noncomputable def phi (n : Nat) (g : Nat) (ds : List D) : D := bif Nat.ble 1000 g then phiS n g ds else phiG g ds
@[instance_reducible] noncomputable def I (n : Nat) : Interp := ⟨phi n⟩
theorem hphi (n : Nat) (ds : List D) (h : @Interp.phi (I n) 1000 ds = .v (.bool true)) : okD n ds := by
 have h : D.v (.bool (@decide (okD n ds) (Classical.propDecidable _))) = .v (.bool true) := h
 simp only [D.v.injEq, Value.bool.injEq, decide_eq_true_eq] at h
 exact h
theorem phi_irrel {n m g : Nat} (hg : g < 1000) (ds : List D) : phi n g ds = phi m g ds := by
 have h : Nat.ble 1000 g = false := by
  cases hb : Nat.ble 1000 g with
  | false => rfl
  | true => exact absurd (Nat.le_of_ble_eq_true hb) (by omega)
 unfold phi
 rw [h]; rfl
theorem ok_irrel {n m : Nat} {q : Sig} {pre : List D -> Prop} (hg : q.g < 1000) (h : @Ok (I n) q pre) : @Ok (I m) q pre := by
 intro W J vs ds hL hI ha hp
 refine (h W J vs ds hL hI ha hp).mono ?_
 rintro e W' ⟨v, h1, h2, h3⟩
 refine ⟨v, h1, h2, ?_⟩
 have : @Interp.phi (I m) q.g ds = @Interp.phi (I n) q.g ds := phi_irrel hg ds
 rw [this]; exact h3
theorem phi_1000 {n : Nat} {ds : List D} : (@Interp.phi (I n) 1000 ds = .v (.bool true)) ↔ okD n ds := by
 show (D.v (.bool (@decide (okD n ds) (Classical.propDecidable _))) = .v (.bool true)) ↔ _
 simp only [D.v.injEq, Value.bool.injEq, decide_eq_true_eq]
section
variable (n : Nat)
theorem phi_numcheck (a : Bool) (b : ByteArray) (c : Int) : @Interp.phi (I n) 5 [.row [bD a, sD b, iD c]] = iD (numV a b c) := rfl
theorem phi_trim (a b : ByteArray) : @Interp.phi (I n) 6 [sD a, sD b] = sD (trimV a b) := rfl
theorem phi_repeat (a : D) (i : Int) : @Interp.phi (I n) 20 [a, iD i] = sD (zer i) := rfl
theorem pre_repeat (a : D) (i : Int) : (@Interp.phi (I n) 2020 [a, iD i] = .v (.bool true)) ↔ 0 <= i /\ i <= 1000000 := by
 show (bD (decide (0 <= i /\ i <= 1000000)) = _) ↔ _
 rw [bD_true, decide_eq_true_iff]
theorem phi_rall (a : ByteArray) : @Interp.phi (I n) 36 [sD a] = bD (digV a) := rfl
theorem phi_rzeros (i : Int) : @Interp.phi (I n) 37 [iD i] = sD (zer i) := rfl
theorem pre_rzeros (i : Int) : (@Interp.phi (I n) 2037 [iD i] = .v (.bool true)) ↔ 0 <= i /\ i <= 1000000 := by
 show (bD (decide (0 <= i /\ i <= 1000000)) = _) ↔ _
 rw [bD_true, decide_eq_true_iff]
theorem phi_trimzero (a b : ByteArray) : @Interp.phi (I n) 78 [sD a, sD b] = sD (cutLV a b) := rfl
theorem phi_trimrzero (a b : ByteArray) : @Interp.phi (I n) 79 [sD a, sD b] = sD (cutRV a b) := rfl
theorem phi_nmade (a : Bool) (b : ByteArray) (e : Int) : @Interp.phi (I n) 88 [bD a, sD b, iD e] = .row [numD (madeV a b e).1, iD (madeV a b e).2] := rfl
theorem phi_qis (t : NumT) : @Interp.phi (I n) 96 [numD t] = bD (decide (formN t = 0)) := rfl
theorem phi_qmade (a : Bool) (b : ByteArray) (e : Int) : @Interp.phi (I n) 98 [bD a, sD b, iD e] = .row [numD (madeV a b e).1, bD (decide ((madeV a b e).2 = 0))] := rfl
theorem pre_qmade (a : Bool) (b : ByteArray) (e : Int) : (@Interp.phi (I n) 2098 [bD a, sD b, iD e] = .v (.bool true)) ↔ -1099511627776 <= e /\ e <= 1099511627776 := by
 show (bD (decide (-1099511627776 <= e /\ e <= 1099511627776)) = _) ↔ _
 rw [bD_true, decide_eq_true_iff]
theorem phi_nbyt (ds : List D) : @Interp.phi (I n) 115 ds = bD true := rfl
theorem phi_nisint (t : NumT) : @Interp.phi (I n) 93 [numD t] = bD (decide (formN t = 0 /\ 0 <= t.2.2)) := rfl
theorem phi_qisint (t : NumT) : @Interp.phi (I n) 108 [numD t] = bD (decide (formN t = 0 /\ 0 <= t.2.2)) := rfl
theorem bytL_bytesD (l : List UInt8) : bytL (bytesD l) = l := by
 unfold bytL bytesD
 show (l.map _).map _ = l
 rw [List.map_map]
 conv => rhs; rw [<- List.map_id l]
 exact List.map_congr_left fun c _ => UInt8.ofNat_toNat
theorem phi_nof (a : Bool) (l : List UInt8) : @Interp.phi (I n) 94 [bD a, bytesD l] = .row [numD (ofV a l).1, iD (ofV a l).2] := by
 show D.row [numD (ofV a (bytL (bytesD l))).1, iD (ofV a (bytL (bytesD l))).2] = _
 rw [bytL_bytesD]
theorem phi_qof (a : Bool) (l : List UInt8) : @Interp.phi (I n) 109 [bD a, bytesD l] = .row [numD (ofV a l).1, iD (ofV a l).2] := by
 show D.row [numD (ofV a (bytL (bytesD l))).1, iD (ofV a (bytL (bytesD l))).2] = _
 rw [bytL_bytesD]
theorem phi_nbytes (t : NumT) : @Interp.phi (I n) 95 [numD t] = .row [bytesD (bytesV t).1, iD (bytesV t).2] := rfl
theorem phi_qbytes (t : NumT) : @Interp.phi (I n) 110 [numD t] = .row [bytesD (bytesV t).1, iD (bytesV t).2] := rfl
theorem phi_reverse (l : List UInt8) : @Interp.phi (I n) 82 [bytesD l] = .row [bytesD l.reverse] := by
 show D.row [bytesD (bytL (bytesD l)).reverse] = _
 rw [bytL_bytesD]
theorem pre_reverse (d : D) : (@Interp.phi (I n) 2082 [d] = .v (.bool true)) ↔ ∃ l : List UInt8, d = bytesD l /\ l.length <= 1000000 := by
 show (bD (@decide _ (Classical.propDecidable _)) = _) ↔ _
 rw [bD_true, @decide_eq_true_iff _ (Classical.propDecidable _)]
 rfl
theorem pre_nof (a d : D) : (@Interp.phi (I n) 2094 [a, d] = .v (.bool true)) ↔ ∃ l : List UInt8, d = bytesD l /\ l.length <= 1000000 := by
 show (bD (@decide _ (Classical.propDecidable _)) = _) ↔ _
 rw [bD_true, @decide_eq_true_iff _ (Classical.propDecidable _)]
 rfl
theorem pre_qof (a d : D) : (@Interp.phi (I n) 2109 [a, d] = .v (.bool true)) ↔ ∃ l : List UInt8, d = bytesD l /\ l.length <= 1000000 := by
 show (bD (@decide _ (Classical.propDecidable _)) = _) ↔ _
 rw [bD_true, @decide_eq_true_iff _ (Classical.propDecidable _)]
 rfl
theorem phi_nawake : @Interp.phi (I n) 112 [] = bD true := rfl
end
end Go.Proofs.YtflhikakndanjaaDoor.Vk
/-
 Contracts of Go's library at this seat's dump, in plain declarations: written by wip/myshelf.py with the kit's lay-shelf.mjs and lay-plain.mjs.
-/
namespace Go.Proofs
open Go.Shelf
def Tryd.lays105_ren : Go.Shelf.Ren := ⟨fun | 105 => 86 | 212 => 129 | 99 => 78 | 165 => 130 | 166 => 131 | 170 => 132 | 169 => 133 | 263 => 169 | 264 => 170 | 206 => 120 | 240 => 171 | 241 => 172 | 276 => 186 | 277 => 187 | n => n, fun | 9 => 9 | 3 => 3 | 4 => 4 | 20 => 20 | 0 => 0 | 46 => 122 | 109 => 151 | 5 => 5 | 72 => 155 | 76 => 112 | 51 => 176 | 146 => 177 | 53 => 25 | 148 => 179 | 70 => 153 | 37 => 70 | 75 => 111 | 127 => 181 | 164 => 200 | 80 => 157 | n => n, fun | n => n⟩
theorem Tryd.lays105 : Go.Proofs.Lays.n105 Tryd.prog Tryd.lays105_ren := {
 mixed := by kernel_rfl
 f99 := Tryd.func78.trans (congrArg some (by kernel_rfl))
 f105 := Tryd.func86.trans (congrArg some (by kernel_rfl))
 f165 := Tryd.func130.trans (congrArg some (by kernel_rfl))
 f166 := Tryd.func131.trans (congrArg some (by kernel_rfl))
 f169 := Tryd.func133.trans (congrArg some (by kernel_rfl))
 f170 := Tryd.func132.trans (congrArg some (by kernel_rfl))
 f206 := Tryd.func120.trans (congrArg some (by kernel_rfl))
 f212 := Tryd.func129.trans (congrArg some (by kernel_rfl))
 f240 := Tryd.func171.trans (congrArg some (by kernel_rfl))
 f241 := Tryd.func172.trans (congrArg some (by kernel_rfl))
 f263 := Tryd.func169.trans (congrArg some (by kernel_rfl))
 f264 := Tryd.func170.trans (congrArg some (by kernel_rfl))
 f276 := Tryd.func186.trans (congrArg some (by kernel_rfl))
 f277 := Tryd.func187.trans (congrArg some (by kernel_rfl))
 t0 := Tryd.underlying0
 a0 := Tryd.isAgg0
 z0 := Tryd.sizeOf0
 v0 := Tryd.zeroValue0
 t3 := Tryd.underlying3
 a3 := Tryd.isAgg3
 z3 := Tryd.sizeOf3
 v3 := Tryd.zeroValue3
 t4 := Tryd.underlying4
 a4 := Tryd.isAgg4
 z4 := Tryd.sizeOf4
 v4 := Tryd.zeroValue4
 t5 := Tryd.underlying5
 a5 := Tryd.isAgg5
 z5 := Tryd.sizeOf5
 v5 := Tryd.zeroValue5
 t9 := Tryd.underlying9
 a9 := Tryd.isAgg9
 z9 := Tryd.sizeOf9
 v9 := Tryd.zeroValue9
 t20 := Tryd.underlying20
 a20 := Tryd.isAgg20
 z20 := Tryd.sizeOf20
 v20 := Tryd.zeroValue20
 t37 := Tryd.underlying70
 a37 := Tryd.isAgg70
 z37 := Tryd.sizeOf70
 v37 := Tryd.zeroValue70
 t46 := Tryd.underlying122
 a46 := Tryd.isAgg122
 z46 := Tryd.sizeOf122
 v46 := Tryd.zeroValue122
 t51 := Tryd.underlying176
 a51 := Tryd.isAgg176
 z51 := Tryd.sizeOf176
 v51 := Tryd.zeroValue176
 t53 := Tryd.underlying25
 a53 := Tryd.isAgg25
 z53 := Tryd.sizeOf25
 v53 := Tryd.zeroValue25
 t70 := Tryd.underlying153
 a70 := Tryd.isAgg153
 z70 := Tryd.sizeOf153
 v70 := Tryd.zeroValue153
 t72 := Tryd.underlying155
 a72 := Tryd.isAgg155
 z72 := Tryd.sizeOf155
 v72 := Tryd.zeroValue155
 t75 := Tryd.underlying111
 a75 := Tryd.isAgg111
 z75 := Tryd.sizeOf111
 v75 := Tryd.zeroValue111
 t76 := Tryd.underlying112
 a76 := Tryd.isAgg112
 z76 := Tryd.sizeOf112
 v76 := Tryd.zeroValue112
 t109 := Tryd.underlying151
 a109 := Tryd.isAgg151
 z109 := Tryd.sizeOf151
 v109 := Tryd.zeroValue151
 t127 := Tryd.underlying181
 a127 := Tryd.isAgg181
 z127 := Tryd.sizeOf181
 v127 := Tryd.zeroValue181
 t146 := Tryd.underlying177
 a146 := Tryd.isAgg177
 z146 := Tryd.sizeOf177
 v146 := Tryd.zeroValue177
 t148 := Tryd.underlying179
 a148 := Tryd.isAgg179
 z148 := Tryd.sizeOf179
 v148 := Tryd.zeroValue179
 t164 := Tryd.underlying200
 a164 := Tryd.isAgg200
 z164 := Tryd.sizeOf200
 v164 := Tryd.zeroValue200 }
theorem Tryd.Builder_Extra_105 : Builder.Extra Tryd.prog Tryd.lays105_ren := {
 sizeBuilder := by kernel_rfl
 liesBuilder := by kernel_rfl
 t5 := Tryd.underlying5
 a5 := Tryd.isAgg5
 z5 := Tryd.sizeOf5
 v5 := Tryd.zeroValue5
 infoByte := by kernel_rfl
 cellsByte := by kernel_rfl
 sizeByte := by kernel_rfl
 neB5 := by decide }
open Go.RowKit Go.Lib in
theorem Tryd.strings_Repeat (s : ByteArray) (c : Nat) (w : World) (hc : c <= 9223372036854775807) (hlen : s.size * c <= 140737488355328) :
  Calls Tryd.prog 86 #[.string s, .int .i64 c] w fun e w' => e = .returned (.string ⟨(Lib.repeatL s.data.toList c).toArray⟩) /\ Below w.heap.size w w' := Any.strings_Repeat Tryd.lays105 Tryd.Builder_Extra_105 s c w hc hlen
def Tryd.lays160_ren : Go.Shelf.Ren := ⟨fun | 160 => 121 | 232 => 158 | 231 => 122 | 227 => 123 | 234 => 159 | 233 => 124 | 236 => 160 | 235 => 125 | 228 => 161 | 271 => 180 | 151 => 163 | 197 => 162 | 120 => 193 | 152 => 182 | 260 => 181 | 137 => 194 | 119 => 195 | 224 => 196 | 225 => 197 | 217 => 210 | 266 => 213 | n => n, fun | 9 => 9 | 4 => 4 | 3 => 3 | 5 => 5 | 117 => 146 | 116 => 145 | 0 => 0 | 124 => 149 | 21 => 21 | 105 => 167 | 46 => 122 | 119 => 188 | 139 => 191 | 138 => 190 | n => n, fun | 3 => 1 | 4 => 2 | n => n⟩
theorem Tryd.lays160 : Go.Proofs.Lays.n160 Tryd.prog Tryd.lays160_ren := {
 mixed := by kernel_rfl
 f119 := Tryd.func195.trans (congrArg some (by kernel_rfl))
 f120 := Tryd.func193.trans (congrArg some (by kernel_rfl))
 f137 := Tryd.func194.trans (congrArg some (by kernel_rfl))
 f151 := Tryd.func163.trans (congrArg some (by kernel_rfl))
 f152 := Tryd.func182.trans (congrArg some (by kernel_rfl))
 f160 := Tryd.func121.trans (congrArg some (by kernel_rfl))
 f197 := Tryd.func162.trans (congrArg some (by kernel_rfl))
 f217 := Tryd.func210.trans (congrArg some (by kernel_rfl))
 f224 := Tryd.func196.trans (congrArg some (by kernel_rfl))
 f225 := Tryd.func197.trans (congrArg some (by kernel_rfl))
 f227 := Tryd.func123.trans (congrArg some (by kernel_rfl))
 f228 := Tryd.func161.trans (congrArg some (by kernel_rfl))
 f231 := Tryd.func122.trans (congrArg some (by kernel_rfl))
 f232 := Tryd.func158.trans (congrArg some (by kernel_rfl))
 f233 := Tryd.func124.trans (congrArg some (by kernel_rfl))
 f234 := Tryd.func159.trans (congrArg some (by kernel_rfl))
 f235 := Tryd.func125.trans (congrArg some (by kernel_rfl))
 f236 := Tryd.func160.trans (congrArg some (by kernel_rfl))
 f260 := Tryd.func181.trans (congrArg some (by kernel_rfl))
 f266 := Tryd.func213.trans (congrArg some (by kernel_rfl))
 f271 := Tryd.func180.trans (congrArg some (by kernel_rfl))
 t0 := Tryd.underlying0
 a0 := Tryd.isAgg0
 z0 := Tryd.sizeOf0
 v0 := Tryd.zeroValue0
 t3 := Tryd.underlying3
 a3 := Tryd.isAgg3
 z3 := Tryd.sizeOf3
 v3 := Tryd.zeroValue3
 t4 := Tryd.underlying4
 a4 := Tryd.isAgg4
 z4 := Tryd.sizeOf4
 v4 := Tryd.zeroValue4
 t5 := Tryd.underlying5
 a5 := Tryd.isAgg5
 z5 := Tryd.sizeOf5
 v5 := Tryd.zeroValue5
 t9 := Tryd.underlying9
 a9 := Tryd.isAgg9
 z9 := Tryd.sizeOf9
 v9 := Tryd.zeroValue9
 t21 := Tryd.underlying21
 a21 := Tryd.isAgg21
 z21 := Tryd.sizeOf21
 v21 := Tryd.zeroValue21
 t46 := Tryd.underlying122
 a46 := Tryd.isAgg122
 z46 := Tryd.sizeOf122
 v46 := Tryd.zeroValue122
 t105 := Tryd.underlying167
 a105 := Tryd.isAgg167
 z105 := Tryd.sizeOf167
 v105 := Tryd.zeroValue167
 t116 := Tryd.underlying145
 a116 := Tryd.isAgg145
 z116 := Tryd.sizeOf145
 t117 := Tryd.underlying146
 a117 := Tryd.isAgg146
 z117 := Tryd.sizeOf146
 v117 := Tryd.zeroValue146
 t119 := Tryd.underlying188
 a119 := Tryd.isAgg188
 z119 := Tryd.sizeOf188
 t124 := Tryd.underlying149
 a124 := Tryd.isAgg149
 z124 := Tryd.sizeOf149
 v124 := Tryd.zeroValue149
 t138 := Tryd.underlying190
 a138 := Tryd.isAgg190
 z138 := Tryd.sizeOf190
 v138 := Tryd.zeroValue190
 t139 := Tryd.underlying191
 a139 := Tryd.isAgg191
 z139 := Tryd.sizeOf191
 v139 := Tryd.zeroValue191
 g3 := by kernel_rfl
 g4 := by kernel_rfl }
open Go.RowKit in
theorem Tryd.strings_Trim_laid (s cutset : ByteArray) (w : World) (hs : s.size <= 9223372036854775807) (hcs : cutset.size < 4294967281) (hascii : ∀ (j : Nat) b, cutset.data.toList[j]? = some b -> b.toNat < 128) :
  Calls Tryd.prog 121 #[.string s, .string cutset] w fun e w' => e = .returned (.string ⟨(Lib.trimS s.data.toList cutset.data.toList).toArray⟩) /\ Below w.heap.size w w' := Any.strings_Trim_laid Tryd.lays160 (by kernel_rfl) s cutset w hs hcs hascii
def Tryd.lays161_ren : Go.Shelf.Ren := ⟨fun | 161 => 80 | 231 => 122 | 227 => 123 | 233 => 124 | 235 => 125 | 228 => 161 | 197 => 162 | 151 => 163 | 260 => 181 | 152 => 182 | 137 => 194 | 119 => 195 | 224 => 196 | 225 => 197 | 217 => 210 | 266 => 213 | n => n, fun | 9 => 9 | 4 => 4 | 3 => 3 | 5 => 5 | 117 => 146 | 116 => 145 | 0 => 0 | 124 => 149 | 105 => 167 | 21 => 21 | 119 => 188 | 46 => 122 | 139 => 191 | 138 => 190 | n => n, fun | 3 => 1 | 4 => 2 | n => n⟩
theorem Tryd.lays161 : Go.Proofs.Lays.n161 Tryd.prog Tryd.lays161_ren := {
 mixed := by kernel_rfl
 f119 := Tryd.func195.trans (congrArg some (by kernel_rfl))
 f137 := Tryd.func194.trans (congrArg some (by kernel_rfl))
 f151 := Tryd.func163.trans (congrArg some (by kernel_rfl))
 f152 := Tryd.func182.trans (congrArg some (by kernel_rfl))
 f161 := Tryd.func80.trans (congrArg some (by kernel_rfl))
 f197 := Tryd.func162.trans (congrArg some (by kernel_rfl))
 f217 := Tryd.func210.trans (congrArg some (by kernel_rfl))
 f224 := Tryd.func196.trans (congrArg some (by kernel_rfl))
 f225 := Tryd.func197.trans (congrArg some (by kernel_rfl))
 f227 := Tryd.func123.trans (congrArg some (by kernel_rfl))
 f228 := Tryd.func161.trans (congrArg some (by kernel_rfl))
 f231 := Tryd.func122.trans (congrArg some (by kernel_rfl))
 f233 := Tryd.func124.trans (congrArg some (by kernel_rfl))
 f235 := Tryd.func125.trans (congrArg some (by kernel_rfl))
 f260 := Tryd.func181.trans (congrArg some (by kernel_rfl))
 f266 := Tryd.func213.trans (congrArg some (by kernel_rfl))
 t0 := Tryd.underlying0
 a0 := Tryd.isAgg0
 z0 := Tryd.sizeOf0
 v0 := Tryd.zeroValue0
 t3 := Tryd.underlying3
 a3 := Tryd.isAgg3
 z3 := Tryd.sizeOf3
 v3 := Tryd.zeroValue3
 t4 := Tryd.underlying4
 a4 := Tryd.isAgg4
 z4 := Tryd.sizeOf4
 v4 := Tryd.zeroValue4
 t5 := Tryd.underlying5
 a5 := Tryd.isAgg5
 z5 := Tryd.sizeOf5
 v5 := Tryd.zeroValue5
 t9 := Tryd.underlying9
 a9 := Tryd.isAgg9
 z9 := Tryd.sizeOf9
 v9 := Tryd.zeroValue9
 t21 := Tryd.underlying21
 a21 := Tryd.isAgg21
 z21 := Tryd.sizeOf21
 v21 := Tryd.zeroValue21
 t46 := Tryd.underlying122
 a46 := Tryd.isAgg122
 z46 := Tryd.sizeOf122
 v46 := Tryd.zeroValue122
 t105 := Tryd.underlying167
 a105 := Tryd.isAgg167
 z105 := Tryd.sizeOf167
 v105 := Tryd.zeroValue167
 t116 := Tryd.underlying145
 a116 := Tryd.isAgg145
 z116 := Tryd.sizeOf145
 t117 := Tryd.underlying146
 a117 := Tryd.isAgg146
 z117 := Tryd.sizeOf146
 v117 := Tryd.zeroValue146
 t119 := Tryd.underlying188
 a119 := Tryd.isAgg188
 z119 := Tryd.sizeOf188
 t124 := Tryd.underlying149
 a124 := Tryd.isAgg149
 z124 := Tryd.sizeOf149
 v124 := Tryd.zeroValue149
 t138 := Tryd.underlying190
 a138 := Tryd.isAgg190
 z138 := Tryd.sizeOf190
 v138 := Tryd.zeroValue190
 t139 := Tryd.underlying191
 a139 := Tryd.isAgg191
 z139 := Tryd.sizeOf191
 v139 := Tryd.zeroValue191
 g3 := by kernel_rfl
 g4 := by kernel_rfl }
open Go.RowKit in
theorem Tryd.strings_TrimLeft_laid (s cutset : ByteArray) (w : World) (hcs : cutset.size < 4294967281) (hascii : ∀ (j : Nat) b, cutset.data.toList[j]? = some b -> b.toNat < 128) :
  Calls Tryd.prog 80 #[.string s, .string cutset] w fun e w' => e = .returned (.string ⟨(Lib.trimLeftS s.data.toList cutset.data.toList).toArray⟩) /\ Below w.heap.size w w' := Any.strings_TrimLeft_laid Tryd.lays161 (by kernel_rfl) s cutset w hcs hascii
def Tryd.lays162_ren : Go.Shelf.Ren := ⟨fun | 162 => 128 | 232 => 158 | 227 => 123 | 234 => 159 | 236 => 160 | 228 => 161 | 271 => 180 | 151 => 163 | 120 => 193 | 197 => 162 | 152 => 182 | 260 => 181 | 137 => 194 | 119 => 195 | 224 => 196 | 225 => 197 | 217 => 210 | 266 => 213 | n => n, fun | 9 => 9 | 4 => 4 | 3 => 3 | 5 => 5 | 117 => 146 | 116 => 145 | 0 => 0 | 124 => 149 | 21 => 21 | 105 => 167 | 46 => 122 | 119 => 188 | 139 => 191 | 138 => 190 | n => n, fun | 3 => 1 | 4 => 2 | n => n⟩
theorem Tryd.lays162 : Go.Proofs.Lays.n162 Tryd.prog Tryd.lays162_ren := {
 mixed := by kernel_rfl
 f119 := Tryd.func195.trans (congrArg some (by kernel_rfl))
 f120 := Tryd.func193.trans (congrArg some (by kernel_rfl))
 f137 := Tryd.func194.trans (congrArg some (by kernel_rfl))
 f151 := Tryd.func163.trans (congrArg some (by kernel_rfl))
 f152 := Tryd.func182.trans (congrArg some (by kernel_rfl))
 f162 := Tryd.func128.trans (congrArg some (by kernel_rfl))
 f197 := Tryd.func162.trans (congrArg some (by kernel_rfl))
 f217 := Tryd.func210.trans (congrArg some (by kernel_rfl))
 f224 := Tryd.func196.trans (congrArg some (by kernel_rfl))
 f225 := Tryd.func197.trans (congrArg some (by kernel_rfl))
 f227 := Tryd.func123.trans (congrArg some (by kernel_rfl))
 f228 := Tryd.func161.trans (congrArg some (by kernel_rfl))
 f232 := Tryd.func158.trans (congrArg some (by kernel_rfl))
 f234 := Tryd.func159.trans (congrArg some (by kernel_rfl))
 f236 := Tryd.func160.trans (congrArg some (by kernel_rfl))
 f260 := Tryd.func181.trans (congrArg some (by kernel_rfl))
 f266 := Tryd.func213.trans (congrArg some (by kernel_rfl))
 f271 := Tryd.func180.trans (congrArg some (by kernel_rfl))
 t0 := Tryd.underlying0
 a0 := Tryd.isAgg0
 z0 := Tryd.sizeOf0
 v0 := Tryd.zeroValue0
 t3 := Tryd.underlying3
 a3 := Tryd.isAgg3
 z3 := Tryd.sizeOf3
 v3 := Tryd.zeroValue3
 t4 := Tryd.underlying4
 a4 := Tryd.isAgg4
 z4 := Tryd.sizeOf4
 v4 := Tryd.zeroValue4
 t5 := Tryd.underlying5
 a5 := Tryd.isAgg5
 z5 := Tryd.sizeOf5
 v5 := Tryd.zeroValue5
 t9 := Tryd.underlying9
 a9 := Tryd.isAgg9
 z9 := Tryd.sizeOf9
 v9 := Tryd.zeroValue9
 t21 := Tryd.underlying21
 a21 := Tryd.isAgg21
 z21 := Tryd.sizeOf21
 v21 := Tryd.zeroValue21
 t46 := Tryd.underlying122
 a46 := Tryd.isAgg122
 z46 := Tryd.sizeOf122
 v46 := Tryd.zeroValue122
 t105 := Tryd.underlying167
 a105 := Tryd.isAgg167
 z105 := Tryd.sizeOf167
 v105 := Tryd.zeroValue167
 t116 := Tryd.underlying145
 a116 := Tryd.isAgg145
 z116 := Tryd.sizeOf145
 t117 := Tryd.underlying146
 a117 := Tryd.isAgg146
 z117 := Tryd.sizeOf146
 v117 := Tryd.zeroValue146
 t119 := Tryd.underlying188
 a119 := Tryd.isAgg188
 z119 := Tryd.sizeOf188
 t124 := Tryd.underlying149
 a124 := Tryd.isAgg149
 z124 := Tryd.sizeOf149
 v124 := Tryd.zeroValue149
 t138 := Tryd.underlying190
 a138 := Tryd.isAgg190
 z138 := Tryd.sizeOf190
 v138 := Tryd.zeroValue190
 t139 := Tryd.underlying191
 a139 := Tryd.isAgg191
 z139 := Tryd.sizeOf191
 v139 := Tryd.zeroValue191
 g3 := by kernel_rfl
 g4 := by kernel_rfl }
open Go.RowKit in
theorem Tryd.strings_TrimRight_laid (s cutset : ByteArray) (w : World) (hs : s.size <= 9223372036854775807) (hcs : cutset.size < 4294967281) (hascii : ∀ (j : Nat) b, cutset.data.toList[j]? = some b -> b.toNat < 128) :
  Calls Tryd.prog 128 #[.string s, .string cutset] w fun e w' => e = .returned (.string ⟨(Lib.trimRightS s.data.toList cutset.data.toList).toArray⟩) /\ Below w.heap.size w w' := Any.strings_TrimRight_laid Tryd.lays162 (by kernel_rfl) s cutset w hs hcs hascii
end Go.Proofs
/- Contracts: numbers' form. -/
namespace Go.Proofs.YtflhikakndanjaaDoor.Vk
open Go Go.Ab Go.RowKit
theorem one_num {d : List D} (h : FitL tb [.row 24] d) : ∃ a b c, d = [.row [bD a, sD b, iD c]] := by
 match d, h with
 | [d], ⟨⟨cs, e, hf⟩, _⟩ =>
  subst e
  obtain ⟨d1, r, rfl, g1, hf⟩ := fitsC_cons (show fitsC (kn [] tb).shape cs [.sc .b, .sc .s, .sc (.i .i64)] from hf)
  obtain ⟨d2, r, rfl, g2, hf⟩ := fitsC_cons hf
  obtain ⟨d3, r, rfl, g3, hf⟩ := fitsC_cons hf
  obtain rfl := fitsC_nil hf
  obtain ⟨a, rfl⟩ := fits_bool g1
  obtain ⟨b, rfl⟩ := fits_str g2
  obtain ⟨c, rfl⟩ := fits_int g3
  exact ⟨a, b, c, rfl⟩
theorem ok_scalar [Interp] {q : Sig} {pre : List D -> Prop} {t : Ty} (hr : q.res = [.cell (.sc t)]) (h : ∀ (W : World) (vs : Array Value) (ds : List D), TabsMet tabs W -> ArgsR (kn [] tb).shape (fun b off => W.cell? ⟨b, off, none⟩) (fun _ _ => True) q.args vs.toList ds -> pre ds ->
  Calls Tryd.prog q.f vs W fun e W' => ∃ v, e = .returned v /\ Below W.heap.size W W' /\ Interp.phi q.g ds = .v v /\ tyV t v = true) : Ok q pre := by
 intro W J vs ds hL hI ha hp
 refine (callsIn_wide.2 (h W vs ds hL (ha.mono fun b off v hc _ => ⟨hc, trivial⟩) hp)).mono ?_
 rintro e W' ⟨v, rfl, hb, h1, h2⟩
 refine ⟨v, rfl, hb, ?_⟩
 rw [hr, h1]
 exact ⟨by unfold DV; exact ⟨rfl, tyV_ok h2⟩, by unfold fits; exact h2⟩
theorem arg_str {C : Nat -> Nat -> Option Value} {J : Nat -> Nat -> Prop} {v : Value} {d : D} (h : ArgR (kn [] tb).shape C J (.cell (.sc .s)) v d) : ∃ s, v = .string s /\ d = sD s := by
 obtain ⟨h1, h2⟩ := h
 obtain ⟨s, rfl⟩ := fits_str h2
 unfold DV at h1
 exact ⟨s, h1.1, rfl⟩
theorem args_two {C : Nat -> Nat -> Option Value} {J : Nat -> Nat -> Prop} {h h' : Sh} {vs : Array Value} {ds : List D} (k : ArgsR (kn [] tb).shape C J [h, h'] vs.toList ds) : ∃ v u d e, vs = #[v, u] /\ ds = [d, e] /\ ArgR (kn [] tb).shape C J h v d /\ ArgR (kn [] tb).shape C J h' u e := by
 obtain ⟨vs⟩ := vs
 cases vs with
 | nil => cases ds <;> exact k.elim
 | cons v vs =>
  cases ds with
  | nil => exact k.elim
  | cons d ds =>
   obtain ⟨k1, k⟩ := k
   cases vs with
   | nil => cases ds <;> exact k.elim
   | cons u vs =>
    cases ds with
    | nil => exact k.elim
    | cons e ds =>
     obtain ⟨k2, k⟩ := k
     cases vs with
     | nil =>
      cases ds with
      | nil => exact ⟨v, u, d, e, rfl, rfl, k1, k2⟩
      | cons _ _ => exact k.elim
     | cons _ _ => cases ds <;> exact k.elim
theorem trim_ok (n : Nat) : @Ok (I n) q_trim (okD n) := by
 letI := I n
 refine ok_scalar (t := .s) rfl fun W vs ds hL ha hp => ?_
 obtain ⟨v, u, d, e, rfl, rfl, h1, h2, h3⟩ := args_two ha
 ·obtain ⟨s, rfl, rfl⟩ := arg_str h1
  subst h2 h3
  have hs := lim_sD.1 (okD_two.1 hp).2.1
  have hs : s.size <= 140737488355328 := hs
  refine (Tryd.strings_Trim_laid s tenDigits W (by omega) (by decide) (fun j b hj => ?_)).mono ?_
  ·have : (tenDigits.data.toList.all fun b => decide (b.toNat < 128)) = true := by decide
   have := List.all_eq_true.1 this b (List.mem_of_getElem? hj)
   simpa using this
  ·rintro e W' ⟨rfl, hb⟩
   exact ⟨_, rfl, hb, phi_trim n s tenDigits, rfl⟩
def heads_numcheck : List Hd := []
def eZ1 : E := (.lit (.string (mkS [48, 49, 50, 51, 52, 53, 54, 55, 56, 57])))
def eZ2 : E := (.pr .slen [(.c 1 .v0)])
def eZ3 : E := (.pr (.iop .sub .i64) [eZ2, (.i 1)])
def entry_numcheck : Tree :=
 (.ite (.pr .and [(.pr (.bcmp .eql) [(.c 0 .v0), (.lit (.bool false))]), (.pr (.scmp .eql) [(.c 1 .v0), (.lit (.string (mkS [48])))]), (.eq (.c 2 .v0) (.i 0))])
 (.rt (.i 0))
 (.ite (.pr (.scmp .neq) [(.c 1 .v0), (.lit (.string .empty))])
 (.giv (.app 1000 [(.c 1 .v0), eZ1])
 (.ite (.pr (.scmp .eql) [(.app 6 [(.c 1 .v0), eZ1]), (.lit (.string .empty))])
 (.ite (.gt eZ2 (.i 40))
 (.rt (.i 10))
 (.giv (.lt (.i 0) eZ2)
 (.ite (.eq (.pr .sat [(.c 1 .v0), (.i 0)]) (.lit (.int .u8 48)))
 (.rt (.i 10))
 (.ite (.ge eZ2 (.i 1))
 (.giv (.le (.i 0) eZ3)
 (.giv (.le eZ3 eZ2)
 (.ite (.pr (.scmp .eql) [(.pr .ssub [(.c 1 .v0), eZ3, eZ2]), (.lit (.string (mkS [48])))])
 (.rt (.i 10))
 (.ite (.lt (.c 2 .v0) (.i (-400)))
 (.rt (.i 10))
 (.ite (.gt (.c 2 .v0) (.i 400))
 (.rt (.i 10))
 (.rt (.i 0)))))))
 (.ite (.lt (.c 2 .v0) (.i (-400)))
 (.rt (.i 10))
 (.ite (.gt (.c 2 .v0) (.i 400))
 (.rt (.i 10))
 (.rt (.i 0))))))))
 (.rt (.i 10))))
 (.rt (.i 10))))
def trees_numcheck : List Tree := []
noncomputable def deps_numcheck : List Sig := [q_trim]
theorem ok_numcheck : check q_numcheck deps_numcheck heads_numcheck entry_numcheck trees_numcheck = true := by kernel_rfl
theorem size_zero {d : ByteArray} : d.size = 0 ↔ d = ByteArray.empty := by
 constructor
 ·intro h
  exact ByteArray.ext (Array.eq_empty_of_size_eq_zero h)
 ·intro h; rw [h]; rfl
theorem numcheck_ok (n : Nat) : @Ok (I n) q_numcheck (okD n) := by
 letI := I n
 refine fn_ok (hphi n) ok_numcheck (by
  intro q hq
  simp only [deps_numcheck, List.mem_singleton] at hq
  subst hq
  exact trim_ok n) (fun _ _ _ => False) (fun _ _ => 0) ?_ (fun j h t d ds hj => by simp [heads_numcheck] at hj)
 intro ds hf hp
 obtain ⟨a, b, c, rfl⟩ := one_num hf
 have hb : okD n [sD b, sD tenDigits] := by
  rw [okD_one, sz_row] at hp
  simp only [D.szL, D.sz, D.Lim, D.LimL, and_true, true_and] at hp
  exact okD_two.2 ⟨by rw [sz_sD, sz_sD]; omega, lim_sD.2 hp.2, lim_sD.2 (by decide)⟩
 have hs : b.size <= 140737488355328 := lim_sD.1 (okD_two.1 hb).2.1
 have hz := @size_zero b
 have hw : 0 < b.size -> IntKind.i64.wrap ((b.size : Int) - 1) = ((b.size - 1 : Nat) : Int) := fun h => by rw [wrap_id (by omega) (by omega)]; omega
 simp only [entry_numcheck, eZ1, eZ2, eZ3, q_numcheck, Tree.holds, Out.den, E.den, E.denL, dn, List.getD_cons_zero, List.getD_cons_succ, List.length_map, phi_1000, phi_trim, phi_numcheck, row_at0, row_at1, row_at2, List.all_cons, List.all_nil, Bool.and_true, Bool.and_eq_true, Bool.and_eq_false_iff, beq_iff_eq]
 unfold numV
 have ht : (mkS [48, 49, 50, 51, 52, 53, 54, 55, 56, 57]) = tenDigits := rfl
 have ho : (mkS [48]) = one := rfl
 simp only [ht, ho, Int.toNat_natCast, Int.toNat_zero]
 by_cases hb0 : b = .empty
 ·subst hb0
  grind
 ·have hb1 : 0 < b.size := by
   rcases Nat.eq_zero_or_pos b.size with h | h
   ·exact absurd (hz.1 h) hb0
   ·exact h
  rw [hw hb1]
  simp only [Int.toNat_natCast]
  grind
end Go.Proofs.YtflhikakndanjaaDoor.Vk
/- Contracts: numbers' order. -/
namespace Go.Proofs.YtflhikakndanjaaDoor.Vk
open Go Go.Ab Go.RowKit
theorem fit_num {d : D} (h : FitS tb (.row 24) d) : ∃ (a : Bool) (s : ByteArray) (e : Int), d = .row [bD a, sD s, iD e] := by
 obtain ⟨cs, rfl, h⟩ := h
 obtain ⟨d1, r, rfl, g1, h⟩ := fitsC_cons h
 obtain ⟨d2, r, rfl, g2, h⟩ := fitsC_cons h
 obtain ⟨d3, r, rfl, g3, h⟩ := fitsC_cons h
 obtain rfl := fitsC_nil h
 obtain ⟨z1, rfl⟩ := fits_bool g1
 obtain ⟨z2, rfl⟩ := fits_str g2
 obtain ⟨z3, rfl⟩ := fits_int g3
 exact ⟨z1, z2, z3, rfl⟩
theorem arg_int {C : Nat -> Nat -> Option Value} {J : Nat -> Nat -> Prop} {v : Value} {d : D} (h : ArgR (kn [] tb).shape C J (.cell (.sc (.i .i64))) v d) : ∃ i : Int, v = .int .i64 i /\ d = iD i := by
 obtain ⟨h1, h2⟩ := h
 obtain ⟨z, rfl⟩ := fits_int h2
 unfold DV at h1
 exact ⟨z, h1.1, rfl⟩
theorem zer_eq (c : Nat) : zer (c : Int) = ⟨(Lib.repeatL one.data.toList c).toArray⟩ := by
 unfold zer
 have : ∀ c : Nat, List.replicate c (48 : UInt8) = Lib.repeatL one.data.toList c := by
  intro c
  induction c with
  | zero => rfl
  | succ c ih => rw [List.replicate_succ, ih]; rfl
 rw [Int.toNat_natCast, this]
theorem repeat_ok (n : Nat) : @Ok (I n) q_repeat (@okS (I n) n q_repeat.g) := by
 letI := I n
 refine ok_scalar (t := .s) rfl fun W vs ds hL ha hp => ?_
 obtain ⟨v, u, d, e, rfl, rfl, ⟨h1, h3⟩, h2⟩ := args_two ha
 obtain ⟨i, rfl, rfl⟩ := arg_int h2
 subst h1 h3
 have hi := (pre_repeat n _ i).1 (hp.2 rfl)
 obtain ⟨c, rfl⟩ : ∃ c : Nat, i = c := ⟨i.toNat, by omega⟩
 refine (Tryd.strings_Repeat one c W (by omega) (by show 1 * c <= _; omega)).mono ?_
 rintro e W' ⟨rfl, hb⟩
 exact ⟨_, rfl, hb, by rw [<- zer_eq]; exact phi_repeat n _ _, rfl⟩
theorem zer_size (i : Int) : (zer i).size = i.toNat := by
 unfold zer
 show (List.replicate i.toNat (48 : UInt8)).toArray.size = _
 simp
theorem cat_size (a b : ByteArray) : (a ++ b).size = a.size + b.size := ByteArray.size_append
theorem levX_le (e e' : Int) : levX e e' <= e /\ levX e e' <= e' /\ (levX e e' = e \/ levX e e' = e') := by
 unfold levX; split <;> omega
theorem numV_num {a : Bool} {d : ByteArray} {e : Int} (h : numV a d e = 0) : d.size <= 40 /\ -400 <= e /\ e <= 400 := by
 unfold numV at h
 split at h
 ·rename_i h1
  rw [h1.2.1]
  exact ⟨by decide, by omega, by omega⟩
 ·(repeat' split at h) <;> first | omega | exact ⟨by omega, by omega, by omega⟩
end Go.Proofs.YtflhikakndanjaaDoor.Vk
/- Contracts: the library's trims, num.made. -/
namespace Go.Proofs.YtflhikakndanjaaDoor.Vk
open Go Go.Ab Go.RowKit
theorem ascii_one : ∀ (j : Nat) b, one.data.toList[j]? = some b -> b.toNat < 128 := fun j b hj => by
 have : (one.data.toList.all fun b => decide (b.toNat < 128)) = true := by decide
 have := List.all_eq_true.1 this b (List.mem_of_getElem? hj)
 simpa using this
theorem trimzero_ok (n : Nat) : @Ok (I n) q_trimzero (okD n) := by
 letI := I n
 refine ok_scalar (t := .s) rfl fun W vs ds hL ha hp => ?_
 obtain ⟨v, u, d, e, rfl, rfl, h1, h2, h3⟩ := args_two ha
 obtain ⟨s, rfl, rfl⟩ := arg_str h1
 subst h2 h3
 refine (Tryd.strings_TrimLeft_laid s one W (by decide) ascii_one).mono ?_
 rintro e W' ⟨rfl, hb⟩
 exact ⟨_, rfl, hb, phi_trimzero n s one, rfl⟩
theorem trimrzero_ok (n : Nat) : @Ok (I n) q_trimrzero (okD n) := by
 letI := I n
 refine ok_scalar (t := .s) rfl fun W vs ds hL ha hp => ?_
 obtain ⟨v, u, d, e, rfl, rfl, h1, h2, h3⟩ := args_two ha
 obtain ⟨s, rfl, rfl⟩ := arg_str h1
 subst h2 h3
 have hs := lim_sD.1 (okD_two.1 hp).2.1
 have hs : s.size <= 140737488355328 := hs
 refine (Tryd.strings_TrimRight_laid s one W (by omega) (by decide) ascii_one).mono ?_
 rintro e W' ⟨rfl, hb⟩
 exact ⟨_, rfl, hb, phi_trimrzero n s one, rfl⟩
theorem drop_len {p : UInt8 -> Bool} : ∀ (l : List UInt8), (l.dropWhile p).length <= l.length
 | [] => Nat.le_refl _
 | x :: r => by
  rw [List.dropWhile_cons]
  split
  ·have := drop_len (p := p) r; rw [List.length_cons]; omega
  ·exact Nat.le_refl _
theorem bytes_len (l : List UInt8) : (ByteArray.mk l.toArray).size = l.length := by
 show l.toArray.size = _; simp
theorem bytes_list (l : List UInt8) : (ByteArray.mk l.toArray).data.toList = l := by simp
theorem list_len (s : ByteArray) : s.data.toList.length = s.size := by rw [Array.length_toList]; rfl
theorem cutL_size (s c : ByteArray) : (cutLV s c).size <= s.size := by
 unfold cutLV Lib.trimLeftS
 rw [bytes_len, <- list_len s]
 exact drop_len _
theorem cutR_size (s c : ByteArray) : (cutRV s c).size <= s.size := by
 unfold cutRV Lib.trimRightS
 rw [bytes_len, <- list_len s, List.length_reverse]
 have := drop_len (p := fun x => c.data.toList.contains x) s.data.toList.reverse
 rw [List.length_reverse] at this
 exact this
theorem made_args {d : List D} (h : FitL tb [.cell (.sc .b), .cell (.sc .s), .cell (.sc (.i .i64))] d) : ∃ (a : Bool) (s : ByteArray) (e : Int), d = [bD a, sD s, iD e] := by
 match d, h with
 | [x, y, z], ⟨h1, h2, h3, _⟩ =>
  obtain ⟨a, rfl⟩ := fits_bool h1
  obtain ⟨s, rfl⟩ := fits_str h2
  obtain ⟨e, rfl⟩ := fits_int h3
  exact ⟨a, s, e, rfl⟩
def heads_nmade : List Hd := []
def eZ4 : E := (.lit (.string (mkS [48])))
def eZ5 : E := (.app 78 [.v1, eZ4])
def eZ6 : E := (.pr .row [.v0, (.app 79 [eZ5, eZ4]), (.pr (.iop .sub .i64) [(.pr (.iop .add .i64) [.v2, (.pr .slen [eZ5])]), (.pr .slen [(.app 79 [eZ5, eZ4])])])])
def entry_nmade : Tree :=
 (.giv (.app 1000 [.v1, eZ4])
 (.ite (.pr (.scmp .eql) [eZ5, (.lit (.string .empty))])
 (.rt (.pr .row [(.pr .row [(.lit (.bool false)), eZ4, (.i 0)]), (.i 0)]))
 (.giv (.app 1000 [eZ5, eZ4])
 (.giv (.app 1000 [eZ6])
 (.ite (.ne (.app 5 [eZ6]) (.i 0))
 (.rt (.pr .row [(.pr .row [(.lit (.bool false)), (.lit (.string .empty)), (.i 0)]), (.i 2)]))
 (.rt (.pr .row [eZ6, (.i 0)])))))))
def trees_nmade : List Tree := []
noncomputable def deps_nmade : List Sig := [q_numcheck, q_trimzero, q_trimrzero]
theorem ok_nmade : check q_nmade deps_nmade heads_nmade entry_nmade trees_nmade = true := by kernel_rfl
theorem nmade_more (n : Nat) : @Ok (I n) q_nmade (fun ds => okD n ds /\ 10 < n) := by
 letI := I n
 refine fn_ok (hphi n) ok_nmade (by
  intro q hq
  simp only [deps_nmade, List.mem_cons, List.not_mem_nil, or_false] at hq
  rcases hq with rfl | rfl | rfl
  ·exact numcheck_ok n
  ·exact trimzero_ok n
  ·exact trimrzero_ok n) (fun _ _ _ => False) (fun _ _ => 0) ?_ (fun j h t d ds hj => by simp [heads_nmade] at hj)
 intro ds hf hp
 obtain ⟨a, s, e, rfl⟩ := made_args hf
 obtain ⟨⟨hp1, hp2⟩, hn⟩ := hp
 simp only [D.LimL, and_true] at hp2
 have hs : s.size <= lim := lim_sD.1 hp2.2.1
 have hl := cutL_size s one
 have hr := cutR_size (cutLV s one) one
 have h1 : one.size <= lim := by decide
 have o1 : okD n [sD s, sD one] := okD_two.2 ⟨by simp only [D.sz]; omega, lim_sD.2 hs, lim_sD.2 h1⟩
 have o2 : okD n [sD (cutLV s one), sD one] := okD_two.2 ⟨by simp only [D.sz]; omega, lim_sD.2 (by omega), lim_sD.2 h1⟩
 have o3 : okD n [.row [bD a, sD (cutRV (cutLV s one) one), iD (wrap (wrap (e + (cutLV s one).size) - (cutRV (cutLV s one) one).size))]] := okD_one.2 ⟨by rw [sz_row]; simp only [D.szL, D.sz]; omega, by simp only [D.Lim, D.LimL, and_true, true_and]; omega⟩
 have ho : (mkS [48]) = one := rfl
 simp only [entry_nmade, eZ4, eZ5, eZ6, q_nmade, Tree.holds, Out.den, E.den, E.denL, dn, List.getD_cons_zero, List.getD_cons_succ, List.length_map, phi_1000, ho, phi_trimzero, phi_trimrzero, phi_numcheck, phi_nmade, o1, o2, o3]
 unfold madeV
 refine ⟨fun h => ?_, fun h => ⟨fun h' => ?_, fun h' => ?_⟩⟩
 ·rw [if_pos h]; rfl
 ·rw [if_neg h]; simp only; rw [if_neg h']; rfl
 ·rw [if_neg h]; simp only; rw [if_pos h']; rfl
theorem nmade_ok (n : Nat) : @Ok (I n) q_nmade (okD n) :=
 ok_irrel (by decide) (@Ok.less (I (n + 20)) _ _ _ (nmade_more (n + 20)) fun ds h => ⟨⟨by have := h.1; omega, h.2⟩, by omega⟩)
end Go.Proofs.YtflhikakndanjaaDoor.Vk
/- Plain laws of comparisons. -/
namespace Go.Proofs.YtflhikakndanjaaDoor.Vk
open Go Go.Ab Go.RowKit
end Go.Proofs.YtflhikakndanjaaDoor.Vk
/- The order of values is one: plain Lean. -/
namespace Go.Proofs.YtflhikakndanjaaDoor.Vk
open Go Go.Ab Go.RowKit
structure OrdAt {α : Type} (c : α -> α -> Int) (S : α -> Prop) (x : α) : Prop where
 rng : ∀ y, S y -> c x y = -1 \/ c x y = 0 \/ c x y = 1
 anti : ∀ y, S y -> c y x = - c x y
 zero : ∀ y, S y -> c x y = 0 -> x = y
 trans : ∀ y z, S y -> S z -> c x y = -1 -> c y z <= 0 -> c x z = -1
theorem OrdAt.less {α : Type} {c : α -> α -> Int} {S T : α -> Prop} {x : α} (h : OrdAt c S x) (hs : ∀ y, T y -> S y) : OrdAt c T x where
 rng y hy := h.rng y (hs y hy)
 anti y hy := h.anti y (hs y hy)
 zero y hy := h.zero y (hs y hy)
 trans y z hy hz := h.trans y z (hs y hy) (hs z hz)
theorem dvA_eq : ∀ (l : List UInt8) (acc : Nat), dvA acc l = acc * 10 ^ l.length + dv l
 | [], acc => by rw [List.length_nil, Nat.pow_zero, Nat.mul_one]; rfl
 | x :: r, acc => by
  show dvA (acc * 10 + (x.toNat - 48)) r = _ + dvA (0 * 10 + (x.toNat - 48)) r
  rw [dvA_eq r (acc * 10 + (x.toNat - 48)), dvA_eq r (0 * 10 + (x.toNat - 48)), List.length_cons, Nat.pow_succ, Nat.zero_mul, Nat.zero_add, Nat.add_mul, Nat.mul_assoc acc 10, Nat.mul_comm 10]
  omega
theorem dv_cons (x : UInt8) (r : List UInt8) : dv (x :: r) = (x.toNat - 48) * 10 ^ r.length + dv r := by
 show dvA (0 * 10 + (x.toNat - 48)) r = _
 rw [dvA_eq, Nat.zero_mul, Nat.zero_add]
theorem dv_append : ∀ (a b : List UInt8), dv (a ++ b) = dv a * 10 ^ b.length + dv b
 | [], b => by show dv b = 0 * _ + dv b; omega
 | x :: r, b => by
  rw [List.cons_append, dv_cons, dv_cons, dv_append r b, List.length_append, Nat.pow_add, Nat.add_mul, Nat.mul_assoc]
  omega
theorem dv_zeros : ∀ k, dv (List.replicate k 48) = 0
 | 0 => rfl
 | k + 1 => by rw [List.replicate_succ, dv_cons, dv_zeros k]; simp
theorem dv_lt : ∀ (l : List UInt8), Dig l -> dv l < 10 ^ l.length
 | [], _ => by show 0 < 10 ^ 0; decide
 | x :: r, h => by
  have h1 := h x (List.mem_cons_self ..)
  have h2 := dv_lt r fun y hy => h y (List.mem_cons_of_mem _ hy)
  rw [dv_cons, List.length_cons, Nat.pow_succ]
  have : (x.toNat - 48) * 10 ^ r.length <= 9 * 10 ^ r.length := Nat.mul_le_mul_right _ (by omega)
  omega
end Go.Proofs.YtflhikakndanjaaDoor.Vk
/- The order of values is one: numbers, values; ValueThree. -/
namespace Go.Proofs.YtflhikakndanjaaDoor.Vk
open Go Go.Ab Go.RowKit
theorem all_drop {p : UInt8 -> Bool} : ∀ (l : List UInt8), (∀ x, x ∈ l.dropWhile p -> p x = true) -> ∀ x, x ∈ l -> p x = true
 | [], _, x, hx => by cases hx
 | a :: r, h, x, hx => by
  rw [List.dropWhile_cons] at h
  cases ha : p a with
  | true =>
   rw [ha, if_pos rfl] at h
   rcases List.mem_cons.1 hx with rfl | hx
   ·exact ha
   ·exact all_drop r h x hx
  | false =>
   rw [ha, if_neg (by decide)] at h
   exact h x hx
theorem dig_trim {d : ByteArray} (h : trimV d tenDigits = ByteArray.empty) : Dig d.data.toList := by
 have h1 : Lib.trimS d.data.toList tenDigits.data.toList = [] := by
  unfold trimV at h
  have := congrArg (fun b : ByteArray => b.data.toList) h
  simpa using this
 unfold Lib.trimS Lib.trimLeftS at h1
 have h2 : ∀ x, x ∈ Lib.trimRightS d.data.toList tenDigits.data.toList -> tenDigits.data.toList.contains x = true := fun x hx => by
  have := all_drop (p := (tenDigits.data.toList.contains ·)) _ (by rw [h1]; intro x hx; cases hx) x hx
  exact this
 unfold Lib.trimRightS at h2
 intro x hx
 have h3 := all_drop (p := (tenDigits.data.toList.contains ·)) d.data.toList.reverse (fun y hy => h2 y (List.mem_reverse.2 hy)) x (List.mem_reverse.2 hx)
 have h4 : ∀ y, tenDigits.data.toList.contains y = true -> 48 <= y.toNat /\ y.toNat <= 57 := by
  intro y hy
  have hy : y ∈ tenDigits.data.toList := by simpa using hy
  have hall : tenDigits.data.toList.all (fun y => decide (48 <= y.toNat /\ y.toNat <= 57)) = true := by decide
  simpa using List.all_eq_true.1 hall y hy
 exact h4 x h3
theorem canon {ng : Bool} {d : ByteArray} {e : Int} (h : numV ng d e = 0) :
  (ng = false /\ d = one /\ e = 0) \/ (Dig d.data.toList /\ (∃ x r, d.data.toList = x :: r /\ x.toNat ≠ 48) /\ (∃ r x, d.data.toList = r ++ [x] /\ x.toNat ≠ 48)) := by
 unfold numV at h
 by_cases h0 : ng = false /\ d = one /\ e = 0
 ·exact .inl h0
 rw [if_neg h0] at h
 by_cases h1 : d = ByteArray.empty
 ·rw [if_pos h1] at h; omega
 rw [if_neg h1] at h
 by_cases h2 : trimV d tenDigits = ByteArray.empty
 ·rw [if_neg (by simp [h2])] at h
  by_cases h3 : 40 < (d.size : Int)
  ·rw [if_pos h3] at h; omega
  rw [if_neg h3] at h
  by_cases h4 : (d.data.toList.getD 0 0).toNat = 48
  ·rw [if_pos h4] at h; omega
  rw [if_neg h4] at h
  by_cases h5 : d.extract (d.size - 1) d.size = one
  ·rw [if_pos h5] at h; omega
  have hn : d.data.toList ≠ [] := fun hn => h1 (ByteArray.ext (Array.toList_inj.1 (by rw [hn]; rfl)))
  refine .inr ⟨dig_trim h2, ?_, ?_⟩
  ·cases hl : d.data.toList with
   | nil => exact absurd hl hn
   | cons x r => rw [hl] at h4; exact ⟨x, r, rfl, h4⟩
  ·refine ⟨d.data.toList.dropLast, d.data.toList.getLast hn, (List.dropLast_concat_getLast hn).symm, fun hx => h5 ?_⟩
   refine ByteArray.ext (Array.toList_inj.1 ?_)
   have hd : d.data.toList = d.data.toList.dropLast ++ [d.data.toList.getLast hn] := (List.dropLast_concat_getLast hn).symm
   have hs : d.size = d.data.toList.length := by rw [Array.length_toList]; rfl
   rw [ByteArray.data_extract, Array.toList_extract, hs]
   generalize d.data.toList.getLast hn = x at *
   have hx : x = 48 := UInt8.toNat_inj.1 hx
   subst hx
   rw [hd]
   simp [List.extract]
   rfl
 ·rw [if_pos (by simp [h2])] at h; omega
abbrev kN (d : ByteArray) (e : Int) : Nat := dv d.data.toList * 10 ^ (e + 400).toNat
def keyN (t : Bool × ByteArray × Int) : Int := if t.1 then -(kN t.2.1 t.2.2 : Int) else kN t.2.1 t.2.2
def numOk (t : Bool × ByteArray × Int) : Prop := numV t.1 t.2.1 t.2.2 = 0
theorem pow_pos10 (n : Nat) : 0 < 10 ^ n := Nat.pow_pos (by decide)
theorem dv_pos {l : List UInt8} (h : ∃ x r, l = x :: r /\ x.toNat ≠ 48) (hd : Dig l) : 10 ^ (l.length - 1) <= dv l := by
 obtain ⟨x, r, rfl, hx⟩ := h
 have := hd x (List.mem_cons_self ..)
 rw [dv_cons, List.length_cons, Nat.add_sub_cancel]
 have : 1 * 10 ^ r.length <= (x.toNat - 48) * 10 ^ r.length := Nat.mul_le_mul_right _ (by omega)
 omega
theorem dig_one : Dig one.data.toList := by
 intro x hx
 have hall : one.data.toList.all (fun y => decide (48 <= y.toNat /\ y.toNat <= 57)) = true := by decide
 simpa using List.all_eq_true.1 hall x hx
theorem numOk_dig {t : Bool × ByteArray × Int} (h : numOk t) : Dig t.2.1.data.toList := by
 rcases canon h with ⟨_, h, _⟩ | ⟨h, _⟩
 ·rw [h]; exact dig_one
 ·exact h
theorem zer_list (i : Int) : (zer i).data.toList = List.replicate i.toNat 48 := by unfold zer; simp
theorem cat_list (a b : ByteArray) : (a ++ b).data.toList = a.data.toList ++ b.data.toList := by
 rw [ByteArray.data_append, Array.toList_append]
theorem dig_append {a b : List UInt8} (ha : Dig a) (hb : Dig b) : Dig (a ++ b) := fun x hx => by
 rcases List.mem_append.1 hx with h | h
 ·exact ha x h
 ·exact hb x h
theorem dig_zeros (k : Nat) : Dig (List.replicate k 48) := fun x hx => by
 obtain ⟨_, rfl⟩ := List.mem_replicate.1 hx
 decide
end Go.Proofs.YtflhikakndanjaaDoor.Vk
/- Plain laws of numbers: digits, what is made of them, sums. -/
namespace Go.Proofs.YtflhikakndanjaaDoor.Vk
open Go Go.Ab Go.RowKit
theorem wrapN {i : Int} (h0 : -4611686018427387904 <= i) (h : i <= 4611686018427387904) : wrap i = i := wrap_id (by omega) (by omega)
theorem digs_zero : digs 0 = [] := by rw [digs]; rfl
theorem digs_pos {n : Nat} (h : n ≠ 0) : digs n = digs (n / 10) ++ [UInt8.ofNat (48 + n % 10)] := by rw [digs, if_neg h]
theorem dig_byte {b : Nat} (h : b < 10) : (UInt8.ofNat (48 + b)).toNat = 48 + b := by
 rw [UInt8.toNat_ofNat']; omega
theorem digs_dig : ∀ n, Dig (digs n) := by
 intro n
 induction n using Nat.strongRecOn with
 | ind n ih =>
  by_cases h : n = 0
  ·rw [h, digs_zero]; intro x hx; cases hx
  ·rw [digs_pos h]
   refine dig_append (ih _ (by omega)) fun x hx => ?_
   rw [List.mem_singleton] at hx
   rw [hx, dig_byte (by omega)]; omega
theorem dv_digs : ∀ n, dv (digs n) = n := by
 intro n
 induction n using Nat.strongRecOn with
 | ind n ih =>
  by_cases h : n = 0
  ·rw [h, digs_zero]; rfl
  ·rw [digs_pos h, dv_append, ih _ (by omega), dv_cons, dig_byte (by omega)]
   show n / 10 * 10 ^ 1 + ((48 + n % 10 - 48) * 10 ^ 0 + 0) = n
   omega
theorem digs_nil {n : Nat} : digs n = [] ↔ n = 0 := by
 constructor
 ·intro h
  have := dv_digs n
  rw [h] at this
  exact this.symm
 ·intro h; rw [h, digs_zero]
theorem isOne (x : UInt8) : one.data.toList.contains x = decide (x = 48) := by
 show [(48 : UInt8)].contains x = _
 rw [Bool.eq_iff_iff]; simp
theorem snoc_ind {α : Type} {p : List α -> Prop} (h0 : p []) (h1 : ∀ l x, p l -> p (l ++ [x])) : ∀ l, p l := by
 have : ∀ l : List α, p l.reverse := by
  intro l
  induction l with
  | nil => exact h0
  | cons x r ih => rw [List.reverse_cons]; exact h1 _ _ ih
 intro l
 have := this l.reverse
 rwa [List.reverse_reverse] at this
theorem drop_snoc {α : Type} {p : α -> Bool} (l : List α) (x : α) : (l ++ [x]).dropWhile p = if l.dropWhile p = [] then [x].dropWhile p else l.dropWhile p ++ [x] := by
 induction l with
 | nil => rfl
 | cons y r ih =>
  rw [List.cons_append, List.dropWhile_cons, List.dropWhile_cons]
  split
  ·exact ih
  ·rw [if_neg (by simp)]; rfl
theorem drop_digs (l : List UInt8) : Dig l -> Lib.trimLeftS l one.data.toList = digs (dv l) := by
 unfold Lib.trimLeftS
 induction l using snoc_ind with
 | h0 => intro _; rw [show dv [] = 0 from rfl, digs_zero]; rfl
 | h1 l x ih =>
  intro hd
  have hl : Dig l := fun y hy => hd y (List.mem_append_left _ hy)
  have hx := hd x (List.mem_append_right _ (List.mem_singleton.2 rfl))
  rw [drop_snoc, ih hl, dv_append, dv_cons]
  have e : dv l * 10 ^ [x].length + ((x.toNat - 48) * 10 ^ ([] : List UInt8).length + dv []) = dv l * 10 + (x.toNat - 48) := by
   show dv l * 10 ^ 1 + ((x.toNat - 48) * 10 ^ 0 + 0) = _
   omega
  rw [e]
  have hb : UInt8.ofNat (48 + (x.toNat - 48)) = x := by
   apply UInt8.toNat_inj.1
   rw [dig_byte (by omega)]; omega
  by_cases h0 : dv l = 0
  ·rw [if_pos (digs_nil.2 h0), h0, List.dropWhile_cons, isOne]
   by_cases c : x = 48
   ·rw [if_pos (by simpa using c), c]
    show [] = digs (0 * 10 + (48 - 48))
    rw [show 0 * 10 + (48 - 48) = 0 from rfl, digs_zero]
   ·rw [if_neg (by simpa using c)]
    have c' : x.toNat ≠ 48 := fun h => c (UInt8.toNat_inj.1 h)
    rw [digs_pos (n := 0 * 10 + (x.toNat - 48)) (by omega), show (0 * 10 + (x.toNat - 48)) / 10 = 0 by omega, digs_zero, show (0 * 10 + (x.toNat - 48)) % 10 = x.toNat - 48 by omega, hb]
    rfl
  ·rw [if_neg (fun h => h0 (digs_nil.1 h)), digs_pos (n := dv l * 10 + (x.toNat - 48)) (by omega), show (dv l * 10 + (x.toNat - 48)) / 10 = dv l by omega, show (dv l * 10 + (x.toNat - 48)) % 10 = x.toNat - 48 by omega, hb]
theorem cutL_digs {s : ByteArray} (h : Dig s.data.toList) : cutLV s one = ⟨(digs (dv s.data.toList)).toArray⟩ := by
 unfold cutLV; rw [drop_digs _ h]
theorem made_dv {ng ng' : Bool} {s : ByteArray} {m : Nat} {e : Int} (h : Dig s.data.toList) (hm : dv s.data.toList = m) (hn : m ≠ 0 -> ng = ng') : madeV ng s e = madeV ng' ⟨(digs m).toArray⟩ e := by
 unfold madeV
 have h1 := cutL_digs h
 have h2 : cutLV ⟨(digs m).toArray⟩ one = ⟨(digs m).toArray⟩ := by
  have := cutL_digs (s := ⟨(digs m).toArray⟩) (by rw [bytes_list]; exact digs_dig m)
  rw [this, bytes_list, dv_digs]
 rw [hm] at h1
 rw [h1, h2]
 by_cases h0 : m = 0
 ·have e0 : (⟨([] : List UInt8).toArray⟩ : ByteArray) = ByteArray.empty := rfl
  rw [h0, digs_zero, if_pos e0, if_pos e0]
 ·rw [hn h0]
theorem digs_mul {m : Nat} (h : m ≠ 0) : ∀ j, digs (m * 10 ^ j) = digs m ++ List.replicate j 48
 | 0 => by simp
 | j + 1 => by
  have hp := pow_pos10 j
  have : m * 10 ^ (j + 1) = m * 10 ^ j * 10 := by rw [Nat.pow_succ, Nat.mul_assoc]
  have h1 : m * 10 ^ j ≠ 0 := Nat.mul_ne_zero h (by omega)
  rw [this, digs_pos (by omega), Nat.mul_div_cancel _ (by decide), Nat.mul_mod_left, digs_mul h j, List.replicate_succ', List.append_assoc]
  rfl
theorem trimR_zeros (l : List UInt8) (j : Nat) : Lib.trimRightS (l ++ List.replicate j 48) one.data.toList = Lib.trimRightS l one.data.toList := by
 unfold Lib.trimRightS
 rw [List.reverse_append, List.reverse_replicate]
 congr 1
 induction j with
 | zero => rfl
 | succ j ih => rw [List.replicate_succ, List.cons_append, List.dropWhile_cons, if_pos (by decide)]; exact ih
theorem digs_ne {m : Nat} (h : m ≠ 0) : (⟨(digs m).toArray⟩ : ByteArray) ≠ ByteArray.empty := fun e => by
 have := congrArg (fun b : ByteArray => b.data.toList) e
 simp only [bytes_list] at this
 exact h (digs_nil.1 this)
theorem cutL_self (m : Nat) : cutLV ⟨(digs m).toArray⟩ one = ⟨(digs m).toArray⟩ := by
 have := cutL_digs (s := ⟨(digs m).toArray⟩) (by rw [bytes_list]; exact digs_dig m)
 rw [this, bytes_list, dv_digs]
theorem made_shift {ng : Bool} {m j : Nat} {e : Int} (h : m ≠ 0) (hj : j <= 100000) (he : -100000 <= e /\ e <= 100000) (hl : (digs m).length <= 100000) : madeV ng ⟨(digs (m * 10 ^ j)).toArray⟩ e = madeV ng ⟨(digs m).toArray⟩ (e + j) := by
 have hp := pow_pos10 j
 have h1 : m * 10 ^ j ≠ 0 := Nat.mul_ne_zero h (by omega)
 unfold madeV
 rw [cutL_self, cutL_self, if_neg (digs_ne h1), if_neg (digs_ne h)]
 have e1 : cutRV ⟨(digs (m * 10 ^ j)).toArray⟩ one = cutRV ⟨(digs m).toArray⟩ one := by
  unfold cutRV
  rw [bytes_list, bytes_list, digs_mul h, trimR_zeros]
 have hr := cutR_size ⟨(digs m).toArray⟩ one
 rw [bytes_len] at hr
 simp only [e1, bytes_len]
 have e2 : (digs (m * 10 ^ j)).length = (digs m).length + j := by rw [digs_mul h, List.length_append, List.length_replicate]
 rw [e2, wrapN (i := e + (((digs m).length + j : Nat) : Int)) (by omega) (by omega), wrapN (i := e + j + ((digs m).length : Int)) (by omega) (by omega)]
 have : e + (((digs m).length + j : Nat) : Int) - ((cutRV ⟨(digs m).toArray⟩ one).size : Int) = e + j + ((digs m).length : Int) - ((cutRV ⟨(digs m).toArray⟩ one).size : Int) := by omega
 rw [this]
def mkN (k : Int) : NumT × Int := madeV (decide (k < 0)) ⟨(digs k.natAbs).toArray⟩ (-400)
theorem digs_len {m k : Nat} (h : m < 10 ^ k) : (digs m).length <= k := by
 by_cases h0 : m = 0
 ·rw [h0, digs_zero]; exact Nat.zero_le _
 ·have h1 : 10 ^ ((digs m).length - 1) <= dv (digs m) := by
   refine dv_pos ?_ (digs_dig m)
   have := drop_digs (digs m) (digs_dig m)
   rw [dv_digs] at this
   cases hd : digs m with
   | nil => exact absurd (digs_nil.1 hd) h0
   | cons x r =>
    refine ⟨x, r, rfl, fun hx => ?_⟩
    rw [hd] at this
    unfold Lib.trimLeftS at this
    have hx : x = 48 := UInt8.toNat_inj.1 hx
    rw [List.dropWhile_cons, if_pos (by rw [isOne]; simpa using hx)] at this
    have h2 := drop_len (p := fun x => one.data.toList.contains x) r
    rw [this, List.length_cons] at h2
    omega
  rw [dv_digs] at h1
  apply Classical.byContradiction
  intro hk
  have : 10 ^ k <= 10 ^ ((digs m).length - 1) := Nat.pow_le_pow_right (by decide) (by omega)
  omega
theorem made_zero (ng : Bool) (e : Int) : madeV ng ⟨(digs 0).toArray⟩ e = (zeroT, 0) := by
 unfold madeV
 rw [cutL_self, if_pos (by show (⟨(digs 0).toArray⟩ : ByteArray) = _; rw [digs_zero]; rfl)]
theorem val_key {t : NumT} {x : Int} (h0 : -400 <= x) (h1 : x <= t.2.2) : keyN t = valX t x * ((10 ^ (x + 400).toNat : Nat) : Int) := by
 have e : (t.2.2 + 400).toNat = (t.2.2 - x).toNat + (x + 400).toNat := by omega
 unfold keyN valX kN
 rw [e, Nat.pow_add, <- Nat.mul_assoc]
 cases t.1 with
 | true => simp only [if_true, Int.neg_mul, Int.natCast_mul]
 | false => simp only [Bool.false_eq_true, if_false, Int.natCast_mul]
/- Exponents that nobody works out. -/
def e40 : Nat := 40
def e800 : Nat := 800
def e840 : Nat := 840
def e2000 : Nat := 2000
theorem key_one (e : Int) : keyN (false, one, e) = 0 := by
 have h : dv one.data.toList = 0 := rfl
 unfold keyN kN
 simp only [Bool.false_eq_true, if_false, h, Nat.zero_mul]
 rfl
theorem key_zero : keyN zeroT = 0 := key_one 0
theorem val_lt {t : NumT} {x : Int} (h : numOk t) (h0 : -400 <= x) (h1 : x <= t.2.2) : (valX t x).natAbs < 10 ^ e840 := by
 obtain ⟨b1, b2, b3⟩ := numV_num h
 have hd := dv_lt _ (numOk_dig h)
 rw [list_len] at hd
 have h2 : dv t.2.1.data.toList < 10 ^ e40 := Nat.lt_of_lt_of_le hd (Nat.pow_le_pow_right (by decide) b1)
 have hx : (t.2.2 - x).toNat <= 800 := by clear hd h2; omega
 have h3 : 10 ^ (t.2.2 - x).toNat <= 10 ^ e800 := Nat.pow_le_pow_right (by decide) hx
 have h4 : dv t.2.1.data.toList * 10 ^ (t.2.2 - x).toNat < 10 ^ e40 * 10 ^ e800 := Nat.lt_of_lt_of_le (Nat.mul_lt_mul_of_pos_right h2 (pow_pos10 _)) (Nat.mul_le_mul_left _ h3)
 have e : (valX t x).natAbs = dv t.2.1.data.toList * 10 ^ (t.2.2 - x).toNat := by
  unfold valX
  cases t.1 with
  | true => rw [if_pos rfl, Int.natAbs_neg, Int.natAbs_natCast]
  | false => rw [if_neg (by simp), Int.natAbs_natCast]
 rw [e, show e840 = e40 + e800 from rfl, Nat.pow_add]
 exact h4
theorem lt_pow {a b k : Nat} (ha : a < 10 ^ k) (hb : b < 10 ^ k) : a + b < 10 ^ (k + 1) := by
 rw [Nat.pow_succ]; omega
theorem add_mk {t u : NumT} (ht : numOk t) (hu : numOk u) : addV t u = mkN (keyN t + keyN u) := by
 obtain ⟨_, b2, b3⟩ := numV_num ht
 obtain ⟨_, c2, c3⟩ := numV_num hu
 obtain ⟨l1, l2, l3⟩ := levX_le t.2.2 u.2.2
 have hx : -400 <= levX t.2.2 u.2.2 /\ levX t.2.2 u.2.2 <= 400 := by omega
 have k1 := val_key hx.1 l1
 have k2 := val_key hx.1 l2
 have v1 := val_lt ht hx.1 l1
 have v2 := val_lt hu hx.1 l2
 unfold addV
 rw [if_neg (show ¬ ¬ formN t = 0 from fun h => h ht), if_neg (show ¬ ¬ formN u = 0 from fun h => h hu)]
 simp only
 rw [k1, k2, <- Int.add_mul]
 generalize valX t (levX t.2.2 u.2.2) = A at *
 generalize valX u (levX t.2.2 u.2.2) = B at *
 generalize levX t.2.2 u.2.2 = x at *
 have hS : (A + B).natAbs < 10 ^ (e840 + 1) := Nat.lt_of_le_of_lt (Int.natAbs_add_le A B) (lt_pow v1 v2)
 clear v1 v2 k1 k2
 generalize A + B = S at *
 have hp := pow_pos10 (x + 400).toNat
 unfold mkN
 have hsg : decide (S * ((10 ^ (x + 400).toNat : Nat) : Int) < 0) = decide (S < 0) := by
  rw [decide_eq_decide]
  constructor
  ·intro h
   apply Classical.byContradiction
   intro hn
   have : 0 <= S * ((10 ^ (x + 400).toNat : Nat) : Int) := Int.mul_nonneg (by omega) (by omega)
   omega
  ·intro h
   exact Int.mul_neg_of_neg_of_pos h (by omega)
 rw [hsg, Int.natAbs_mul, Int.natAbs_natCast]
 by_cases h0 : S = 0
 ·rw [h0]
  show madeV _ ⟨(digs 0).toArray⟩ _ = madeV _ ⟨(digs (0 * _)).toArray⟩ _
  rw [Nat.zero_mul, made_zero, made_zero]
 ·rw [made_shift (by omega) (by omega) (by omega) (Nat.le_trans (digs_len hS) (by decide))]
  rw [show (-400 : Int) + ((x + 400).toNat : Int) = x by omega]
theorem trimR_split (l : List UInt8) : ∃ z, l = Lib.trimRightS l one.data.toList ++ List.replicate z 48 := by
 induction l using snoc_ind with
 | h0 => exact ⟨0, rfl⟩
 | h1 l x ih =>
  by_cases c : x = 48
  ·obtain ⟨z, hz⟩ := ih
   refine ⟨z + 1, ?_⟩
   have h1 : Lib.trimRightS (l ++ [48]) one.data.toList = Lib.trimRightS l one.data.toList := trimR_zeros l 1
   rw [c, h1, List.replicate_succ', <- List.append_assoc, <- hz]
  ·refine ⟨0, ?_⟩
   unfold Lib.trimRightS
   rw [List.reverse_append, List.reverse_singleton, List.singleton_append, List.dropWhile_cons, if_neg (by rw [isOne]; simpa using c), List.reverse_cons, List.reverse_reverse]
   simp
theorem mk_key {k : Int} {t : NumT} (hk : k.natAbs < 10 ^ e2000) (h : mkN k = (t, 0)) : numOk t /\ keyN t = k := by
 unfold mkN at h
 by_cases h0 : k = 0
 ·rw [h0] at h ⊢
  have h : madeV (decide ((0 : Int) < 0)) ⟨(digs 0).toArray⟩ (-400) = (t, 0) := h
  rw [made_zero] at h
  cases h
  exact ⟨rfl, key_zero⟩
 ·have hm : k.natAbs ≠ 0 := by omega
  have hl := digs_len hk
  have hl : (digs k.natAbs).length <= 2000 := hl
  clear hk
  unfold madeV at h
  rw [cutL_self, if_neg (digs_ne hm)] at h
  simp only at h
  split at h
  ·rename_i hf
   cases h
   refine ⟨hf, ?_⟩
   obtain ⟨z, hz⟩ := trimR_split (digs k.natAbs)
   have hr : (cutRV ⟨(digs k.natAbs).toArray⟩ one).data.toList = Lib.trimRightS (digs k.natAbs) one.data.toList := by
    unfold cutRV; rw [bytes_list, bytes_list]
   have hsz : (cutRV ⟨(digs k.natAbs).toArray⟩ one).size = (Lib.trimRightS (digs k.natAbs) one.data.toList).length := by rw [<- list_len, hr]
   have hlen : (digs k.natAbs).length = (Lib.trimRightS (digs k.natAbs) one.data.toList).length + z := by
    have := congrArg List.length hz
    rwa [List.length_append, List.length_replicate] at this
   have hdv : k.natAbs = dv (Lib.trimRightS (digs k.natAbs) one.data.toList) * 10 ^ z := by
    have := congrArg dv hz
    rw [dv_digs, dv_append, dv_zeros, List.length_replicate] at this
    omega
   rw [bytes_len, hsz, wrapN (i := -400 + ((digs k.natAbs).length : Int)) (by omega) (by omega), wrapN (by omega) (by omega)]
   unfold keyN kN
   simp only
   rw [hr, show (-400 + ((digs k.natAbs).length : Int) - ((Lib.trimRightS (digs k.natAbs) one.data.toList).length : Int) + 400).toNat = z by omega, <- hdv]
   by_cases hneg : k < 0
   ·rw [decide_eq_true hneg, if_pos rfl]; omega
   ·rw [decide_eq_false hneg, if_neg (by simp)]; omega
  ·cases h
theorem trimR_last {l r : List UInt8} {x : UInt8} (h : l = r ++ [x]) (hx : x.toNat ≠ 48) : Lib.trimRightS l one.data.toList = l := by
 unfold Lib.trimRightS
 have hc : ¬ (x = 48) := fun e => hx (by rw [e]; rfl)
 rw [h, List.reverse_append, List.reverse_singleton, List.singleton_append, List.dropWhile_cons, if_neg (by rw [isOne]; simpa using hc), List.reverse_cons, List.reverse_reverse]
theorem key_lt {t : NumT} (h : numOk t) : (keyN t).natAbs < 10 ^ e840 := by
 obtain ⟨b1, b2, b3⟩ := numV_num h
 have := val_lt h (x := -400) (by omega) b2
 rw [val_key (x := -400) (by omega) b2]
 simpa using this
theorem add_some {t u r : NumT} (ht : numOk t) (hu : numOk u) (h : addV t u = (r, 0)) : numOk r /\ keyN r = keyN t + keyN u := by
 rw [add_mk ht hu] at h
 refine mk_key ?_ h
 have h1 := key_lt ht
 have h2 := key_lt hu
 have h3 : 10 ^ (e840 + 1) <= 10 ^ e2000 := Nat.pow_le_pow_right (by decide) (by decide)
 exact Nat.lt_of_le_of_lt (Int.natAbs_add_le _ _) (Nat.lt_of_lt_of_le (lt_pow h1 h2) h3)
theorem add_bad {t u : NumT} (h : ¬ (numOk t /\ numOk u)) : addV t u = (noNumT, 10) := by
 unfold addV
 by_cases ht : numOk t
 ·by_cases hu : numOk u
  ·exact absurd ⟨ht, hu⟩ h
  ·rw [if_neg (show ¬ ¬ formN t = 0 from fun h => h ht), if_pos (show ¬ formN u = 0 from hu)]
 ·rw [if_pos (show ¬ formN t = 0 from ht)]
end Go.Proofs.YtflhikakndanjaaDoor.Vk
/- Contracts of the reference of chapter 1: all; numbers' form, bit by bit. -/
namespace Go.Proofs.YtflhikakndanjaaDoor.Vk
open Go Go.Ab Go.RowKit
theorem one_str {d : List D} (h : FitL tb [.cell (.sc .s)] d) : ∃ s, d = [sD s] := by
 match d, h with
 | [a], ⟨h1, _⟩ =>
  obtain ⟨l, rfl⟩ := fits_str h1
  exact ⟨l, rfl⟩
theorem ten_at : ∀ k, k < 10 -> (mkS [48, 49, 50, 51, 52, 53, 54, 55, 56, 57]).extract k (k + 1) = ⟨[UInt8.ofNat (48 + k)].toArray⟩ := by decide +kernel
theorem tmod10 (m : Nat) : (m : Int).tmod 10 = ((m % 10 : Nat) : Int) := by
 rw [Int.tmod_eq_emod_of_nonneg (by omega)]; omega
theorem tdiv10 (m : Nat) : (m : Int).tdiv 10 = ((m / 10 : Nat) : Int) := by
 rw [Int.tdiv_eq_ediv_of_nonneg (by omega)]; omega
-- head 0 of loop 0: [t0 .sh (.cell (.sc .s)), t3 .sh (.cell (.sc (.i .i64)))]
def heads_rall : List Hd := [⟨0, [.sh (.cell (.sc .s)), .any, .any, .sh (.cell (.sc (.i .i64))), .any, .any, .any, .any, .any, .any, .any, .any, .any, .any, .any, .any, .any, .any, .any, .any, .any, .any, .any]⟩]
def entry_rall : Tree :=
 (.g 0 [.v0, (.i 0)])
def head_rall_0 : Tree :=
 (.ite (.lt .v1 (.pr .slen [.v0]))
 (.giv (.le (.i 0) .v1)
 (.ite (.lt (.pr .sat [.v0, .v1]) (.lit (.int .u8 48))) .no
 (.ite (.gt (.pr .sat [.v0, .v1]) (.lit (.int .u8 57))) .no
 (.g 0 [.v0, (.pr (.iop .add .i64) [.v1, (.i 1)])]))))
 (.rt (.gt (.pr .slen [.v0]) (.i 0))))
def trees_rall : List Tree := [head_rall_0]
noncomputable def deps_rall : List Sig := []
theorem ok_rall : check q_rall deps_rall heads_rall entry_rall trees_rall = true := by kernel_rfl
def isDig (c : UInt8) : Bool := decide (48 <= c.toNat /\ c.toNat <= 57)
theorem size_len (s : ByteArray) : s.size = s.data.toList.length := by rw [Array.length_toList]; rfl
theorem rall_ok (n : Nat) : @Ok (I n) q_rall (okD n) := by
 letI := I n
 refine fn_ok (hphi n) ok_rall (by intro q hq; simp [deps_rall] at hq)
  (fun j d ds => ∃ (s : ByteArray) (i : Nat), ds = [sD s, iD i] /\ i <= s.size /\ s.size <= lim /\ d = bD ((s.data.toList.drop i).all isDig && decide (s.data.toList ≠ [])))
  (fun j ds => (ds.getD 0 .nil).str.size - (ds.getD 1 .nil).int.toNat) ?_ ?_
 ·intro ds hf hp
  obtain ⟨s, rfl⟩ := one_str hf
  have hl := lim_sD.1 (okD_one.1 hp).2
  simp only [entry_rall, Tree.holds, Out.den, E.den, E.denL, dn, List.getD_cons_zero, List.getD_cons_succ, List.length_map, phi_1000, q_rall, phi_rall]
  exact ⟨s, 0, rfl, Nat.zero_le _, hl, rfl⟩
 ·rintro j h t d ds hj ht hf ⟨s, i, rfl, hi, hl, rfl⟩
  obtain rfl : t = head_rall_0 := by
   match j, ht with
   | 0, ht => exact (Option.some.inj ht).symm
  by_cases hlt : i < s.size
  ·obtain ⟨x, hx, _, hd⟩ := drop_get (show i < s.data.toList.length by rw [<- size_len]; exact hlt)
   have hx' : s.data.toList.getD i 0 = x := by rw [List.getD_eq_getElem?_getD, hx]; rfl
   simp only [head_rall_0, Tree.holds, Out.den, E.den, E.denL, dn, List.getD_cons_zero, List.getD_cons_succ, List.length_map, phi_1000, wrap_succ hlt hl, Int.toNat_natCast, hx']
   rw [hd, List.all_cons]
   refine ⟨fun _ => ⟨by omega, fun hb => ?_, fun hb => ⟨fun hc => ?_, fun hc => ⟨⟨s, i + 1, rfl, hlt, hl, ?_⟩, by omega⟩⟩⟩, fun h => by omega⟩
   ·rw [show isDig x = false from decide_eq_false fun h => by omega]; rfl
   ·rw [show isDig x = false from decide_eq_false fun h => by omega]; rfl
   ·rw [show isDig x = true from decide_eq_true ⟨by omega, by omega⟩]; rfl
  ·simp only [head_rall_0, Tree.holds, Out.den, E.den, E.denL, dn, List.getD_cons_zero, List.getD_cons_succ, List.length_map, phi_1000]
   refine ⟨fun h => by omega, fun _ => ?_⟩
   rw [List.drop_eq_nil_of_le (by rw [<- size_len]; omega)]
   have : ltI 0 s.size = decide (s.data.toList ≠ []) := by
    rw [Bool.eq_iff_iff, ltI_t, decide_eq_true_iff, size_len]
    rw [ne_eq, <- List.length_eq_zero_iff]
    omega
   rw [this]; rfl
theorem dig_all {l : List UInt8} : l.all isDig = true ↔ Dig l := by
 rw [List.all_eq_true]
 constructor
 ·intro h x hx; simpa [isDig] using h x hx
 ·intro h x hx; simpa [isDig] using h x hx
theorem drop_all {p : UInt8 -> Bool} : ∀ (l : List UInt8), (∀ x, x ∈ l -> p x = true) -> l.dropWhile p = []
 | [], _ => rfl
 | a :: r, h => by
  rw [List.dropWhile_cons, if_pos (h a (List.mem_cons_self ..))]
  exact drop_all r fun x hx => h x (List.mem_cons_of_mem _ hx)
theorem trim_dig {d : ByteArray} (h : Dig d.data.toList) : trimV d tenDigits = ByteArray.empty := by
 have h4 : ∀ y : UInt8, 48 <= y.toNat /\ y.toNat <= 57 -> tenDigits.data.toList.contains y = true := by
  intro y hy
  have : ∀ k : Fin 10, tenDigits.data.toList.contains (UInt8.ofNat (48 + k.val)) = true := by decide
  have := this ⟨y.toNat - 48, by omega⟩
  rw [show 48 + (y.toNat - 48) = y.toNat by omega, UInt8.ofNat_toNat] at this
  exact this
 unfold trimV Lib.trimS Lib.trimLeftS Lib.trimRightS
 have e : d.data.toList.reverse.dropWhile (tenDigits.data.toList.contains ·) = [] := drop_all _ fun x hx => h4 x (h x (List.mem_reverse.1 hx))
 rw [e]; rfl
theorem ext_last {d : ByteArray} (h : 0 < d.size) : d.extract (d.size - 1) d.size = one ↔ (d.data.toList.getD (d.size - 1) 0).toNat = 48 := by
 have hl := size_len d
 have e : (d.extract (d.size - 1) d.size).data.toList = [d.data.toList.getD (d.size - 1) 0] := by
  rw [ByteArray.data_extract, Array.toList_extract]
  have hlt : d.size - 1 < d.data.toList.length := by omega
  unfold List.extract
  rw [List.drop_eq_getElem_cons hlt, show d.size - (d.size - 1) = 1 by omega, List.take_succ_cons, List.take_zero, List.getD_eq_getElem?_getD, List.getElem?_eq_getElem hlt]
  rfl
 constructor
 ·intro h1
  rw [h1] at e
  have e : [48] = [d.data.toList.getD (d.size - 1) 0] := e
  rw [<- (List.cons.inj e).1]; rfl
 ·intro h1
  refine ByteArray.ext (Array.toList_inj.1 ?_)
  rw [e, show d.data.toList.getD (d.size - 1) 0 = 48 from UInt8.toNat_inj.1 h1]
  rfl
theorem num_iff (ng : Bool) (d : ByteArray) (e : Int) : numV ng d e = 0 ↔ (if d = one then ng = false /\ e = 0 else digV d = true /\ (d.size : Int) <= 40 /\ (d.data.toList.getD 0 0).toNat ≠ 48 /\ (d.data.toList.getD (d.size - 1) 0).toNat ≠ 48 /\ -400 <= e /\ e <= 400) := by
 have hdig : digV d = true ↔ Dig d.data.toList /\ d ≠ ByteArray.empty := by
  unfold digV
  rw [Bool.and_eq_true, decide_eq_true_iff]
  have : (d.data.toList.all fun c => decide (48 <= c.toNat /\ c.toNat <= 57)) = true ↔ Dig d.data.toList := dig_all
  rw [this]
  have : d.data.toList ≠ [] ↔ d ≠ ByteArray.empty := by
   constructor
   ·intro h1 h2; apply h1; rw [h2]; rfl
   ·intro h1 h2; exact h1 (ByteArray.ext (Array.toList_inj.1 h2))
  rw [this]
 unfold numV
 by_cases h0 : ng = false /\ d = one /\ e = 0
 ·rw [if_pos h0, if_pos h0.2.1]; simp [h0.1, h0.2.2]
 rw [if_neg h0]
 by_cases h1 : d = ByteArray.empty
 ·rw [if_pos h1, if_neg (by rw [h1]; decide)]
  constructor
  ·intro h; omega
  ·intro h; exact absurd h1 (hdig.1 h.1).2
 rw [if_neg h1]
 by_cases h2 : trimV d tenDigits = ByteArray.empty
 ·have hd := dig_trim h2
  rw [if_neg (by simp [h2])]
  have hpos : 0 < d.size := by
   rcases Nat.eq_zero_or_pos d.size with h | h
   ·exact absurd (size_zero.1 h) h1
   ·exact h
  have hx := ext_last hpos
  by_cases ho : d = one
  ·rw [if_pos ho]
   have f0 : (d.data.toList.getD 0 0).toNat = 48 := by rw [ho]; decide
   by_cases h3 : 40 < (d.size : Int)
   ·rw [if_pos h3]
    constructor
    ·intro h; omega
    ·intro h; exact absurd ⟨h.1, ho, h.2⟩ h0
   ·rw [if_neg h3, if_pos f0]
    constructor
    ·intro h; omega
    ·intro h; exact absurd ⟨h.1, ho, h.2⟩ h0
  ·rw [if_neg ho]
   have hdv : digV d = true := hdig.2 ⟨hd, h1⟩
   clear hdig h0
   by_cases h3 : 40 < (d.size : Int)
   ·rw [if_pos h3]; exact ⟨fun h => by omega, fun h => by omega⟩
   rw [if_neg h3]
   by_cases h4 : (d.data.toList.getD 0 0).toNat = 48
   ·rw [if_pos h4]; exact ⟨fun h => by omega, fun h => absurd h4 h.2.2.1⟩
   rw [if_neg h4]
   by_cases h5 : d.extract (d.size - 1) d.size = one
   ·rw [if_pos h5]; exact ⟨fun h => by omega, fun h => absurd (hx.1 h5) h.2.2.2.1⟩
   rw [if_neg h5]
   by_cases h6 : e < -400
   ·rw [if_pos h6]; exact ⟨fun h => by omega, fun h => by omega⟩
   rw [if_neg h6]
   by_cases h7 : 400 < e
   ·rw [if_pos h7]; exact ⟨fun h => by omega, fun h => by omega⟩
   rw [if_neg h7]
   exact ⟨fun _ => ⟨hdv, by omega, h4, fun h => h5 (hx.2 h), by omega, by omega⟩, fun _ => rfl⟩
 ·rw [if_pos h2]
  have hno : ¬ digV d = true := fun h => h2 (trim_dig (hdig.1 h).1)
  by_cases ho : d = one
  ·exact absurd (by rw [ho]; exact trim_dig dig_one) h2
  ·rw [if_neg ho]; exact ⟨fun h => by omega, fun h => absurd h.1 hno⟩
end Go.Proofs.YtflhikakndanjaaDoor.Vk
/- Plain laws of numbers' texts: digits ahead, exponents. -/
namespace Go.Proofs.YtflhikakndanjaaDoor.Vk
open Go Go.Ab Go.RowKit
theorem ba_ext {a b : ByteArray} (h : a.data.toList = b.data.toList) : a = b := ByteArray.ext (Array.toList_inj.1 h)
theorem dvA_snoc (acc : Nat) (l : List UInt8) (x : UInt8) : dvA acc (l ++ [x]) = dvA acc l * 10 + (x.toNat - 48) := by
 induction l generalizing acc with
 | nil => rfl
 | cons y r ih =>
  show dvA (acc * 10 + (y.toNat - 48)) (r ++ [x]) = dvA (acc * 10 + (y.toNat - 48)) r * 10 + (x.toNat - 48)
  exact ih _
theorem take_snoc {α : Type} {l : List α} {i : Nat} {x : α} (h : l[i]? = some x) : l.take (i + 1) = l.take i ++ [x] := by
 rw [List.take_add_one, h]; rfl
end Go.Proofs.YtflhikakndanjaaDoor.Vk
/- Plain laws of numbers: what is printed is read as itself; bytes likewise. -/
namespace Go.Proofs.YtflhikakndanjaaDoor.Vk
open Go Go.Ab Go.RowKit
theorem at0_cat {a b : ByteArray} (h : 0 < a.size) : at0 (a ++ b) = at0 a := by
 unfold at0
 rw [cat_list]
 cases hl : a.data.toList with
 | nil => rw [<- list_len, hl] at h; exact absurd h (by simp)
 | cons x r => rfl
theorem nil_cat (a : ByteArray) : ByteArray.empty ++ a = a := by apply ba_ext; rw [cat_list]; rfl
theorem num_first {t : NumT} (h : numOk t) : Dig t.2.1.data.toList /\ 0 < t.2.1.size /\ t.2.1.size <= 40 /\ -400 <= t.2.2 /\ t.2.2 <= 400 /\ ((t.2.1 = one /\ t.2.2 = 0) \/ at0 t.2.1 ≠ 48) := by
 obtain ⟨b1, b2, b3⟩ := numV_num h
 rcases canon h with ⟨h1, h2, h3⟩ | ⟨h1, ⟨x, r, hd, hx⟩, _⟩
 ·refine ⟨numOk_dig h, by rw [h2]; decide, b1, b2, b3, .inl ⟨h2, h3⟩⟩
 ·refine ⟨h1, by rw [<- list_len, hd]; simp, b1, b2, b3, .inr ?_⟩
  unfold at0
  rw [hd]; exact hx
theorem bvA_append (a b : List UInt8) : ∀ acc, bvA acc (a ++ b) = bvA (bvA acc a) b := by
 induction a with
 | nil => intro _; rfl
 | cons x r ih => intro acc; exact ih _
theorem byts_zero : byts 0 = [] := by rw [byts]; rfl
theorem byts_pos {n : Nat} (h : n ≠ 0) : byts n = byts (n / 256) ++ [UInt8.ofNat (n % 256)] := by rw [byts, if_neg h]
end Go.Proofs.YtflhikakndanjaaDoor.Vk
/- Plain laws: rows of digits, the lowest first. -/
namespace Go.Proofs.YtflhikakndanjaaDoor.Vk
open Go Go.Ab Go.RowKit
def lv (B : Nat) : List UInt8 -> Nat
 | [] => 0
 | x :: r => x.toNat + B * lv B r
theorem lv_append (B : Nat) : ∀ a b : List UInt8, lv B (a ++ b) = lv B a + B ^ a.length * lv B b
 | [], b => by show lv B b = 0 + 1 * lv B b; omega
 | x :: r, b => by
  show x.toNat + B * lv B (r ++ b) = (x.toNat + B * lv B r) + B ^ (r.length + 1) * lv B b
  rw [lv_append B r b, Nat.pow_succ]
  grind
def LD (B : Nat) (l : List UInt8) : Prop := ∀ x, x ∈ l -> x.toNat < B
def Top (l : List UInt8) : Prop := ∀ r x, l = r ++ [x] -> x.toNat ≠ 0
theorem lv_top {B : Nat} (hB : 0 < B) {l : List UInt8} (h : l ≠ []) (ht : Top l) : B ^ (l.length - 1) <= lv B l := by
 have e := (List.dropLast_concat_getLast h).symm
 have hx := ht _ _ e
 generalize l.getLast h = x at *
 generalize l.dropLast = r at *
 subst e
 rw [lv_append, List.length_append]
 show B ^ (r.length + 1 - 1) <= lv B r + B ^ r.length * (x.toNat + B * 0)
 rw [Nat.add_sub_cancel, Nat.mul_zero, Nat.add_zero]
 have : B ^ r.length * 1 <= B ^ r.length * x.toNat := Nat.mul_le_mul_left _ (by omega)
 omega
theorem ld_set {B : Nat} {l : List UInt8} {k : Nat} {y : UInt8} (h : LD B l) (hy : y.toNat < B) : LD B (l.set k y) := fun x hx => by
 rcases List.mem_or_eq_of_mem_set hx with h1 | h1
 ·exact h x h1
 ·rw [h1]; exact hy
theorem ld_push {B : Nat} {l : List UInt8} {y : UInt8} (h : LD B l) (hy : y.toNat < B) : LD B (l ++ [y]) := fun x hx => by
 rcases List.mem_append.1 hx with h1 | h1
 ·exact h x h1
 ·rw [List.mem_singleton.1 h1]; exact hy
theorem set_take {l : List UInt8} {k : Nat} {y : UInt8} (h : k < l.length) : (l.set k y).take (k + 1) = l.take k ++ [y] := by
 rw [List.take_add_one, List.getElem?_set_self h, List.take_set_of_le (Nat.le_refl _)]
 rfl
theorem set_drop' {l : List UInt8} {k : Nat} {y : UInt8} : (l.set k y).drop (k + 1) = l.drop (k + 1) := List.drop_set_of_lt (by omega)
theorem byte_of {v : Nat} (h : v < 256) : (UInt8.ofNat v).toNat = v := by rw [UInt8.toNat_ofNat']; omega
def MulInv (B M : Nat) (l : List UInt8) (c k N : Nat) : Prop := k <= l.length /\ LD B l /\ lv B (l.take k) + B ^ k * c + M * (B ^ k * lv B (l.drop k)) = N
theorem mul_start {B M : Nat} {l : List UInt8} {c : Nat} (h : LD B l) : MulInv B M l c 0 (c + M * lv B l) := by
 refine ⟨Nat.zero_le _, h, ?_⟩
 show 0 + 1 * c + M * (1 * lv B l) = _
 rw [Nat.one_mul, Nat.one_mul]; omega
theorem mul_step {B M : Nat} {l : List UInt8} {c k N : Nat} {x : UInt8} (hB : 0 < B) (hB2 : B <= 256) (h : MulInv B M l c k N) (hx : l[k]? = some x) : MulInv B M (l.set k (UInt8.ofNat ((c + M * x.toNat) % B))) ((c + M * x.toNat) / B) (k + 1) N := by
 obtain ⟨h1, h2, h3⟩ := h
 have hk : k < l.length := by
  apply Classical.byContradiction
  intro hn
  rw [List.getElem?_eq_none (by omega)] at hx
  cases hx
 have hm := Nat.mod_lt (c + M * x.toNat) hB
 have hy := byte_of (v := (c + M * x.toNat) % B) (by omega)
 refine ⟨by rw [List.length_set]; omega, ld_set h2 (by rw [hy]; exact hm), ?_⟩
 have hd : l.drop k = x :: l.drop (k + 1) := by
  rw [List.drop_eq_getElem_cons hk]
  rw [List.getElem?_eq_getElem hk] at hx
  rw [Option.some.inj hx]
 have hdiv := Nat.div_add_mod (c + M * x.toNat) B
 rw [set_take hk, set_drop', lv_append, List.length_take, Nat.min_eq_left (by omega)]
 rw [hd] at h3
 have h3 : lv B (l.take k) + B ^ k * c + M * (B ^ k * (x.toNat + B * lv B (l.drop (k + 1)))) = N := h3
 show lv B (l.take k) + B ^ k * ((UInt8.ofNat ((c + M * x.toNat) % B)).toNat + B * 0) + B ^ (k + 1) * ((c + M * x.toNat) / B) + M * (B ^ (k + 1) * lv B (l.drop (k + 1))) = N
 rw [hy, Nat.pow_succ]
 generalize (c + M * x.toNat) % B = y at *
 generalize (c + M * x.toNat) / B = c' at *
 generalize B ^ k = P at *
 generalize lv B (l.drop (k + 1)) = L at *
 generalize lv B (l.take k) = T at *
 have : P * (B * c' + y) = P * (c + M * x.toNat) := by rw [hdiv]
 grind
theorem mul_end {B M : Nat} {l : List UInt8} {c N : Nat} (h : MulInv B M l c l.length N) : lv B l + B ^ l.length * c = N := by
 obtain ⟨_, _, h3⟩ := h
 rw [List.take_length, List.drop_length] at h3
 have h3 : lv B l + B ^ l.length * c + M * (B ^ l.length * 0) = N := h3
 rw [Nat.mul_zero, Nat.mul_zero, Nat.add_zero] at h3
 exact h3
theorem lv_push {B : Nat} (l : List UInt8) (y : UInt8) : lv B (l ++ [y]) = lv B l + B ^ l.length * y.toNat := by
 rw [lv_append]
 show lv B l + B ^ l.length * (y.toNat + B * 0) = _
 rw [Nat.mul_zero, Nat.add_zero]
theorem top_push {l : List UInt8} {y : UInt8} (h : y.toNat ≠ 0) : Top (l ++ [y]) := fun r x e => by
 have := List.append_inj_right' e rfl
 rw [<- (List.cons.inj this).1]; exact h
theorem top_iff {l : List UInt8} : Top l ↔ ∀ x, l[l.length - 1]? = some x -> x.toNat ≠ 0 := by
 constructor
 ·intro h x hx
  have hk : l.length - 1 < l.length := by
   apply Classical.byContradiction
   intro hn
   rw [List.getElem?_eq_none (by omega)] at hx
   cases hx
  refine h (l.take (l.length - 1)) x ?_
  have := List.take_append_drop (l.length - 1) l
  rw [List.getElem?_eq_getElem hk] at hx
  rw [List.drop_eq_getElem_cons hk, Option.some.inj hx, List.drop_eq_nil_of_le (by omega)] at this
  exact this.symm
 ·intro h r x e
  refine h x ?_
  rw [e, List.length_append]
  show (r ++ [x])[r.length + 1 - 1]? = some x
  rw [Nat.add_sub_cancel, List.getElem?_append_right (Nat.le_refl _), Nat.sub_self]; rfl
theorem top_set {l : List UInt8} {k : Nat} {y : UInt8} (h : Top l) (hk : k + 1 < l.length) : Top (l.set k y) := by
 rw [top_iff] at h ⊢
 intro x hx
 rw [List.length_set, List.getElem?_set_ne (by omega)] at hx
 exact h x hx
theorem top_last {l : List UInt8} {k : Nat} {y : UInt8} (hy : y.toNat ≠ 0) (hk : k + 1 = l.length) : Top (l.set k y) := by
 rw [top_iff]
 intro x hx
 rw [List.length_set, show l.length - 1 = k by omega, List.getElem?_set_self (by omega)] at hx
 rw [<- Option.some.inj hx]; exact hy
theorem top_at {l : List UInt8} {k : Nat} {x : UInt8} (h : Top l) (hx : l[k]? = some x) (hk : k + 1 = l.length) : x.toNat ≠ 0 := by
 refine top_iff.1 h x ?_
 rw [show l.length - 1 = k by omega]; exact hx
def asc (x : UInt8) : UInt8 := UInt8.ofNat (x.toNat + 48)
theorem asc_nat {x : UInt8} (h : x.toNat < 10) : (asc x).toNat = x.toNat + 48 := by unfold asc; rw [UInt8.toNat_ofNat']; omega
theorem asc_dig {l : List UInt8} (h : LD 10 l) : Dig (l.map asc).reverse := fun x hx => by
 rw [List.mem_reverse, List.mem_map] at hx
 obtain ⟨y, hy, rfl⟩ := hx
 have := h y hy
 rw [asc_nat this]; omega
theorem asc_dv : ∀ l : List UInt8, LD 10 l -> dv (l.map asc).reverse = lv 10 l
 | [], _ => rfl
 | x :: r, h => by
  have h1 := asc_dv r fun y hy => h y (List.mem_cons_of_mem _ hy)
  have h2 := asc_nat (h x (List.mem_cons_self ..))
  rw [List.map_cons, List.reverse_cons, show dv ((r.map asc).reverse ++ [asc x]) = dv (r.map asc).reverse * 10 + ((asc x).toNat - 48) from dvA_snoc 0 _ _, h1, h2]
  show lv 10 r * 10 + (x.toNat + 48 - 48) = x.toNat + 10 * lv 10 r
  omega
def mid (l : List UInt8) (k : Nat) : List UInt8 := (l.take k).map asc ++ l.drop k
theorem mid_len {l : List UInt8} {k : Nat} (h : k <= l.length) : (mid l k).length = l.length := by
 unfold mid
 rw [List.length_append, List.length_map, List.length_take, List.length_drop]; omega
theorem mid_get {l : List UInt8} {k : Nat} (h : k < l.length) : (mid l k)[k]? = l[k]? := by
 unfold mid
 rw [List.getElem?_append_right (by rw [List.length_map, List.length_take]; omega), List.length_map, List.length_take, Nat.min_eq_left (by omega), Nat.sub_self, List.getElem?_drop, Nat.add_zero]
theorem mid_set {l : List UInt8} {k : Nat} {x : UInt8} (h : l[k]? = some x) : (mid l k).set k (asc x) = mid l (k + 1) := by
 have hk : k < l.length := by
  apply Classical.byContradiction
  intro hn
  rw [List.getElem?_eq_none (by omega)] at h
  cases h
 have hd : l.drop k = x :: l.drop (k + 1) := by
  rw [List.drop_eq_getElem_cons hk]
  rw [List.getElem?_eq_getElem hk] at h
  rw [Option.some.inj h]
 unfold mid
 rw [List.set_append_right _ _ (by rw [List.length_map, List.length_take]; omega), List.length_map, List.length_take, Nat.min_eq_left (by omega), Nat.sub_self, hd, List.set_cons_zero, List.take_add_one, h, Option.toList_some, List.map_append, List.append_assoc]
 rfl
theorem mid_all (l : List UInt8) : mid l l.length = l.map asc := by
 unfold mid
 rw [List.take_length, List.drop_length, List.append_nil]
theorem byts_rev : ∀ l : List UInt8, (l ≠ [] -> Top l) -> l.reverse = byts (lv 256 l)
 | [], _ => by
  show [] = byts 0
  rw [byts_zero]
 | x :: r, h => by
  have hx : x.toNat < 256 := x.toNat_lt
  show (x :: r).reverse = byts (x.toNat + 256 * lv 256 r)
  have hne : x.toNat + 256 * lv 256 r ≠ 0 := fun h0 => by
   have := lv_top (B := 256) (by decide) (l := x :: r) (by simp) (h (by simp))
   have h1 : lv 256 (x :: r) = 0 := h0
   rw [h1] at this
   have := Nat.pow_pos (n := (x :: r).length - 1) (show 0 < 256 by decide)
   omega
  rw [byts_pos hne, show (x.toNat + 256 * lv 256 r) / 256 = lv 256 r by omega, show (x.toNat + 256 * lv 256 r) % 256 = x.toNat by omega, UInt8.ofNat_toNat, List.reverse_cons]
  have ih := byts_rev r fun hr => fun q y e => h (by simp) (x :: q) y (by rw [e]; rfl)
  rw [ih]
theorem bv_snoc (l : List UInt8) (x : UInt8) (acc : Nat) : bvA acc (l ++ [x]) = bvA acc l * 256 + x.toNat := by
 rw [bvA_append]; rfl
theorem bv_le : ∀ (l : List UInt8) (acc : Nat), acc <= bvA acc l
 | [], acc => Nat.le_refl _
 | x :: r, acc => Nat.le_trans (by omega) (bv_le r (acc * 256 + x.toNat))
theorem bv_lt : ∀ (l : List UInt8) (acc k : Nat), acc < 10 ^ k -> bvA acc l < 10 ^ (k + 3 * l.length)
 | [], acc, k, h => h
 | x :: r, acc, k, h => by
  have hx : x.toNat < 256 := x.toNat_lt
  have h1 : acc * 256 + x.toNat < 10 ^ (k + 3) := by
   rw [Nat.pow_add]
   have e : (10 : Nat) ^ 3 = 1000 := by decide
   rw [e]; omega
  have := bv_lt r (acc * 256 + x.toNat) (k + 3) h1
  rw [List.length_cons, show k + 3 * (r.length + 1) = k + 3 + 3 * r.length by omega]
  exact this
def e443 : Nat := 443
theorem made_far {ng : Bool} {m : Nat} (h : 10 ^ e443 <= m) (hm : (digs m).length <= 5000000) : madeV ng ⟨(digs m).toArray⟩ 0 = (noNumT, 2) := by
 have h0 : m ≠ 0 := by have := pow_pos10 e443; omega
 have hl : e443 < (digs m).length := by
  have h1 := dv_lt _ (digs_dig m)
  rw [dv_digs] at h1
  exact (Nat.pow_lt_pow_iff_right (by decide)).1 (Nat.lt_of_le_of_lt h h1)
 have hl : 443 < (digs m).length := hl
 have hr := cutR_size ⟨(digs m).toArray⟩ one
 rw [bytes_len (digs m)] at hr
 unfold madeV
 rw [cutL_self, if_neg (digs_ne h0)]
 simp only [bytes_len (digs m)]
 rw [wrapN (i := 0 + ((digs m).length : Int)) (by omega) (by omega), wrapN (by omega) (by omega), if_neg]
 intro hv
 obtain ⟨g1, g2, g3⟩ := numV_num hv
 omega
end Go.Proofs.YtflhikakndanjaaDoor.Vk
/- Contract: num.Add. -/
namespace Go.Proofs.YtflhikakndanjaaDoor.Vk
open Go Go.Ab Go.RowKit
theorem wrapI {i : Int} (h0 : -4611686018427387904 <= i) (h : i <= 4611686018427387904) : IntKind.i64.wrap i = i := wrap_id (by omega) (by omega)
theorem bytes_rep (k : Nat) : Prim.rep.den [iD (k : Int), .row [.v (.int .u8 0)]] = bytesD (List.replicate k 0) := by
 show D.lst (List.replicate k _) = _
 unfold bytesD
 rw [List.map_replicate]; rfl
theorem bytes_upd (l : List UInt8) (j : Nat) (v : Int) (h0 : 0 <= v) (h1 : v < 256) : Prim.upd.den [bytesD l, iD (j : Int), .row [.v (.int .u8 v)]] = bytesD (l.set j (UInt8.ofNat v.toNat)) := by
 show D.lst ((l.map _).set j _) = _
 unfold bytesD
 rw [List.map_set, UInt8.toNat_ofNat']
 have : (((v.toNat % 2 ^ 8 : Nat)) : Int) = v := by omega
 rw [this]
theorem bytes_rows (l : List UInt8) : (bytesD l).rows.length = l.length := by
 show (l.map _).length = _; rw [List.length_map]
theorem push_all : ∀ (l : List UInt8) (acc : ByteArray), (l.map fun c => D.row [.v (.int .u8 c.toNat)]).foldl (fun r d => r.push (UInt8.ofNat (d.cells.getD 0 .nil).int.toNat)) acc = acc ++ ⟨l.toArray⟩
 | [], acc => by
  apply ByteArray.ext
  rw [ByteArray.data_append]; simp
 | c :: r, acc => by
  rw [List.map_cons, List.foldl_cons, push_all r]
  have : (UInt8.ofNat (((D.row [.v (.int .u8 c.toNat)]).cells.getD 0 .nil).int.toNat)) = c := by
   show UInt8.ofNat c.toNat = c
   exact UInt8.ofNat_toNat
  rw [this]
  apply ByteArray.ext
  rw [ByteArray.data_append, ByteArray.data_append, ByteArray.data_push]
  apply Array.toList_inj.1
  simp
theorem bytes_text (l : List UInt8) (a : Nat) (b : Int) (h : (l.length : Int) = b) : Prim.sofl.den [Prim.sub.den [bytesD l, iD (a : Int), iD b]] = sD ⟨(l.drop a).toArray⟩ := by
 subst h
 show D.ofStr ((((l.map _).take l.length).drop a).foldl _ .empty) = _
 rw [List.take_of_length_le (by rw [List.length_map]; omega), <- List.map_drop, push_all]
 show D.v (.string _) = D.v (.string _)
 congr 2
theorem wrap8 {i : Int} (h0 : 0 <= i) (h : i < 256) : IntKind.u8.wrap i = i := by
 unfold IntKind.wrap
 have e : (2 ^ IntKind.u8.bits : Int) = 256 := rfl
 have e3 : IntKind.u8.signed = false := rfl
 simp only [e, e3, Bool.false_and, Bool.false_eq_true, if_false]
 omega
theorem dig_at {l : List UInt8} (h : Dig l) {j : Nat} {x : UInt8} (hx : l[j]? = some x) : 48 <= x.toNat /\ x.toNat <= 57 := h x (List.mem_of_getElem? hx)
theorem num_at0 (t : NumT) : cellAt (numD t) 0 = bD t.1 := rfl
theorem num_at1 (t : NumT) : cellAt (numD t) 1 = sD t.2.1 := rfl
theorem num_at2 (t : NumT) : cellAt (numD t) 2 = iD t.2.2 := rfl
theorem num_put (t : NumT) : D.row [bD t.1, sD t.2.1, iD t.2.2] = numD t := rfl
-- head 0 of loop 0: [t4 .bx 24 107374182400, t6 .sh (.cell (.sc .s)), t7 .sh (.cell (.sc .s)), t8 .sh (.cell (.sc (.i .i64))), t9 .sh (.cell (.sc .b)), t10 .sh (.cell (.sc (.i .i64))), t11 .ap 5 842 691489734656, t12 .sh (.cell (.sc (.i .i64))), t13 .sh (.cell (.sc (.i .i64))), t14 .sh (.cell (.sc (.i .i64)))]
end Go.Proofs.YtflhikakndanjaaDoor.Vk
/- The chapter's examples; numbers three by three. -/
namespace Go.Proofs.YtflhikakndanjaaDoor.Vk
open Go Go.Ab Go.RowKit
def heads_nawake : List Hd := []
def entry_nawake : Tree :=.ye
def trees_nawake : List Tree := []
noncomputable def deps_nawake : List Sig := []
theorem ok_nawake : check q_nawake deps_nawake heads_nawake entry_nawake trees_nawake = true := by kernel_rfl
theorem nawake_ok (n : Nat) : @Ok (I n) q_nawake (okD n) := by
 letI := I n
 refine fn_ok (hphi n) ok_nawake (by intro q hq; simp [deps_nawake] at hq) (fun _ _ _ => False) (fun _ _ => 0) ?_ (fun j h t d ds hj => by simp [heads_nawake] at hj)
 intro ds hf hp
 have : ds = [] := by
  match ds, hf with
  | [], _ => rfl
 subst this
 simp only [entry_nawake, q_nawake, Tree.holds, Out.den, E.den, E.denL, dn, List.getD_cons_zero, List.getD_cons_succ, List.length_map, phi_1000, phi_nawake]
theorem sz_numD (t : NumT) : (numD t).sz = 4 := rfl
theorem lim_numD (t : NumT) : (numD t).Lim ↔ t.2.1.size <= lim := by
 unfold numD
 simp only [D.Lim, D.LimL, and_true, true_and]
theorem add_ok {t u r : NumT} (h : addV t u = (r, 0)) : numOk t /\ numOk u /\ numOk r /\ keyN r = keyN t + keyN u := by
 by_cases hc : numOk t /\ numOk u
 ·obtain ⟨g1, g2⟩ := add_some hc.1 hc.2 h
  exact ⟨hc.1, hc.2, g1, g2⟩
 ·rw [add_bad hc] at h; cases h
theorem add_assoc {a b c x y : NumT} (h1 : addV a b = (x, 0)) (h2 : addV b c = (y, 0)) : addV x c = addV a y := by
 obtain ⟨a1, a2, a3, a4⟩ := add_ok h1
 obtain ⟨b1, b2, b3, b4⟩ := add_ok h2
 rw [add_mk a3 b2, add_mk a1 b3, a4, b4, Int.add_assoc]
theorem add_comm (a b : NumT) : addV a b = addV b a := by
 by_cases h : numOk a /\ numOk b
 ·rw [add_mk h.1 h.2, add_mk h.2 h.1, Int.add_comm]
 ·rw [add_bad h, add_bad fun h' => h ⟨h'.2, h'.1⟩]
end Go.Proofs.YtflhikakndanjaaDoor.Vk
/- Contracts of the reference of chapter 1: Is, Made, Small, Whole. -/
namespace Go.Proofs.YtflhikakndanjaaDoor.Vk
open Go Go.Ab Go.RowKit
def heads_qis : List Hd := []
def entry_qis : Tree :=
 (.ite (.pr (.scmp .eql) [(.c 1 .v0), (.lit (.string (mkS [48])))])
 (.ite (.c 0 .v0) .no
 (.rt (.eq (.c 2 .v0) (.i 0))))
 (.giv (.app 1000 [(.c 1 .v0)])
 (.ite (.app 36 [(.c 1 .v0)])
 (.ite (.le (.pr .slen [(.c 1 .v0)]) (.i 40))
 (.giv (.lt (.i 0) (.pr .slen [(.c 1 .v0)]))
 (.ite (.ne (.pr .sat [(.c 1 .v0), (.i 0)]) (.lit (.int .u8 48)))
 (.giv (.le (.i 0) (.pr (.iop .sub .i64) [(.pr .slen [(.c 1 .v0)]), (.i 1)]))
 (.giv (.lt (.pr (.iop .sub .i64) [(.pr .slen [(.c 1 .v0)]), (.i 1)]) (.pr .slen [(.c 1 .v0)]))
 (.ite (.ne (.pr .sat [(.c 1 .v0), (.pr (.iop .sub .i64) [(.pr .slen [(.c 1 .v0)]), (.i 1)])]) (.lit (.int .u8 48)))
 (.ite (.ge (.c 2 .v0) (.i (-400)))
 (.rt (.le (.c 2 .v0) (.i 400))) .no) .no))) .no)) .no) .no)))
def trees_qis : List Tree := []
noncomputable def deps_qis : List Sig := [q_rall]
theorem ok_qis : check q_qis deps_qis heads_qis entry_qis trees_qis = true := by kernel_rfl
theorem qis_ok (n : Nat) : @Ok (I n) q_qis (okD n) := by
 letI := I n
 refine fn_ok (hphi n) ok_qis (by
  intro q hq
  simp only [deps_qis, List.mem_singleton] at hq
  subst hq
  exact rall_ok n) (fun _ _ _ => False) (fun _ _ => 0) ?_ (fun j h t d ds hj => by simp [heads_qis] at hj)
 intro ds hf hp
 obtain ⟨a, d, e, rfl⟩ := one_num hf
 have hpn := okD_one.1 hp
 have hd : d.size <= lim := (lim_numD (a, d, e)).1 hpn.2
 have hsz : (numD (a, d, e)).sz < n := hpn.1
 rw [sz_numD] at hsz
 have o1 : okD n [sD d] := okD_one.2 ⟨by rw [sz_sD]; omega, lim_sD.2 hd⟩
 have hw : digV d = true -> 0 < d.size /\ IntKind.i64.wrap ((d.size : Int) - 1) = ((d.size - 1 : Nat) : Int) := fun h => by
  have h : d.data.toList ≠ [] := by
   unfold digV at h
   rw [Bool.and_eq_true, decide_eq_true_iff] at h
   exact h.2
  have : 0 < d.size := by
   rw [size_len]
   exact List.length_pos_iff.2 h
  have hs : d.size <= 140737488355328 := hd
  exact ⟨this, by rw [wrap_id (by omega) (by omega)]; omega⟩
 have h3 := num_iff a d e
 have ho : (mkS [48]) = one := rfl
 have hq : @Interp.phi (I n) q_qis.g [D.row [bD a, sD d, iD e]] = bD (decide (numV a d e = 0)) := rfl
 simp only [entry_qis, Tree.holds, Out.den, E.den, E.denL, dn, List.getD_cons_zero, List.getD_cons_succ, List.length_map, phi_1000, ho, phi_rall, hq, o1, row_at0, row_at1, row_at2]
 have hle : ∀ a b : Int, leI a b = decide (a <= b) := fun _ _ => rfl
 have he : ∀ a b : Int, eqI a b = decide (a = b) := fun _ _ => rfl
 simp only [hle, he]
 clear hq hf hp hpn hsz o1
 have h3 : decide (numV a d e = 0) = true ↔ _ := decide_eq_true_iff.trans h3
 generalize decide (numV a d e = 0) = F at *
 have no : ∀ (p : Prop), (F = true -> p) -> ¬ p -> D.v (.bool false) = bD F := fun p h1 h2 => by
  cases F with
  | false => rfl
  | true => exact absurd (h1 rfl) h2
 have ye : ∀ (b : Bool), (F = true ↔ b = true) -> bD b = bD F := fun b h => by rw [Bool.eq_iff_iff.2 h]
 by_cases e1 : d = one
 ·rw [if_pos e1] at h3
  refine ⟨fun _ => ⟨fun hb => no _ (fun h => (h3.1 h).1) (by rw [hb]; decide), fun hb => ye _ ?_⟩, fun h => absurd e1 h⟩
  rw [h3, decide_eq_true_iff]; exact ⟨fun h => h.2, fun h => ⟨hb, h⟩⟩
 ·rw [if_neg e1] at h3
  refine ⟨fun h => absurd h e1, fun _ => ⟨fun hd => ?_, fun hd => no _ (fun h => (h3.1 h).1) (by rw [hd]; decide)⟩⟩
  obtain ⟨w1, w2⟩ := hw hd
  rw [w2]
  simp only [Int.toNat_natCast, Int.toNat_zero]
  refine ⟨fun c1 => ⟨by omega, fun c2 => ⟨by omega, by omega, fun c3 => ⟨fun c4 => ye _ ?_, fun c4 => no _ (fun h => (h3.1 h).2.2.2.2.1) c4⟩, fun c3 => no _ (fun h => (h3.1 h).2.2.2.1) (by omega)⟩, fun c2 => no _ (fun h => (h3.1 h).2.2.1) (by omega)⟩, fun c1 => no _ (fun h => (h3.1 h).2.1) c1⟩
  rw [h3, decide_eq_true_iff]
  exact ⟨fun h => h.2.2.2.2.2, fun h => ⟨hd, c1, by omega, by omega, c4, h⟩⟩
theorem u48 {c : UInt8} (h : (c.toNat : Int) = 48) : c = 48 := UInt8.toNat_inj.1 (by show c.toNat = 48; omega)
theorem ext_list (d : ByteArray) (a b : Nat) : (d.extract a b).data.toList = (d.data.toList.drop a).take (b - a) := by
 rw [ByteArray.data_extract, Array.toList_extract]
def madeZ (ng : Bool) (d : ByteArray) (e : Int) : NumT × Int :=
 let r := cutRV d one
 let x := wrap (wrap (e + d.size) - r.size)
 if numV ng r x = 0 then ((ng, r, x), 0) else (noNumT, 2)
theorem made_def (ng : Bool) (d : ByteArray) (e : Int) : madeV ng d e = if cutLV d one = ByteArray.empty then (zeroT, 0) else madeZ ng (cutLV d one) e := rfl
def numB (r : NumT × Int) : D := .row [numD r.1, bD (decide (r.2 = 0))]
theorem cutL_cons {d : ByteArray} (h : 0 < d.size) : (d.data.toList.getD 0 0 = 48 -> cutLV d one = cutLV (d.extract 1 d.size) one) /\ (d.data.toList.getD 0 0 ≠ 48 -> cutLV d one = d) := by
 cases hl : d.data.toList with
 | nil =>
  rw [<- list_len, hl] at h
  exact absurd h (by simp)
 | cons x r =>
  have e1 : (d.extract 1 d.size).data.toList = r := by
   rw [ext_list, hl, List.drop_succ_cons, List.drop_zero, <- list_len, hl, List.length_cons, Nat.add_sub_cancel, List.take_length]
  show (x = 48 -> _) /\ (x ≠ 48 -> _)
  unfold cutLV Lib.trimLeftS
  rw [e1, hl, List.dropWhile_cons]
  refine ⟨fun hx => by rw [if_pos (by rw [isOne]; simpa using hx)], fun hx => ?_⟩
  rw [if_neg (by rw [isOne]; simpa using hx), <- hl]
theorem cutL_none {d : ByteArray} (h : d.size = 0) : cutLV d one = ByteArray.empty := by
 have : d.data.toList = [] := List.eq_nil_of_length_eq_zero (by rw [list_len]; exact h)
 unfold cutLV
 rw [this]; rfl
theorem cutR_last {d : ByteArray} (h : 0 < d.size) : (d.data.toList.getD (d.size - 1) 0 = 48 -> cutRV d one = cutRV (d.extract 0 (d.size - 1)) one) /\ (d.data.toList.getD (d.size - 1) 0 ≠ 48 -> cutRV d one = d) := by
 have hne : d.data.toList ≠ [] := fun e => by rw [<- list_len, e] at h; exact absurd h (by simp)
 have hd := (List.dropLast_concat_getLast hne).symm
 have hg : d.data.toList.getD (d.size - 1) 0 = d.data.toList.getLast hne := by
  rw [List.getD_eq_getElem?_getD, <- list_len, List.getElem?_eq_getElem (by rw [list_len]; omega), List.getLast_eq_getElem]; rfl
 have e1 : (d.extract 0 (d.size - 1)).data.toList = d.data.toList.dropLast := by
  rw [ext_list, List.drop_zero, List.dropLast_eq_take, list_len]; rfl
 rw [hg]
 generalize d.data.toList.getLast hne = x at *
 refine ⟨fun hx => ?_, fun hx => ?_⟩
 ·unfold cutRV
  rw [e1]
  have := trimR_zeros d.data.toList.dropLast 1
  rw [hx] at hd
  have hd : d.data.toList = d.data.toList.dropLast ++ List.replicate 1 48 := hd
  rw [<- hd] at this
  rw [this]
 ·unfold cutRV
  rw [trimR_last hd fun h => hx (UInt8.toNat_inj.1 h)]
-- head 0 of loop 0: [t0 .sh (.cell (.sc .b)), t1 .sh (.cell (.sc .s)), t2 .sh (.cell (.sc (.i .i64))), t6 .bx 24 107374182400]
-- head 1 of loop 1: [t0 .sh (.cell (.sc .b)), t1 .sh (.cell (.sc .s)), t2 .sh (.cell (.sc (.i .i64))), t6 .bx 24 107374182400]
def heads_qmade : List Hd := [⟨0, [.sh (.cell (.sc .b)), .sh (.cell (.sc .s)), .sh (.cell (.sc (.i .i64))), .any, .any, .any, .bx 24 107374182400, .any, .any, .any, .any, .any, .any, .any, .any, .any, .any, .any, .any, .any, .any, .any, .any, .any, .any, .any, .any, .any, .any, .any, .any, .any, .any, .any, .any, .any, .any, .any, .any, .any, .any, .any, .any, .any]⟩, ⟨1, [.sh (.cell (.sc .b)), .sh (.cell (.sc .s)), .sh (.cell (.sc (.i .i64))), .any, .any, .any, .bx 24 107374182400, .any, .any, .any, .any, .any, .any, .any, .any, .any, .any, .any, .any, .any, .any, .any, .any, .any, .any, .any, .any, .any, .any, .any, .any, .any, .any, .any, .any, .any, .any, .any, .any, .any, .any, .any, .any, .any]⟩]
def eZ7 : E := (.pr .row [(.lit (.bool false)), (.lit (.string .empty)), (.i 0)])
def eZ8 : E := (.pr .slen [.v1])
def eZ9 : E := (.pr (.scmp .eql) [.v1, (.lit (.string .empty))])
def eZ10 : E := (.pr .row [(.pr .row [(.lit (.bool false)), (.lit (.string (mkS [48]))), (.i 0)]), (.lit (.bool true))])
def eZ11 : E := (.pr (.iop .sub .i64) [eZ8, (.i 1)])
def eZ12 : E := (.pr .row [.v0, .v1, .v2])
def entry_qmade : Tree :=
 (.g 0 [.v0, .v1, .v2, eZ7])
def head_qmade_0 : Tree :=
 (.ite (.gt eZ8 (.i 0))
 (.giv (.lt (.i 0) eZ8)
 (.ite (.eq (.pr .sat [.v1, (.i 0)]) (.lit (.int .u8 48)))
 (.giv (.le (.i 1) eZ8)
 (.g 0 [.v0, (.pr .ssub [.v1, (.i 1), eZ8]), .v2, (.r3 .v3)]))
 (.ite eZ9
 (.rt eZ10)
 (.g 1 [.v0, .v1, .v2, (.r3 .v3)]))))
 (.ite eZ9
 (.rt eZ10)
 (.g 1 [.v0, .v1, .v2, (.r3 .v3)])))
def head_qmade_1 : Tree :=
 (.giv (.le (.i 0) eZ11)
 (.giv (.lt eZ11 eZ8)
 (.ite (.eq (.pr .sat [.v1, eZ11]) (.lit (.int .u8 48)))
 (.giv (.le eZ11 eZ8)
 (.g 1 [.v0, (.pr .ssub [.v1, (.i 0), eZ11]), (.pr (.iop .add .i64) [.v2, (.i 1)]), (.r3 .v3)]))
 (.giv (.app 1000 [eZ12])
 (.ite (.app 96 [eZ12])
 (.rt (.pr .row [eZ12, (.lit (.bool true))]))
 (.rt (.pr .row [eZ7, (.lit (.bool false))])))))))
def trees_qmade : List Tree := [head_qmade_0, head_qmade_1]
noncomputable def deps_qmade : List Sig := [q_qis]
theorem ok_qmade : check q_qmade deps_qmade heads_qmade entry_qmade trees_qmade = true := by kernel_rfl
theorem qmade_more (n : Nat) : @Ok (I n) q_qmade (fun ds => @okS (I n) n q_qmade.g ds /\ 10 < n) := by
 letI := I n
 refine fn_ok (hphi n) ok_qmade (by
  intro q hq
  simp only [deps_qmade, List.mem_singleton] at hq
  subst hq
  exact qis_ok n)
  (fun j dd ds => ∃ (ng : Bool) (d : ByteArray) (e : Int) (r : D), ds = [bD ng, sD d, iD e, r] /\ d.size <= lim /\ 10 < n /\ -1099511627776 <= e /\ e + d.size <= 1099511627776 + 140737488355328 /\
   ((j = 0 /\ dd = numB (madeV ng d e)) \/ (j = 1 /\ 0 < d.size /\ d.data.toList.getD 0 0 ≠ 48 /\ dd = numB (madeZ ng d e))))
  (fun j ds => (ds.getD 1 .nil).str.size + (if j = 0 then 1 else 0)) ?_ ?_
 ·intro ds hf hp
  obtain ⟨a, d, e, rfl⟩ := made_args hf
  obtain ⟨⟨⟨h1, h2⟩, h3⟩, hn⟩ := hp
  obtain ⟨p1, p2⟩ := (pre_qmade n a d e).1 (h3 rfl)
  simp only [D.LimL, and_true] at h2
  have hd : d.size <= lim := lim_sD.1 h2.2.1
  have hd' : d.size <= 140737488355328 := hd
  simp only [entry_qmade, eZ7, eZ8, eZ9, eZ10, eZ11, eZ12, q_qmade, Tree.holds, Out.den, E.den, E.denL, dn, List.getD_cons_zero, List.getD_cons_succ, List.length_map, phi_1000, phi_qmade]
  exact ⟨a, d, e, _, rfl, hd, hn, p1, by omega, .inl rfl⟩
 ·rintro j h t dd ds hj ht hf ⟨ng, d, e, r, rfl, hd, hn, p1, p2, ⟨rfl, rfl⟩ | ⟨rfl, hpos, hfst, rfl⟩⟩
  ·obtain rfl : t = head_qmade_0 := (Option.some.inj ht).symm
   have ho : (mkS [48]) = one := rfl
   simp only [head_qmade_0, eZ7, eZ8, eZ9, eZ10, eZ11, eZ12, Tree.holds, Out.den, E.den, E.denL, dn, List.getD_cons_zero, List.getD_cons_succ, List.length_map, phi_1000, ho, Int.toNat_zero]
   have hsz : d = ByteArray.empty -> d.size = 0 := fun h => by rw [h]; rfl
   by_cases hz : 0 < d.size
   ·obtain ⟨g1, g2⟩ := cutL_cons hz
    have hd' : d.size <= 140737488355328 := hd
    have hs1 : (d.extract (Int.toNat 1) (Int.toNat (d.size : Int))).size = d.size - 1 := by rw [ByteArray.size_extract, Int.toNat_natCast]; show min d.size d.size - 1 = _; omega
    refine ⟨fun _ => ⟨by omega, fun hx => ⟨by omega, ⟨ng, _, e, _, rfl, ?_, hn, p1, ?_, .inl ?_⟩, ?_⟩, fun hx => ⟨fun h => absurd (hsz h) (by omega), fun _ => ⟨⟨ng, d, e, _, rfl, hd, hn, p1, p2, .inr ⟨hz, ?_, ?_⟩⟩, ?_⟩⟩⟩, fun h => by omega⟩
    ·rw [hs1]; omega
    ·rw [hs1]; omega
    ·rw [made_def, made_def, g1 (u48 hx)]; rfl
    ·rw [hs1]; simp only [if_true]; omega
    ·intro hc; rw [hc] at hx; exact hx rfl
    ·have g3 := g2 fun hc => by rw [hc] at hx; exact hx rfl
     rw [made_def, g3, if_neg fun h => absurd (hsz h) (by omega)]
    ·simp only [if_true]; rw [if_neg (by decide)]; omega
   ·have h0 : d.size = 0 := by omega
    refine ⟨fun h => by omega, fun _ => ⟨fun _ => ?_, fun h => absurd (size_zero.1 h0) h⟩⟩
    rw [made_def, if_pos (cutL_none h0)]; rfl
  ·obtain rfl : t = head_qmade_1 := (Option.some.inj ht).symm
   have hd' : d.size <= 140737488355328 := hd
   have hw : IntKind.i64.wrap ((d.size : Int) - 1) = ((d.size - 1 : Nat) : Int) := by rw [wrapI (by omega) (by omega)]; omega
   have hwe : IntKind.i64.wrap (e + 1) = e + 1 := wrapI (by omega) (by omega)
   obtain ⟨g1, g2⟩ := cutR_last hpos
   have hs0 : (d.extract 0 (d.size - 1)).size = d.size - 1 := by rw [ByteArray.size_extract]; omega
   have on : okD n [numD (ng, d, e)] := okD_one.2 ⟨by rw [sz_numD]; omega, (lim_numD _).2 hd⟩
   have hn0 : ∀ (a : Bool) (b : ByteArray) (c : Int), D.row [bD a, sD b, iD c] = numD (a, b, c) := fun _ _ _ => rfl
   simp only [head_qmade_1, eZ7, eZ8, eZ9, eZ10, eZ11, eZ12, Tree.holds, Out.den, E.den, E.denL, dn, List.getD_cons_zero, List.getD_cons_succ, List.length_map, phi_1000, hw, hwe, Int.toNat_natCast, Int.toNat_zero, hn0, phi_qis, on]
   refine ⟨by omega, by omega, fun hx => ⟨by omega, ⟨ng, _, e + 1, _, rfl, ?_, hn, by omega, ?_, .inr ⟨?_, ?_, ?_⟩⟩, ?_⟩, fun hx => ⟨fun hq => ?_, fun hq => ?_⟩⟩
   ·rw [hs0]; omega
   ·rw [hs0]; omega
   ·rw [hs0]
    have : d.size ≠ 1 := fun h1 => by
     rw [h1] at hx
     exact hfst (u48 hx)
    omega
   ·have h2 : d.size ≠ 1 := fun h1 => by
     rw [h1] at hx
     exact hfst (u48 hx)
    rw [ext_list, List.drop_zero, List.getD_eq_getElem?_getD, List.getElem?_take_of_lt (by omega), <- List.getD_eq_getElem?_getD]
    exact hfst
   ·unfold madeZ
    have e1 : wrap (e + (d.size : Int)) = wrap (e + 1 + ((d.size - 1 : Nat) : Int)) := by congr 1; omega
    rw [hs0, <- g1 (u48 hx), e1]
   ·rw [hs0]; omega
   ·have g3 := g2 fun hc => by rw [hc] at hx; exact hx rfl
    unfold madeZ
    have e1 : wrap (wrap (e + (d.size : Int)) - (d.size : Int)) = e := by
     rw [wrapN (i := e + (d.size : Int)) (by omega) (by omega), wrapN (by omega) (by omega)]; omega
    simp only [g3, e1]
    rw [if_pos (show numV ng d e = 0 from of_decide_eq_true hq)]; rfl
   ·have g3 := g2 fun hc => by rw [hc] at hx; exact hx rfl
    unfold madeZ
    have e1 : wrap (wrap (e + (d.size : Int)) - (d.size : Int)) = e := by
     rw [wrapN (i := e + (d.size : Int)) (by omega) (by omega), wrapN (by omega) (by omega)]; omega
    simp only [g3, e1]
    rw [if_neg (show ¬ numV ng d e = 0 from of_decide_eq_false hq)]; rfl
theorem qmade_ok (n : Nat) : @Ok (I n) q_qmade (@okS (I n) n q_qmade.g) :=
 ok_irrel (by decide) (@Ok.less (I (n + 20)) _ _ _ (qmade_more (n + 20)) fun ds h => ⟨⟨⟨by have := h.1.1; omega, h.1.2⟩, h.2⟩, by omega⟩)
end Go.Proofs.YtflhikakndanjaaDoor.Vk
/- Contracts: slices.Reverse, num.Of, num.Bytes. -/
namespace Go.Proofs.YtflhikakndanjaaDoor.Vk
open Go Go.Ab Go.RowKit
theorem bytes_at {l : List UInt8} {i : Nat} {x : UInt8} (h : l[i]? = some x) : cellAt (Go.Ab.rowAt (bytesD l) (i : Int)) 0 = .v (.int .u8 x.toNat) := by
 unfold bytesD
 rw [rowAt_map h]; rfl
theorem bytes_push (l : List UInt8) (v : Nat) (h1 : v < 256) : D.lst ((bytesD l).rows ++ [D.row [.v (.int .u8 (v : Int))]]) = bytesD (l ++ [UInt8.ofNat v]) := by
 show D.lst (l.map _ ++ _) = _
 unfold bytesD
 rw [List.map_append, List.map_cons, List.map_nil, byte_of h1]
theorem bytes_one (v : Nat) (h1 : v < 256) : D.lst [D.row [.v (.int .u8 (v : Int))]] = bytesD [UInt8.ofNat v] := bytes_push [] v h1
theorem bytes_szL (l : List UInt8) : D.szL (l.map fun c => D.row [.v (.int .u8 c.toNat)]) = 2 * l.length := by
 induction l with
 | nil => rfl
 | cons x r ih =>
  rw [List.map_cons, szL_cons, ih, List.length_cons, sz_row]
  simp only [D.szL, D.sz]
  omega
theorem bytes_sz (l : List UInt8) : (bytesD l).sz = 2 * l.length + 1 := by
 unfold bytesD
 rw [sz_lst, bytes_szL]
theorem bytes_lim {l : List UInt8} : (bytesD l).Lim ↔ l.length <= lim := by
 unfold bytesD
 rw [lim_lst, List.length_map, limL_map]
 simp only [D.Lim, D.LimL, and_true, implies_true]
theorem den_los (s : ByteArray) : Prim.los.den [sD s] = bytesD s.data.toList := rfl
theorem den_shr (k : IntKind) (a b : D) : Prim.den (.iop .shr k) [a, b] = .v (.int k (a.int.fdiv (2 ^ (min b.int.toNat k.bits)))) := rfl
theorem wrapB (x : UInt8) : IntKind.i64.wrap (x.toNat : Int) = (x.toNat : Int) := by
 have := x.toNat_lt
 exact wrapI (by omega) (by omega)
theorem wrapK' {i : Int} {k : Nat} (h : i = k) (hk : k <= 1099511627776) : IntKind.i64.wrap i = (k : Int) := by
 rw [h, wrapI (by omega) (by omega)]
theorem wrapB8 {k : Nat} (h : k < 256) : IntKind.u8.wrap (k : Int) = (k : Int) := wrap8 (by omega) (by omega)
-- head 0 of loop 0: [t0 .ar 5, t2 .sh (.cell (.sc (.i .i64))), t3 .sh (.cell (.sc (.i .i64)))]
def heads_reverse : List HdM := [⟨0, [.ar 5, .any, .sh (.cell (.sc (.i .i64))), .sh (.cell (.sc (.i .i64))), .any, .any, .any, .any, .any, .any, .any, .any, .any, .any, .any, .any, .any, .any, .any, .any, .any, .any, .any, .any, .any, .any, .any, .any], [0]⟩]
def entry_reverse : Tree :=
 (.g 0 [.v0, (.i 0), (.pr (.iop .sub .i64) [(.n .v0), (.i 1)])])
def head_reverse_0 : Tree :=
 (.ite (.lt .v1 .v2)
 (.giv (.le (.i 0) .v2)
 (.giv (.lt .v2 (.n .v0))
 (.giv (.le (.i 0) .v1)
 (.giv (.lt .v1 (.n .v0))
 (.g 0 [(.pr .upd [(.pr .upd [.v0, .v1, (.pr .row [(.c 0 (.a .v0 .v2))])]), .v2, (.pr .row [(.c 0 (.a .v0 .v1))])]), (.pr (.iop .add .i64) [.v1, (.i 1)]), (.pr (.iop .sub .i64) [.v2, (.i 1)])])))))
 (.rt (.pr .row [.v0])))
def trees_reverse : List Tree := [head_reverse_0]
noncomputable def deps_reverse : List Sig := []
noncomputable def depsM_reverse : List SigM := []
theorem ok_reverse : checkM q_reverse deps_reverse depsM_reverse heads_reverse entry_reverse trees_reverse = true := by kernel_rfl
theorem rev_get {l : List UInt8} {t : Nat} (h : t < l.length) : l.reverse[t]? = l[l.length - 1 - t]? := List.getElem?_reverse h
def RevInv (l m : List UInt8) (i : Nat) : Prop := m.length = l.length /\ ∀ t, t < l.length -> m[t]? = if t < i \/ l.length - i <= t then l[l.length - 1 - t]? else l[t]?
theorem reverse_ok (n : Nat) : @OkM (I n) q_reverse (@okS (I n) n q_reverse.g) := by
 letI := I n
 refine fn_okM (hphi n) ok_reverse (by intro q hq; simp [deps_reverse] at hq) (by intro q hq; simp [depsM_reverse] at hq)
  (fun _ d ds => ∃ (l m : List UInt8) (i : Nat), ds = [bytesD m, iD i, iD ((l.length : Int) - 1 - i)] /\ 2 * i <= l.length + 1 /\ l.length <= 1000000 /\ RevInv l m i /\ d = .row [bytesD l.reverse])
  (fun _ ds => ((ds.getD 2 .nil).int - (ds.getD 1 .nil).int + 5).toNat) ?_ ?_
 ·intro ds hf hp
  match ds, hf with
  | [d0], hf =>
  obtain ⟨l, rfl, hl⟩ := (pre_reverse n d0).1 (hp.2 rfl)
  simp only [entry_reverse, q_reverse, Tree.holds, Out.den, E.den, E.denL, dn, List.getD_cons_zero, List.getD_cons_succ, List.length_map, phi_1000, phi_reverse, bytes_rows]
  refine ⟨l, l, 0, ?_, by omega, hl, ⟨rfl, fun t ht => ?_⟩, rfl⟩
  ·rw [wrapI (i := (l.length : Int) - 1) (by omega) (by omega), show (l.length : Int) - 1 - ((0 : Nat) : Int) = (l.length : Int) - 1 by omega]
   rfl
  ·rw [if_neg (by omega)]
 ·rintro j h t d ds hj ht hf ⟨l, m, i, rfl, hi, hl, ⟨hm, hr⟩, rfl⟩
  obtain rfl : t = head_reverse_0 := by
   match j, ht with
   | 0, ht => exact (Option.some.inj ht).symm
  by_cases hlt : (i : Int) < (l.length : Int) - 1 - i
  ·obtain ⟨j', hj'⟩ : ∃ j' : Nat, (l.length : Int) - 1 - i = j' := ⟨l.length - 1 - i, by omega⟩
   have hjl : j' = l.length - 1 - i := by omega
   obtain ⟨x, hx⟩ : ∃ x, m[i]? = some x := ⟨m[i]'(by omega), List.getElem?_eq_getElem (by omega)⟩
   obtain ⟨y, hy⟩ : ∃ y, m[j']? = some y := ⟨m[j']'(by omega), List.getElem?_eq_getElem (by omega)⟩
   have hxl := x.toNat_lt
   have hyl := y.toNat_lt
   have e1 : Prim.upd.den [bytesD m, iD (i : Int), .row [.v (.int .u8 (y.toNat : Int))]] = bytesD (m.set i y) := by
    rw [bytes_upd m i _ (by omega) (by omega), Int.toNat_natCast, UInt8.ofNat_toNat]
   have e2 : Prim.upd.den [bytesD (m.set i y), iD (j' : Int), .row [.v (.int .u8 (x.toNat : Int))]] = bytesD ((m.set i y).set j' x) := by
    rw [bytes_upd _ j' _ (by omega) (by omega), Int.toNat_natCast, UInt8.ofNat_toNat]
   have w1 : IntKind.i64.wrap ((i : Int) + 1) = ((i + 1 : Nat) : Int) := wrapK' (by omega) (by omega)
   have w2 : IntKind.i64.wrap ((j' : Int) - 1) = (l.length : Int) - 1 - ((i + 1 : Nat) : Int) := by rw [wrapI (by omega) (by omega)]; omega
   rw [hj']
   simp only [head_reverse_0, Tree.holds, Out.den, E.den, E.denL, dn, List.getD_cons_zero, List.getD_cons_succ, List.length_map, phi_1000, bytes_at hx, bytes_at hy, e1, e2, bytes_rows, w1, w2]
   refine ⟨fun _ => ⟨by omega, by omega, by omega, by omega, ⟨l, (m.set i y).set j' x, i + 1, rfl, by omega, hl, ⟨by rw [List.length_set, List.length_set]; exact hm, fun t ht => ?_⟩, rfl⟩, by omega⟩, fun h => by omega⟩
   have hri := hr i (by omega)
   have hrj := hr j' (by omega)
   rw [if_neg (by omega), hx] at hri
   rw [if_neg (by omega), hy] at hrj
   by_cases c1 : t = j'
   ·rw [c1, List.getElem?_set_self (by rw [List.length_set]; omega), if_pos (by omega), show l.length - 1 - j' = i by omega]; exact hri
   ·rw [List.getElem?_set_ne (by omega)]
    by_cases c2 : t = i
    ·rw [c2, List.getElem?_set_self (by omega), if_pos (by omega), <- hjl]; exact hrj
    ·rw [List.getElem?_set_ne (by omega), hr t ht]
     by_cases c3 : t < i \/ l.length - i <= t
     ·rw [if_pos c3, if_pos (by omega)]
     ·rw [if_neg c3, if_neg (by omega)]
  ·simp only [head_reverse_0, Tree.holds, Out.den, E.den, E.denL, dn, List.getD_cons_zero, List.getD_cons_succ, List.length_map, phi_1000]
   refine ⟨fun h => absurd h hlt, fun _ => ?_⟩
   have : m = l.reverse := by
    apply List.ext_getElem?
    intro t
    by_cases ht : t < l.length
    ·rw [hr t ht, rev_get ht]
     by_cases c : t < i \/ l.length - i <= t
     ·rw [if_pos c]
     ·rw [if_neg c, show l.length - 1 - t = t by omega]
    ·rw [List.getElem?_eq_none (by omega), List.getElem?_eq_none (by rw [List.length_reverse]; omega)]
   rw [this]
theorem reverse_goes (n : Nat) : @Goes (I n) q_reverse := fun h => by cases h
abbrev gI (ds : List D) (i : Nat) : Int := (ds.getD i .nil).int
def OfR (ng : Bool) (b : List UInt8) : D := .row [numD (ofV ng b).1, iD (ofV ng b).2]
def Of0 (ng : Bool) (z : D) (b : List UInt8) (ds : List D) : Prop := ∃ (l : List UInt8) (i : Nat), ds = [bD ng, z, bytesD l, bytesD b, iD b.length, iD i] /\ i <= b.length /\ LD 10 l /\ l ≠ [] /\ Top l /\ l.length <= 443 /\ lv 10 l = bvA 0 (b.take i)
def Of1 (ng : Bool) (z : D) (b : List UInt8) (ds : List D) : Prop := ∃ i : Nat, ds = [bD ng, z, bytesD b, iD b.length, iD i] /\ i <= b.length /\ bvA 0 (b.take i) = 0
def Of2 (ng : Bool) (z : D) (b : List UInt8) (ds : List D) : Prop := ∃ (l : List UInt8) (i : Nat) (x : UInt8) (c k : Nat), ds = [bD ng, z, bytesD l, iD c, bytesD b, iD b.length, iD i, iD l.length, iD k] /\ b[i]? = some x /\ l ≠ [] /\ l.length <= 443 /\
 MulInv 10 256 l c k (x.toNat + 256 * bvA 0 (b.take i)) /\ c <= 256 /\ ((k < l.length /\ Top l) \/ (k = l.length /\ 0 < c))
def Of3 (ng : Bool) (z : D) (b : List UInt8) (ds : List D) : Prop := ∃ (i : Nat) (x : UInt8), ds = [bD ng, z, iD x.toNat, bytesD b, iD b.length, iD i, iD 0, iD 0] /\ b[i]? = some x /\ bvA 0 (b.take i) = 0
def Of4 (ng : Bool) (z : D) (b : List UInt8) (ds : List D) : Prop := ∃ (l : List UInt8) (i : Nat) (x : UInt8) (c : Nat), ds = [bD ng, z, bytesD l, iD c, bytesD b, iD b.length, iD i] /\ b[i]? = some x /\ l ≠ [] /\ LD 10 l /\
 lv 10 l + 10 ^ l.length * c = bvA 0 (b.take (i + 1)) /\ c <= 256 /\ (c = 0 -> Top l) /\ (l.length <= 446 /\ (0 < c -> l.length <= 445) /\ (10 <= c -> l.length <= 444) /\ (100 <= c -> l.length <= 443))
def Of5 (ng : Bool) (z : D) (b : List UInt8) (ds : List D) : Prop := ∃ (i : Nat) (x : UInt8), ds = [bD ng, z, iD x.toNat, bytesD b, iD b.length, iD i] /\ b[i]? = some x /\ bvA 0 (b.take i) = 0
def Of6 (ng : Bool) (z : D) (b : List UInt8) (ds : List D) : Prop := ∃ (l : List UInt8) (k : Nat), ds = [bD ng, z, bytesD (mid l k), iD l.length, iD k] /\ k <= l.length /\ LD 10 l /\ l.length <= 443 /\ lv 10 l = bvA 0 b
def Of7 (ng : Bool) (z : D) (b : List UInt8) (ds : List D) : Prop := ds = [bD ng, z, iD 0, iD 0] /\ bvA 0 b = 0
def OfInv (n j : Nat) (d : D) (ds : List D) : Prop := ∃ (ng : Bool) (z : D) (b : List UInt8), 2000 < n /\ b.length <= 1000000 /\ d = OfR ng b /\ (match j with
 | 0 => Of0 ng z b ds | 1 => Of1 ng z b ds | 2 => Of2 ng z b ds | 3 => Of3 ng z b ds | 4 => Of4 ng z b ds | 5 => Of5 ng z b ds | 6 => Of6 ng z b ds | 7 => Of7 ng z b ds | _ => False)
def ofM (j : Nat) (ds : List D) : Nat := match j with
 | 0 => 2000 * (gI ds 4 - gI ds 5).toNat + 1950
 | 1 => 2000 * (gI ds 3 - gI ds 4).toNat + 1950
 | 2 => 2000 * (gI ds 5 - gI ds 6).toNat + 1900 - (gI ds 8).toNat
 | 3 => 2000 * (gI ds 4 - gI ds 5).toNat + 1900
 | 4 => 2000 * (gI ds 5 - gI ds 6).toNat + 300 + (gI ds 3).toNat
 | 5 => 2000 * (gI ds 4 - gI ds 5).toNat + 1000
 | 6 => 500 + (gI ds 3 - gI ds 4).toNat
 | _ => 0
theorem bv_next {b : List UInt8} {i : Nat} {x : UInt8} (h : b[i]? = some x) : bvA 0 (b.take (i + 1)) = x.toNat + 256 * bvA 0 (b.take i) := by
 rw [take_snoc h, bv_snoc]; omega
theorem idx_lt {α : Type} {b : List α} {i : Nat} {x : α} (h : b[i]? = some x) : i < b.length := (List.getElem?_eq_some_iff.1 h).1
theorem of_made {ng : Bool} {b l : List UInt8} (hl : LD 10 l) (h : lv 10 l = bvA 0 b) : madeV ng ⟨(l.map asc).reverse.toArray⟩ 0 = ofV ng b := by
 unfold ofV
 exact made_dv (by rw [bytes_list]; exact asc_dig hl) (by rw [bytes_list, asc_dv l hl, h]) fun _ => rfl
theorem bv_take (b : List UInt8) (i : Nat) : bvA 0 (b.take i) <= bvA 0 b := by
 conv => rhs; rw [<- List.take_append_drop i b, bvA_append]
 exact bv_le _ _
theorem of_far {ng : Bool} {b l : List UInt8} {i : Nat} (hb : b.length <= 1000000) (hl : LD 10 l) (hne : l ≠ []) (ht : Top l) (h : lv 10 l = bvA 0 (b.take i)) (hf : 443 < l.length) : ofV ng b = (noNumT, 2) := by
 unfold ofV
 refine made_far ?_ ?_
 ·have h1 := lv_top (B := 10) (by decide) hne ht
  rw [h] at h1
  have h2 : 10 ^ e443 <= 10 ^ (l.length - 1) := Nat.pow_le_pow_right (by decide) (show 443 <= _ by omega)
  exact Nat.le_trans h2 (Nat.le_trans h1 (bv_take b i))
 ·have h3 := bv_lt b 0 0 (by decide)
  exact Nat.le_trans (digs_len h3) (by omega)
-- head 0 of loop 0: [t0 .sh (.cell (.sc .b)), t4 .bx 24 107374182400, t6 .ar 5, t12 .sh (.cell (.sl 5)), t13 .sh (.cell (.sc (.i .i64))), t14 .sh (.cell (.sc (.i .i64)))]
-- head 1 of loop 0: [t0 .sh (.cell (.sc .b)), t4 .bx 24 107374182400, t6 .con (.v (.slice none 0 0)), t12 .sh (.cell (.sl 5)), t13 .sh (.cell (.sc (.i .i64))), t14 .sh (.cell (.sc (.i .i64)))]
-- head 2 of loop 1: [t0 .sh (.cell (.sc .b)), t4 .bx 24 107374182400, t6 .ar 5, t9 .sh (.cell (.sc (.i .i64))), t12 .sh (.cell (.sl 5)), t13 .sh (.cell (.sc (.i .i64))), t14 .sh (.cell (.sc (.i .i64))), t21 .sh (.cell (.sc (.i .i64))), t22 .sh (.cell (.sc (.i .i64)))]
-- head 3 of loop 1: [t0 .sh (.cell (.sc .b)), t4 .bx 24 107374182400, t6 .con (.v (.slice none 0 0)), t9 .sh (.cell (.sc (.i .i64))), t12 .sh (.cell (.sl 5)), t13 .sh (.cell (.sc (.i .i64))), t14 .sh (.cell (.sc (.i .i64))), t21 .sh (.cell (.sc (.i .i64))), t22 .sh (.cell (.sc (.i .i64)))]
-- head 4 of loop 2: [t0 .sh (.cell (.sc .b)), t4 .bx 24 107374182400, t6 .ar 5, t9 .sh (.cell (.sc (.i .i64))), t12 .sh (.cell (.sl 5)), t13 .sh (.cell (.sc (.i .i64))), t14 .sh (.cell (.sc (.i .i64)))]
-- head 5 of loop 2: [t0 .sh (.cell (.sc .b)), t4 .bx 24 107374182400, t6 .con (.v (.slice none 0 0)), t9 .sh (.cell (.sc (.i .i64))), t12 .sh (.cell (.sl 5)), t13 .sh (.cell (.sc (.i .i64))), t14 .sh (.cell (.sc (.i .i64)))]
-- head 6 of loop 3: [t0 .sh (.cell (.sc .b)), t4 .bx 24 107374182400, t6 .ar 5, t58 .sh (.cell (.sc (.i .i64))), t59 .sh (.cell (.sc (.i .i64)))]
-- head 7 of loop 3: [t0 .sh (.cell (.sc .b)), t4 .bx 24 107374182400, t6 .con (.v (.slice none 0 0)), t58 .sh (.cell (.sc (.i .i64))), t59 .sh (.cell (.sc (.i .i64)))]
def heads_nof : List Hd := [⟨0, [.sh (.cell (.sc .b)), .any, .any, .any, .bx 24 107374182400, .any, .ar 5, .any, .any, .any, .any, .any, .sh (.cell (.sl 5)), .sh (.cell (.sc (.i .i64))), .sh (.cell (.sc (.i .i64))), .any, .any, .any, .any, .any, .any, .any, .any, .any, .any, .any, .any, .any, .any, .any, .any, .any, .any, .any, .any, .any, .any, .any, .any, .any, .any, .any, .any, .any, .any, .any, .any, .any, .any, .any, .any, .any, .any, .any, .any, .any, .any, .any, .any, .any, .any, .any, .any, .any, .any, .any, .any, .any, .any, .any, .any, .any, .any, .any, .any, .any, .any]⟩, ⟨0, [.sh (.cell (.sc .b)), .any, .any, .any, .bx 24 107374182400, .any, .con (.v (.slice none 0 0)), .any, .any, .any, .any, .any, .sh (.cell (.sl 5)), .sh (.cell (.sc (.i .i64))), .sh (.cell (.sc (.i .i64))), .any, .any, .any, .any, .any, .any, .any, .any, .any, .any, .any, .any, .any, .any, .any, .any, .any, .any, .any, .any, .any, .any, .any, .any, .any, .any, .any, .any, .any, .any, .any, .any, .any, .any, .any, .any, .any, .any, .any, .any, .any, .any, .any, .any, .any, .any, .any, .any, .any, .any, .any, .any, .any, .any, .any, .any, .any, .any, .any, .any, .any, .any]⟩, ⟨1, [.sh (.cell (.sc .b)), .any, .any, .any, .bx 24 107374182400, .any, .ar 5, .any, .any, .sh (.cell (.sc (.i .i64))), .any, .any, .sh (.cell (.sl 5)), .sh (.cell (.sc (.i .i64))), .sh (.cell (.sc (.i .i64))), .any, .any, .any, .any, .any, .any, .sh (.cell (.sc (.i .i64))), .sh (.cell (.sc (.i .i64))), .any, .any, .any, .any, .any, .any, .any, .any, .any, .any, .any, .any, .any, .any, .any, .any, .any, .any, .any, .any, .any, .any, .any, .any, .any, .any, .any, .any, .any, .any, .any, .any, .any, .any, .any, .any, .any, .any, .any, .any, .any, .any, .any, .any, .any, .any, .any, .any, .any, .any, .any, .any, .any, .any]⟩, ⟨1, [.sh (.cell (.sc .b)), .any, .any, .any, .bx 24 107374182400, .any, .con (.v (.slice none 0 0)), .any, .any, .sh (.cell (.sc (.i .i64))), .any, .any, .sh (.cell (.sl 5)), .sh (.cell (.sc (.i .i64))), .sh (.cell (.sc (.i .i64))), .any, .any, .any, .any, .any, .any, .sh (.cell (.sc (.i .i64))), .sh (.cell (.sc (.i .i64))), .any, .any, .any, .any, .any, .any, .any, .any, .any, .any, .any, .any, .any, .any, .any, .any, .any, .any, .any, .any, .any, .any, .any, .any, .any, .any, .any, .any, .any, .any, .any, .any, .any, .any, .any, .any, .any, .any, .any, .any, .any, .any, .any, .any, .any, .any, .any, .any, .any, .any, .any, .any, .any, .any]⟩, ⟨2, [.sh (.cell (.sc .b)), .any, .any, .any, .bx 24 107374182400, .any, .ar 5, .any, .any, .sh (.cell (.sc (.i .i64))), .any, .any, .sh (.cell (.sl 5)), .sh (.cell (.sc (.i .i64))), .sh (.cell (.sc (.i .i64))), .any, .any, .any, .any, .any, .any, .any, .any, .any, .any, .any, .any, .any, .any, .any, .any, .any, .any, .any, .any, .any, .any, .any, .any, .any, .any, .any, .any, .any, .any, .any, .any, .any, .any, .any, .any, .any, .any, .any, .any, .any, .any, .any, .any, .any, .any, .any, .any, .any, .any, .any, .any, .any, .any, .any, .any, .any, .any, .any, .any, .any, .any]⟩, ⟨2, [.sh (.cell (.sc .b)), .any, .any, .any, .bx 24 107374182400, .any, .con (.v (.slice none 0 0)), .any, .any, .sh (.cell (.sc (.i .i64))), .any, .any, .sh (.cell (.sl 5)), .sh (.cell (.sc (.i .i64))), .sh (.cell (.sc (.i .i64))), .any, .any, .any, .any, .any, .any, .any, .any, .any, .any, .any, .any, .any, .any, .any, .any, .any, .any, .any, .any, .any, .any, .any, .any, .any, .any, .any, .any, .any, .any, .any, .any, .any, .any, .any, .any, .any, .any, .any, .any, .any, .any, .any, .any, .any, .any, .any, .any, .any, .any, .any, .any, .any, .any, .any, .any, .any, .any, .any, .any, .any, .any]⟩, ⟨3, [.sh (.cell (.sc .b)), .any, .any, .any, .bx 24 107374182400, .any, .ar 5, .any, .any, .any, .any, .any, .any, .any, .any, .any, .any, .any, .any, .any, .any, .any, .any, .any, .any, .any, .any, .any, .any, .any, .any, .any, .any, .any, .any, .any, .any, .any, .any, .any, .any, .any, .any, .any, .any, .any, .any, .any, .any, .any, .any, .any, .any, .any, .any, .any, .any, .any, .sh (.cell (.sc (.i .i64))), .sh (.cell (.sc (.i .i64))), .any, .any, .any, .any, .any, .any, .any, .any, .any, .any, .any, .any, .any, .any, .any, .any, .any]⟩, ⟨3, [.sh (.cell (.sc .b)), .any, .any, .any, .bx 24 107374182400, .any, .con (.v (.slice none 0 0)), .any, .any, .any, .any, .any, .any, .any, .any, .any, .any, .any, .any, .any, .any, .any, .any, .any, .any, .any, .any, .any, .any, .any, .any, .any, .any, .any, .any, .any, .any, .any, .any, .any, .any, .any, .any, .any, .any, .any, .any, .any, .any, .any, .any, .any, .any, .any, .any, .any, .any, .any, .sh (.cell (.sc (.i .i64))), .sh (.cell (.sc (.i .i64))), .any, .any, .any, .any, .any, .any, .any, .any, .any, .any, .any, .any, .any, .any, .any, .any, .any]⟩]
def eZ13 : E := (.pr .row [(.lit (.bool false)), (.lit (.string .empty)), (.i 0)])
def eZ14 : E := (.r3 .v1)
def eZ15 : E := (.pr (.iop .add .i64) [.v3, (.pr (.iop .mul .i64) [(.i 256), (.pr (.conv .i64) [(.c 0 (.a .v2 .v8))])])])
def eZ16 : E := (.pr .cat [.v2, (.pr .lst [(.pr .row [(.pr (.conv .u8) [(.pr (.iop .rem .i64) [.v3, (.i 10)])])])])])
def eZ17 : E := (.pr .sofl [(.pr .sub [(.c 0 (.app 82 [.v2])), (.i 0), (.n .v2)])])
def entry_nof : Tree :=
 (.g 1 [.v0, eZ13, .v1, (.n .v1), (.i 0)])
def head_nof_0 : Tree :=
 (.ite (.lt .v5 .v4)
 (.giv (.le (.i 0) .v5)
 (.giv (.lt .v5 (.n .v3))
 (.g 2 [.v0, eZ14, .v2, (.pr (.conv .i64) [(.c 0 (.a .v3 .v5))]), .v3, .v4, .v5, (.n .v2), (.i 0)])))
 (.g 6 [.v0, eZ14, .v2, (.n .v2), (.i 0)]))
def head_nof_1 : Tree :=
 (.ite (.lt .v4 .v3)
 (.giv (.le (.i 0) .v4)
 (.giv (.lt .v4 (.n .v2))
 (.g 3 [.v0, eZ14, (.pr (.conv .i64) [(.c 0 (.a .v2 .v4))]), .v2, .v3, .v4, (.i 0), (.i 0)])))
 (.g 7 [.v0, eZ14, (.i 0), (.i 0)]))
def head_nof_2 : Tree :=
 (.ite (.lt .v8 .v7)
 (.giv (.le (.i 0) .v8)
 (.giv (.lt .v8 (.n .v2))
 (.g 2 [.v0, eZ14, (.pr .upd [.v2, .v8, (.pr .row [(.pr (.conv .u8) [(.pr (.iop .rem .i64) [eZ15, (.i 10)])])])]), (.pr (.iop .quo .i64) [eZ15, (.i 10)]), .v4, .v5, .v6, .v7, (.pr (.iop .add .i64) [.v8, (.i 1)])])))
 (.g 4 [.v0, eZ14, .v2, .v3, .v4, .v5, .v6]))
def head_nof_3 : Tree :=
 (.ite (.lt .v7 .v6) .dead
 (.g 5 [.v0, eZ14, .v2, .v3, .v4, .v5]))
def head_nof_4 : Tree :=
 (.ite (.gt .v3 (.i 0))
 (.giv (.le (.n eZ16) (.i 4294967296))
 (.g 4 [.v0, eZ14, eZ16, (.pr (.iop .quo .i64) [.v3, (.i 10)]), .v4, .v5, .v6]))
 (.ite (.gt (.n .v2) (.i 443))
 (.rt (.pr .row [eZ13, (.i 2)]))
 (.g 0 [.v0, eZ14, .v2, .v4, .v5, (.pr (.iop .add .i64) [.v6, (.i 1)])])))
def head_nof_5 : Tree :=
 (.ite (.gt .v2 (.i 0))
 (.g 4 [.v0, eZ14, (.pr .lst [(.pr .row [(.pr (.conv .u8) [(.pr (.iop .rem .i64) [.v2, (.i 10)])])])]), (.pr (.iop .quo .i64) [.v2, (.i 10)]), .v3, .v4, .v5])
 (.g 1 [.v0, eZ14, .v3, .v4, (.pr (.iop .add .i64) [.v5, (.i 1)])]))
def head_nof_6 : Tree :=
 (.ite (.lt .v4 .v3)
 (.giv (.le (.i 0) .v4)
 (.giv (.lt .v4 (.n .v2))
 (.g 6 [.v0, eZ14, (.pr .upd [.v2, .v4, (.pr .row [(.pr (.iop .add .u8) [(.c 0 (.a .v2 .v4)), (.lit (.int .u8 48))])])]), .v3, (.pr (.iop .add .i64) [.v4, (.i 1)])])))
 (.giv (.app 1000 [.v2])
 (.giv (.app 2082 [.v2])
 (.giv (.le (.n .v2) (.n (.c 0 (.app 82 [.v2]))))
 (.giv (.app 1000 [.v0, eZ17, (.i 0)])
 (.rt (.pr .row [(.r3 (.c 0 (.app 88 [.v0, eZ17, (.i 0)]))), (.c 1 (.app 88 [.v0, eZ17, (.i 0)]))])))))))
def head_nof_7 : Tree :=
 (.ite (.lt .v3 .v2) .dead
 (.rt (.pr .row [(.pr .row [(.lit (.bool false)), (.lit (.string (mkS [48]))), (.i 0)]), (.i 0)])))
def trees_nof : List Tree := [head_nof_0, head_nof_1, head_nof_2, head_nof_3, head_nof_4, head_nof_5, head_nof_6, head_nof_7]
noncomputable def deps_nof : List Sig := [q_nmade]
noncomputable def depsM_nof : List SigM := [q_reverse]
theorem ok_nof : checkN q_nof deps_nof depsM_nof heads_nof entry_nof trees_nof = true := by kernel_rfl
theorem nof_more (n : Nat) : @Ok (I n) q_nof (fun ds => @okS (I n) n q_nof.g ds /\ 2000 < n) := by
 letI := I n
 refine fn_okN (hphi n) ok_nof (by
  intro q hq
  simp only [deps_nof, List.mem_singleton] at hq
  subst hq
  exact okS_of (nmade_ok n)) (by
  intro q hq
  simp only [depsM_nof, List.mem_singleton] at hq
  subst hq
  exact ⟨reverse_ok n, reverse_goes n⟩) (OfInv n) ofM ?_ ?_
 ·intro ds hf ⟨hp, hn⟩
  match ds, hf with
  | [d0, d1], ⟨h1, h2, _⟩ =>
  obtain ⟨ng, rfl⟩ := fits_bool h1
  obtain ⟨b, rfl, hb⟩ := (pre_nof n _ d1).1 (hp.2 rfl)
  simp only [entry_nof, eZ13, eZ14, eZ15, eZ16, eZ17, q_nof, Tree.holds, Out.den, E.den, E.denL, dn, List.getD_cons_zero, List.getD_cons_succ, List.length_map, phi_1000, phi_nof, bytes_rows]
  exact ⟨ng, _, b, hn, hb, rfl, 0, rfl, Nat.zero_le _, rfl⟩
 ·intro j h t d ds hj ht hf ⟨ng, z, b, hn, hb, hd, hI⟩
  have hjl : j < 8 := (List.getElem?_eq_some_iff.1 ht).1
  have hwi : ∀ i : Nat, i < b.length -> IntKind.i64.wrap ((i : Int) + 1) = ((i + 1 : Nat) : Int) := fun i hi => wrapK' (by omega) (by omega)
  rcases (show j = 0 \/ j = 1 \/ j = 2 \/ j = 3 \/ j = 4 \/ j = 5 \/ j = 6 \/ j = 7 by omega) with rfl | rfl | rfl | rfl | rfl | rfl | rfl | rfl
  ·obtain rfl : t = head_nof_0 := (Option.some.inj ht).symm
   obtain ⟨l, i, rfl, hi, hl, hne, htop, hlen, hv⟩ := hI
   by_cases hlt : i < b.length
   ·obtain ⟨x, hx, _, _⟩ := drop_get hlt
    simp only [head_nof_0, eZ13, eZ14, eZ15, eZ16, eZ17, Tree.holds, Out.den, E.den, E.denL, dn, List.getD_cons_zero, List.getD_cons_succ, List.length_map, phi_1000, bytes_at hx, bytes_rows, wrapB]
    refine ⟨fun _ => ⟨by omega, by omega, ⟨ng, _, b, hn, hb, hd, l, i, x, x.toNat, 0, rfl, hx, hne, hlen, ?_, ?_, .inl ⟨List.length_pos_iff.2 hne, htop⟩⟩, ?_⟩, fun h => by omega⟩
    ·rw [<- hv]; exact mul_start hl
    ·have := x.toNat_lt; omega
    ·show 2000 * ((b.length : Int) - (i : Int)).toNat + 1900 - (0 : Int).toNat < 2000 * ((b.length : Int) - (i : Int)).toNat + 1950
     omega
   ·obtain rfl : i = b.length := by omega
    rw [List.take_length] at hv
    simp only [head_nof_0, eZ13, eZ14, eZ15, eZ16, eZ17, Tree.holds, Out.den, E.den, E.denL, dn, List.getD_cons_zero, List.getD_cons_succ, List.length_map, phi_1000, bytes_rows]
    refine ⟨fun h => by omega, fun _ => ⟨⟨ng, _, b, hn, hb, hd, l, 0, rfl, Nat.zero_le _, hl, hlen, hv⟩, ?_⟩⟩
    show 500 + ((l.length : Int) - (0 : Int)).toNat < 2000 * ((b.length : Int) - (b.length : Int)).toNat + 1950
    omega
  ·obtain rfl : t = head_nof_1 := (Option.some.inj ht).symm
   obtain ⟨i, rfl, hi, hv⟩ := hI
   by_cases hlt : i < b.length
   ·obtain ⟨x, hx, _, _⟩ := drop_get hlt
    simp only [head_nof_1, eZ13, eZ14, eZ15, eZ16, eZ17, Tree.holds, Out.den, E.den, E.denL, dn, List.getD_cons_zero, List.getD_cons_succ, List.length_map, phi_1000, bytes_at hx, bytes_rows, wrapB]
    refine ⟨fun _ => ⟨by omega, by omega, ⟨ng, _, b, hn, hb, hd, i, x, rfl, hx, hv⟩, ?_⟩, fun h => by omega⟩
    show 2000 * ((b.length : Int) - (i : Int)).toNat + 1900 < 2000 * ((b.length : Int) - (i : Int)).toNat + 1950
    omega
   ·obtain rfl : i = b.length := by omega
    rw [List.take_length] at hv
    simp only [head_nof_1, eZ13, eZ14, eZ15, eZ16, eZ17, Tree.holds, Out.den, E.den, E.denL, dn, List.getD_cons_zero, List.getD_cons_succ, List.length_map, phi_1000]
    refine ⟨fun h => by omega, fun _ => ⟨⟨ng, _, b, hn, hb, hd, rfl, hv⟩, ?_⟩⟩
    show 0 < 2000 * ((b.length : Int) - (b.length : Int)).toNat + 1950
    omega
  ·obtain rfl : t = head_nof_2 := (Option.some.inj ht).symm
   obtain ⟨l, i, x, c, k, rfl, hx, hne, hlen, hm, hc, hcase⟩ := hI
   have hil := idx_lt hx
   by_cases hlt : k < l.length
   ·obtain ⟨y, hy, hmem, _⟩ := drop_get hlt
    have hy10 := hm.2.1 y hmem
    have htop : Top l := by
     rcases hcase with h | h
     ·exact h.2
     ·omega
    have w1 : IntKind.i64.wrap (256 * (y.toNat : Int)) = ((256 * y.toNat : Nat) : Int) := wrapK' (by omega) (by omega)
    have w2 : IntKind.i64.wrap ((c : Int) + ((256 * y.toNat : Nat) : Int)) = ((c + 256 * y.toNat : Nat) : Int) := wrapK' (by omega) (by omega)
    have hst := mul_step (B := 10) (by decide) (by decide) hm hy
    have hv0 : c + 256 * y.toNat <= 2560 := by omega
    have hlast : k + 1 = l.length -> 0 < (c + 256 * y.toNat) / 10 := fun hk => by
     have := top_at htop hy hk
     omega
    simp only [head_nof_2, eZ13, eZ14, eZ15, eZ16, eZ17, Tree.holds, Out.den, E.den, E.denL, dn, List.getD_cons_zero, List.getD_cons_succ, List.length_map, phi_1000, bytes_at hy, bytes_rows, wrapB, w1, w2, tmod10, tdiv10]
    generalize hvv : c + 256 * y.toNat = v at *
    have hm10 : v % 10 < 10 := Nat.mod_lt _ (by decide)
    have w3 : IntKind.u8.wrap ((v % 10 : Nat) : Int) = ((v % 10 : Nat) : Int) := wrapB8 (by omega)
    have w4 : IntKind.i64.wrap ((v / 10 : Nat) : Int) = ((v / 10 : Nat) : Int) := wrapK' rfl (by omega)
    have w5 : IntKind.i64.wrap ((k : Int) + 1) = ((k + 1 : Nat) : Int) := wrapK' (by omega) (by omega)
    have e1 : Prim.upd.den [bytesD l, iD (k : Int), .row [.v (.int .u8 ((v % 10 : Nat) : Int))]] = bytesD (l.set k (UInt8.ofNat (v % 10))) := by
     rw [bytes_upd l k _ (by omega) (by omega), Int.toNat_natCast]
    rw [w3, w4, w5, e1]
    refine ⟨fun _ => ⟨by omega, by omega, ⟨ng, .row [cellAt z 0, cellAt z 1, cellAt z 2], b, hn, hb, hd, l.set k (UInt8.ofNat (v % 10)), i, x, v / 10, k + 1, ?_, hx, ?_, by rw [List.length_set]; exact hlen, hst, by omega, ?_⟩, ?_⟩, fun h => by omega⟩
    ·rw [List.length_set]
    ·intro h0
     have := congrArg List.length h0
     rw [List.length_set] at this
     exact hne (List.eq_nil_of_length_eq_zero this)
    ·rw [List.length_set]
     by_cases hk : k + 1 < l.length
     ·exact .inl ⟨hk, top_set htop hk⟩
     ·exact .inr ⟨by omega, hlast (by omega)⟩
    ·show 2000 * ((b.length : Int) - (i : Int)).toNat + 1900 - ((k + 1 : Nat) : Int).toNat < 2000 * ((b.length : Int) - (i : Int)).toNat + 1900 - (k : Int).toNat
     omega
   ·obtain rfl : k = l.length := by have := hm.1; omega
    have hc0 : 0 < c := by
     rcases hcase with h | h
     ·omega
     ·exact h.2
    have he := mul_end hm
    simp only [head_nof_2, eZ13, eZ14, eZ15, eZ16, eZ17, Tree.holds, Out.den, E.den, E.denL, dn, List.getD_cons_zero, List.getD_cons_succ, List.length_map, phi_1000]
    refine ⟨fun h => by omega, fun _ => ⟨⟨ng, _, b, hn, hb, hd, l, i, x, c, rfl, hx, hne, hm.2.1, ?_, hc, fun h => by omega, by omega, fun _ => by omega, fun _ => by omega, fun _ => by omega⟩, ?_⟩⟩
    ·rw [bv_next hx]; exact he
    ·show 2000 * ((b.length : Int) - (i : Int)).toNat + 300 + (c : Int).toNat < 2000 * ((b.length : Int) - (i : Int)).toNat + 1900 - (l.length : Int).toNat
     omega
  ·obtain rfl : t = head_nof_3 := (Option.some.inj ht).symm
   obtain ⟨i, x, rfl, hx, hv⟩ := hI
   have hil := idx_lt hx
   simp only [head_nof_3, eZ13, eZ14, eZ15, eZ16, eZ17, Tree.holds, Out.den, E.den, E.denL, dn, List.getD_cons_zero, List.getD_cons_succ, List.length_map, phi_1000]
   refine ⟨fun h => by omega, fun _ => ⟨⟨ng, _, b, hn, hb, hd, i, x, rfl, hx, hv⟩, ?_⟩⟩
   show 2000 * ((b.length : Int) - (i : Int)).toNat + 1000 < 2000 * ((b.length : Int) - (i : Int)).toNat + 1900
   omega
  ·obtain rfl : t = head_nof_4 := (Option.some.inj ht).symm
   obtain ⟨l, i, x, c, rfl, hx, hne, hl, hv, hc, htop, g1, g2, g3, g4⟩ := hI
   have hil := idx_lt hx
   have hm10 : c % 10 < 10 := Nat.mod_lt _ (by decide)
   have w3 : IntKind.u8.wrap ((c % 10 : Nat) : Int) = ((c % 10 : Nat) : Int) := wrapB8 (by omega)
   have w4 : IntKind.i64.wrap ((c / 10 : Nat) : Int) = ((c / 10 : Nat) : Int) := wrapK' rfl (by omega)
   have hyb := byte_of (v := c % 10) (by omega)
   simp only [head_nof_4, eZ13, eZ14, eZ15, eZ16, eZ17, Tree.holds, Out.den, E.den, E.denL, dn, List.getD_cons_zero, List.getD_cons_succ, List.length_map, phi_1000, tmod10, tdiv10, w3, w4, bytes_push l _ (show c % 10 < 256 by omega), bytes_rows, hwi i hil]
   refine ⟨fun hc0 => ⟨?_, ⟨ng, _, b, hn, hb, hd, l ++ [UInt8.ofNat (c % 10)], i, x, c / 10, rfl, hx, by simp, ld_push hl (by rw [hyb]; exact hm10), ?_, by omega, fun h => top_push (by rw [hyb]; omega), ?_⟩, ?_⟩, fun hc0 => ⟨fun hbig => ?_, fun hsm => ⟨⟨ng, _, b, hn, hb, hd, l, i + 1, rfl, hil, hl, hne, htop (by omega), by omega, ?_⟩, ?_⟩⟩⟩
   ·rw [List.length_append]; show ((l.length + 1 : Nat) : Int) <= _; omega
   ·rw [lv_push, hyb, List.length_append, <- hv]
    show lv 10 l + 10 ^ l.length * (c % 10) + 10 ^ (l.length + 1) * (c / 10) = _
    rw [Nat.pow_succ]
    have := Nat.div_add_mod c 10
    generalize c % 10 = y at *
    generalize c / 10 = c' at *
    rw [<- this]
    grind
   ·rw [List.length_append]
    show l.length + 1 <= 446 /\ (0 < c / 10 -> l.length + 1 <= 445) /\ (10 <= c / 10 -> l.length + 1 <= 444) /\ (100 <= c / 10 -> l.length + 1 <= 443)
    omega
   ·show 2000 * ((b.length : Int) - (i : Int)).toNat + 300 + ((c / 10 : Nat) : Int).toNat < 2000 * ((b.length : Int) - (i : Int)).toNat + 300 + (c : Int).toNat
    omega
   ·have hc00 : c = 0 := by omega
    rw [hc00, Nat.mul_zero, Nat.add_zero] at hv
    have := of_far (ng := ng) hb hl hne (htop hc00) hv (by omega)
    rw [hd]
    unfold OfR
    rw [this]; rfl
   ·have hc00 : c = 0 := by omega
    rw [hc00, Nat.mul_zero, Nat.add_zero] at hv
    exact hv
   ·show 2000 * ((b.length : Int) - ((i + 1 : Nat) : Int)).toNat + 1950 < 2000 * ((b.length : Int) - (i : Int)).toNat + 300 + (c : Int).toNat
    omega
  ·obtain rfl : t = head_nof_5 := (Option.some.inj ht).symm
   obtain ⟨i, x, rfl, hx, hv⟩ := hI
   have hil := idx_lt hx
   have hxl := x.toNat_lt
   generalize hc : x.toNat = c at *
   have hm10 : c % 10 < 10 := Nat.mod_lt _ (by decide)
   have w3 : IntKind.u8.wrap ((c % 10 : Nat) : Int) = ((c % 10 : Nat) : Int) := wrapB8 (by omega)
   have w4 : IntKind.i64.wrap ((c / 10 : Nat) : Int) = ((c / 10 : Nat) : Int) := wrapK' rfl (by omega)
   have hyb := byte_of (v := c % 10) (by omega)
   simp only [head_nof_5, eZ13, eZ14, eZ15, eZ16, eZ17, Tree.holds, Out.den, E.den, E.denL, dn, List.getD_cons_zero, List.getD_cons_succ, List.length_map, phi_1000, tmod10, tdiv10, w3, w4, bytes_one _ (show c % 10 < 256 by omega), hwi i hil]
   refine ⟨fun hc0 => ⟨⟨ng, _, b, hn, hb, hd, [UInt8.ofNat (c % 10)], i, x, c / 10, rfl, hx, by simp, ?_, ?_, by omega, fun h => top_push (l := []) (by rw [hyb]; omega), ?_⟩, ?_⟩, fun hc0 => ⟨⟨ng, _, b, hn, hb, hd, i + 1, rfl, hil, ?_⟩, ?_⟩⟩
   ·intro y hy; rw [List.mem_singleton.1 hy, hyb]; exact hm10
   ·rw [bv_next hx, hv, hc]
    show (UInt8.ofNat (c % 10)).toNat + 10 * 0 + 10 ^ 1 * (c / 10) = c + 256 * 0
    rw [hyb]; omega
   ·show 1 <= 446 /\ (0 < c / 10 -> 1 <= 445) /\ (10 <= c / 10 -> 1 <= 444) /\ (100 <= c / 10 -> 1 <= 443)
    omega
   ·show 2000 * ((b.length : Int) - (i : Int)).toNat + 300 + ((c / 10 : Nat) : Int).toNat < 2000 * ((b.length : Int) - (i : Int)).toNat + 1000
    omega
   ·rw [bv_next hx, hv, hc]; omega
   ·show 2000 * ((b.length : Int) - ((i + 1 : Nat) : Int)).toNat + 1950 < 2000 * ((b.length : Int) - (i : Int)).toNat + 1000
    omega
  ·obtain rfl : t = head_nof_6 := (Option.some.inj ht).symm
   obtain ⟨l, k, rfl, hk, hl, hlen, hv⟩ := hI
   by_cases hlt : k < l.length
   ·obtain ⟨y, hy, hmem, _⟩ := drop_get hlt
    have hg : (mid l k)[k]? = some y := by rw [mid_get hlt]; exact hy
    have hy10 := hl y hmem
    have w1 : IntKind.u8.wrap ((y.toNat : Int) + 48) = ((y.toNat + 48 : Nat) : Int) := by rw [wrap8 (by omega) (by omega)]; omega
    have w5 : IntKind.i64.wrap ((k : Int) + 1) = ((k + 1 : Nat) : Int) := wrapK' (by omega) (by omega)
    have e1 : Prim.upd.den [bytesD (mid l k), iD (k : Int), .row [.v (.int .u8 ((y.toNat + 48 : Nat) : Int))]] = bytesD (mid l (k + 1)) := by
     rw [bytes_upd _ k _ (by omega) (by omega), Int.toNat_natCast, <- mid_set hy]
     rfl
    simp only [head_nof_6, eZ13, eZ14, eZ15, eZ16, eZ17, Tree.holds, Out.den, E.den, E.denL, dn, List.getD_cons_zero, List.getD_cons_succ, List.length_map, phi_1000, bytes_at hg, bytes_rows, w1, w5, e1, mid_len hk]
    refine ⟨fun _ => ⟨by omega, by omega, ⟨ng, _, b, hn, hb, hd, l, k + 1, rfl, hlt, hl, hlen, hv⟩, ?_⟩, fun h => by omega⟩
    show 500 + ((l.length : Int) - ((k + 1 : Nat) : Int)).toNat < 500 + ((l.length : Int) - (k : Int)).toNat
    omega
   ·obtain rfl : k = l.length := by omega
    have ok1 : okD n [bytesD (mid l l.length)] := okD_one.2 ⟨by rw [bytes_sz, mid_len hk]; omega, bytes_lim.2 (by rw [mid_len hk]; exact Nat.le_trans hlen (by decide))⟩
    have hrl : (mid l l.length).reverse.length = l.length := by rw [List.length_reverse, mid_len hk]
    have e2 : Prim.sofl.den [Prim.sub.den [bytesD (mid l l.length).reverse, iD ((0 : Nat) : Int), iD (l.length : Int)]] = sD ⟨(l.map asc).reverse.toArray⟩ := by
     rw [bytes_text _ 0 _ (by rw [hrl]), List.drop_zero, mid_all]
    have ok2 : okD n [bD ng, sD ⟨(l.map asc).reverse.toArray⟩, iD 0] := ⟨by simp only [D.szL, D.sz]; omega, by simp only [D.LimL, D.Lim, and_true, true_and]; rw [bytes_len, List.length_reverse, List.length_map]; exact Nat.le_trans hlen (by decide)⟩
    have e2' : Prim.sofl.den [Prim.sub.den [bytesD (mid l l.length).reverse, D.v (.int .i64 0), iD (l.length : Int)]] = sD ⟨(l.map asc).reverse.toArray⟩ := e2
    simp only [head_nof_6, eZ13, eZ14, eZ15, eZ16, eZ17, Tree.holds, Out.den, E.den, E.denL, dn, List.getD_cons_zero, List.getD_cons_succ, List.length_map, phi_1000, bytes_rows, phi_reverse, pre_reverse, row_at0, row_at1, mid_len hk, ok1, e2', phi_nmade, ok2, num_at0, num_at1, num_at2, num_put, hrl]
    refine ⟨fun h => by omega, fun _ => ⟨⟨_, rfl, by rw [mid_len hk]; omega⟩, by omega, ?_⟩⟩
    rw [hd, of_made hl hv]; rfl
  ·obtain rfl : t = head_nof_7 := (Option.some.inj ht).symm
   obtain ⟨rfl, hv⟩ := hI
   simp only [head_nof_7, eZ13, eZ14, eZ15, eZ16, eZ17, Tree.holds, Out.den, E.den, E.denL, dn, List.getD_cons_zero, List.getD_cons_succ, List.length_map, phi_1000]
   refine ⟨fun h => by omega, fun _ => ?_⟩
   rw [hd]
   unfold OfR ofV
   rw [hv, made_zero]; rfl
theorem nof_ok (n : Nat) : @Ok (I n) q_nof (@okS (I n) n q_nof.g) :=
 ok_irrel (by decide) (@Ok.less (I (n + 3000)) _ _ _ (nof_more (n + 3000)) fun ds h => ⟨⟨⟨by have := h.1.1; omega, h.1.2⟩, h.2⟩, by omega⟩)
def ByR (t : NumT) : D := .row [bytesD (bytesV t).1, iD (bytesV t).2]
def By0 (S : List UInt8) (ds : List D) : Prop := ∃ (l : List UInt8) (i : Nat), ds = [bytesD l, bytesD S, iD S.length, iD i] /\ i <= S.length /\ l ≠ [] /\ Top l /\ l.length <= i /\ lv 256 l = dv (S.take i)
def By1 (S : List UInt8) (ds : List D) : Prop := ∃ i : Nat, ds = [bytesD S, iD S.length, iD i] /\ i <= S.length /\ dv (S.take i) = 0
def By2 (S : List UInt8) (ds : List D) : Prop := ∃ (l : List UInt8) (i : Nat) (x : UInt8) (c k : Nat), ds = [bytesD l, iD c, bytesD S, iD S.length, iD i, iD l.length, iD k] /\ S[i]? = some x /\ l ≠ [] /\ l.length <= i /\
 MulInv 256 10 l c k ((x.toNat - 48) + 10 * dv (S.take i)) /\ c <= 10 /\ ((k < l.length /\ Top l) \/ (k = l.length /\ (c = 0 -> Top l)))
def By3 (S : List UInt8) (ds : List D) : Prop := ∃ (i : Nat) (x : UInt8), ds = [iD (x.toNat - 48 : Nat), bytesD S, iD S.length, iD i, iD 0, iD 0] /\ S[i]? = some x /\ dv (S.take i) = 0
def ByInv (n j : Nat) (d : D) (ds : List D) : Prop := ∃ (t : NumT) (S : List UInt8), 2000 < n /\ S.length <= 40 /\ Dig S /\ d = ByR t /\ bytesV t = (byts (dv S), 0) /\ (match j with
 | 0 => By0 S ds | 1 => By1 S ds | 2 => By2 S ds | 3 => By3 S ds | _ => False)
def byM (j : Nat) (ds : List D) : Nat := match j with
 | 0 => 100 * (gI ds 2 - gI ds 3).toNat + 90
 | 1 => 100 * (gI ds 1 - gI ds 2).toNat + 90
 | 2 => 100 * (gI ds 3 - gI ds 4).toNat + 80 - (gI ds 6).toNat
 | 3 => 100 * (gI ds 2 - gI ds 3).toNat + 80
 | _ => 0
theorem dv_next {S : List UInt8} {i : Nat} {x : UInt8} (h : S[i]? = some x) : dv (S.take (i + 1)) = (x.toNat - 48) + 10 * dv (S.take i) := by
 rw [take_snoc h, show dv (S.take i ++ [x]) = dv (S.take i) * 10 + (x.toNat - 48) from dvA_snoc 0 _ _]; omega
theorem fdiv256 (m : Nat) : (m : Int).fdiv (2 ^ (min 8 64)) = ((m / 256 : Nat) : Int) := by
 rw [Int.fdiv_eq_ediv_of_nonneg _ (by decide)]
 show (m : Int) / 256 = _
 omega
-- head 0 of loop 0: [t4 .ar 5, t31 .sh (.cell (.sl 5)), t32 .sh (.cell (.sc (.i .i64))), t33 .sh (.cell (.sc (.i .i64)))]
-- head 1 of loop 0: [t4 .con (.v (.slice none 0 0)), t31 .sh (.cell (.sl 5)), t32 .sh (.cell (.sc (.i .i64))), t33 .sh (.cell (.sc (.i .i64)))]
-- head 2 of loop 1: [t4 .ar 5, t7 .sh (.cell (.sc (.i .i64))), t31 .sh (.cell (.sl 5)), t32 .sh (.cell (.sc (.i .i64))), t33 .sh (.cell (.sc (.i .i64))), t41 .sh (.cell (.sc (.i .i64))), t42 .sh (.cell (.sc (.i .i64)))]
-- head 3 of loop 1: [t4 .con (.v (.slice none 0 0)), t7 .sh (.cell (.sc (.i .i64))), t31 .sh (.cell (.sl 5)), t32 .sh (.cell (.sc (.i .i64))), t33 .sh (.cell (.sc (.i .i64))), t41 .sh (.cell (.sc (.i .i64))), t42 .sh (.cell (.sc (.i .i64)))]
def heads_nbytes : List Hd := [⟨0, [.any, .any, .any, .any, .ar 5, .any, .any, .any, .any, .any, .any, .any, .any, .any, .any, .any, .any, .any, .any, .any, .any, .any, .any, .any, .any, .any, .any, .any, .any, .any, .any, .sh (.cell (.sl 5)), .sh (.cell (.sc (.i .i64))), .sh (.cell (.sc (.i .i64))), .any, .any, .any, .any, .any, .any, .any, .any, .any, .any, .any, .any, .any, .any, .any, .any, .any, .any, .any, .any, .any, .any, .any, .any, .any, .any, .any, .any, .any, .any, .any, .any, .any, .any, .any, .any, .any, .any]⟩, ⟨0, [.any, .any, .any, .any, .con (.v (.slice none 0 0)), .any, .any, .any, .any, .any, .any, .any, .any, .any, .any, .any, .any, .any, .any, .any, .any, .any, .any, .any, .any, .any, .any, .any, .any, .any, .any, .sh (.cell (.sl 5)), .sh (.cell (.sc (.i .i64))), .sh (.cell (.sc (.i .i64))), .any, .any, .any, .any, .any, .any, .any, .any, .any, .any, .any, .any, .any, .any, .any, .any, .any, .any, .any, .any, .any, .any, .any, .any, .any, .any, .any, .any, .any, .any, .any, .any, .any, .any, .any, .any, .any, .any]⟩, ⟨1, [.any, .any, .any, .any, .ar 5, .any, .any, .sh (.cell (.sc (.i .i64))), .any, .any, .any, .any, .any, .any, .any, .any, .any, .any, .any, .any, .any, .any, .any, .any, .any, .any, .any, .any, .any, .any, .any, .sh (.cell (.sl 5)), .sh (.cell (.sc (.i .i64))), .sh (.cell (.sc (.i .i64))), .any, .any, .any, .any, .any, .any, .any, .sh (.cell (.sc (.i .i64))), .sh (.cell (.sc (.i .i64))), .any, .any, .any, .any, .any, .any, .any, .any, .any, .any, .any, .any, .any, .any, .any, .any, .any, .any, .any, .any, .any, .any, .any, .any, .any, .any, .any, .any, .any]⟩, ⟨1, [.any, .any, .any, .any, .con (.v (.slice none 0 0)), .any, .any, .sh (.cell (.sc (.i .i64))), .any, .any, .any, .any, .any, .any, .any, .any, .any, .any, .any, .any, .any, .any, .any, .any, .any, .any, .any, .any, .any, .any, .any, .sh (.cell (.sl 5)), .sh (.cell (.sc (.i .i64))), .sh (.cell (.sc (.i .i64))), .any, .any, .any, .any, .any, .any, .any, .sh (.cell (.sc (.i .i64))), .sh (.cell (.sc (.i .i64))), .any, .any, .any, .any, .any, .any, .any, .any, .any, .any, .any, .any, .any, .any, .any, .any, .any, .any, .any, .any, .any, .any, .any, .any, .any, .any, .any, .any, .any]⟩]
def eZ18 : E := (.lit (.string (mkS [48])))
def eZ19 : E := (.pr .los [(.pr .scat [(.c 1 .v0), (.app 20 [eZ18, (.c 2 .v0)])])])
def eZ20 : E := (.pr (.iop .add .i64) [.v1, (.pr (.iop .mul .i64) [(.i 10), (.pr (.conv .i64) [(.c 0 (.a .v0 .v6))])])])
def eZ21 : E := (.pr .cat [.v0, (.pr .lst [(.pr .row [(.pr (.conv .u8) [.v1])])])])
def entry_nbytes : Tree :=
 (.giv (.app 1000 [(.r3 .v0)])
 (.ite (.ne (.app 5 [(.r3 .v0)]) (.i 0))
 (.rt (.pr .row [(.pr .lst []), (.i 10)]))
 (.ite (.lt (.c 2 .v0) (.i 0))
 (.rt (.pr .row [(.pr .lst []), (.i 11)]))
 (.ite (.gt (.pr (.iop .add .i64) [(.pr .slen [(.c 1 .v0)]), (.c 2 .v0)]) (.i 40))
 (.rt (.pr .row [(.pr .lst []), (.i 2)]))
 (.giv (.app 1000 [eZ18, (.c 2 .v0)])
 (.giv (.app 2020 [eZ18, (.c 2 .v0)])
 (.giv (.le (.pr .slen [(.c 1 .v0)]) (.i 1099511627776))
 (.giv (.le (.pr .slen [(.app 20 [eZ18, (.c 2 .v0)])]) (.i 1099511627776))
 (.g 1 [eZ19, (.n eZ19), (.i 0)])))))))))
def head_nbytes_0 : Tree :=
 (.ite (.lt .v3 .v2)
 (.giv (.le (.i 0) .v3)
 (.giv (.lt .v3 (.n .v1))
 (.g 2 [.v0, (.pr (.conv .i64) [(.pr (.iop .sub .u8) [(.c 0 (.a .v1 .v3)), (.lit (.int .u8 48))])]), .v1, .v2, .v3, (.n .v0), (.i 0)])))
 (.giv (.app 1000 [.v0])
 (.giv (.app 2082 [.v0])
 (.giv (.eq (.n .v0) (.n (.c 0 (.app 82 [.v0]))))
 (.rt (.pr .row [(.c 0 (.app 82 [.v0])), (.i 0)]))))))
def head_nbytes_1 : Tree :=
 (.ite (.lt .v2 .v1)
 (.giv (.le (.i 0) .v2)
 (.giv (.lt .v2 (.n .v0))
 (.g 3 [(.pr (.conv .i64) [(.pr (.iop .sub .u8) [(.c 0 (.a .v0 .v2)), (.lit (.int .u8 48))])]), .v0, .v1, .v2, (.i 0), (.i 0)])))
 (.rt (.pr .row [(.pr .lst []), (.i 0)])))
def head_nbytes_2 : Tree :=
 (.ite (.lt .v6 .v5)
 (.giv (.le (.i 0) .v6)
 (.giv (.lt .v6 (.n .v0))
 (.g 2 [(.pr .upd [.v0, .v6, (.pr .row [(.pr (.conv .u8) [eZ20])])]), (.pr (.iop .shr .i64) [eZ20, (.lit (.int .u64 8))]), .v2, .v3, .v4, .v5, (.pr (.iop .add .i64) [.v6, (.i 1)])])))
 (.ite (.gt .v1 (.i 0))
 (.giv (.le (.n eZ21) (.i 4294967296))
 (.g 0 [eZ21, .v2, .v3, (.pr (.iop .add .i64) [.v4, (.i 1)])]))
 (.g 0 [.v0, .v2, .v3, (.pr (.iop .add .i64) [.v4, (.i 1)])])))
def head_nbytes_3 : Tree :=
 (.ite (.lt .v5 .v4) .dead
 (.ite (.gt .v0 (.i 0))
 (.g 0 [(.pr .lst [(.pr .row [(.pr (.conv .u8) [.v0])])]), .v1, .v2, (.pr (.iop .add .i64) [.v3, (.i 1)])])
 (.g 1 [.v1, .v2, (.pr (.iop .add .i64) [.v3, (.i 1)])])))
def trees_nbytes : List Tree := [head_nbytes_0, head_nbytes_1, head_nbytes_2, head_nbytes_3]
noncomputable def deps_nbytes : List Sig := [q_numcheck, q_repeat]
noncomputable def depsM_nbytes : List SigM := [q_reverse]
theorem ok_nbytes : checkN q_nbytes deps_nbytes depsM_nbytes heads_nbytes entry_nbytes trees_nbytes = true := by kernel_rfl
theorem nbytes_more (n : Nat) : @Ok (I n) q_nbytes (fun ds => okD n ds /\ 2000 < n) := by
 letI := I n
 refine fn_okN (hphi n) ok_nbytes (by
  intro q hq
  simp only [deps_nbytes, List.mem_cons, List.not_mem_nil, or_false] at hq
  rcases hq with rfl | rfl
  ·exact okS_of (numcheck_ok n)
  ·exact repeat_ok n) (by
  intro q hq
  simp only [depsM_nbytes, List.mem_singleton] at hq
  subst hq
  exact ⟨reverse_ok n, reverse_goes n⟩) (ByInv n) byM ?_ ?_
 ·intro ds hf ⟨hp, hn⟩
  obtain ⟨a, d, x, rfl⟩ := one_num hf
  have hP : @Interp.phi (I n) 95 [.row [bD a, sD d, iD x]] = ByR (a, d, x) := rfl
  have oz : ∀ k : Int, okD n [sD (mkS [48]), iD k] := fun k => okD_two.2 ⟨by simp only [D.sz]; omega, lim_sD.2 (by decide), trivial⟩
  have hb : ∀ l e, bytesV (a, d, x) = (l, e) -> D.row [bytesD l, iD e] = ByR (a, d, x) := fun l e h => by unfold ByR; rw [h]
  by_cases hv : numV a d x = 0
  case neg =>
   simp only [entry_nbytes, eZ18, eZ19, eZ20, eZ21, q_nbytes, Tree.holds, Out.den, E.den, E.denL, dn, List.getD_cons_zero, List.getD_cons_succ, List.length_map, phi_1000, phi_numcheck, hP, row_at0, row_at1, row_at2, hp]
   refine ⟨fun _ => hb [] 10 ?_, fun h => absurd h hv⟩
   unfold bytesV
   rw [if_pos (show ¬ formN (a, d, x) = 0 from hv)]
  obtain ⟨hd, hpos, b1, b2, b3, _⟩ := num_first (t := (a, d, x)) hv
  simp only at hd hpos b1 b2 b3
  have w1 : IntKind.i64.wrap ((d.size : Int) + x) = d.size + x := wrapI (by omega) (by omega)
  have hS : (d ++ zer x).data.toList = d.data.toList ++ List.replicate x.toNat 48 := by rw [cat_list, zer_list]
  simp only [entry_nbytes, eZ18, eZ19, eZ20, eZ21, q_nbytes, Tree.holds, Out.den, E.den, E.denL, dn, List.getD_cons_zero, List.getD_cons_succ, List.length_map, phi_1000, phi_numcheck, phi_repeat, pre_repeat, hP, row_at0, row_at1, row_at2, hp, hv, w1, oz, den_los, bytes_rows, not_true_eq_false, false_implies, true_implies, true_and]
  have hV := fun h2 h3 => show bytesV (a, d, x) = (byts (dv d.data.toList * 10 ^ x.toNat), 0) by
   unfold bytesV
   rw [if_neg (show ¬ ¬ formN (a, d, x) = 0 from fun k => k hv), if_neg h2, if_neg h3]
  refine ⟨fun h2 => hb [] 11 ?_, fun h2 => ⟨fun h3 => hb [] 2 ?_, fun h3 => ⟨by omega, by omega, by rw [zer_size]; omega, (a, d, x), (d ++ zer x).data.toList, hn, ?_, ?_, rfl, ?_, 0, rfl, Nat.zero_le _, rfl⟩⟩⟩
  ·unfold bytesV
   rw [if_neg (show ¬ ¬ formN (a, d, x) = 0 from fun k => k hv), if_pos h2]
  ·unfold bytesV
   rw [if_neg (show ¬ ¬ formN (a, d, x) = 0 from fun k => k hv), if_neg h2, if_pos h3]
  ·rw [list_len, cat_size, zer_size]; omega
  ·rw [hS]; exact dig_append hd (dig_zeros _)
  ·rw [hV h2 h3, hS, dv_append, dv_zeros, List.length_replicate, Nat.add_zero]
 ·intro j h t d ds hj ht hf ⟨tt, S, hn, hb, hdg, hd, hV, hI⟩
  have hjl : j < 4 := (List.getElem?_eq_some_iff.1 ht).1
  have hwi : ∀ i : Nat, i < S.length -> IntKind.i64.wrap ((i : Int) + 1) = ((i + 1 : Nat) : Int) := fun i hi => wrapK' (by omega) (by omega)
  have hdig : ∀ (x : UInt8) (i : Nat), S[i]? = some x -> 48 <= x.toNat /\ x.toNat <= 57 /\ IntKind.i64.wrap (IntKind.u8.wrap ((x.toNat : Int) - 48)) = ((x.toNat - 48 : Nat) : Int) := fun x i hx => by
   have := dig_at hdg hx
   refine ⟨this.1, this.2, ?_⟩
   rw [wrap8 (by omega) (by omega), wrapI (by omega) (by omega)]; omega
  rcases (show j = 0 \/ j = 1 \/ j = 2 \/ j = 3 by omega) with rfl | rfl | rfl | rfl
  ·obtain rfl : t = head_nbytes_0 := (Option.some.inj ht).symm
   obtain ⟨l, i, rfl, hi, hne, htop, hlen, hv⟩ := hI
   by_cases hlt : i < S.length
   ·obtain ⟨x, hx, _, _⟩ := drop_get hlt
    obtain ⟨x1, x2, x3⟩ := hdig x i hx
    simp only [head_nbytes_0, eZ18, eZ19, eZ20, eZ21, Tree.holds, Out.den, E.den, E.denL, dn, List.getD_cons_zero, List.getD_cons_succ, List.length_map, phi_1000, bytes_at hx, bytes_rows, x3]
    refine ⟨fun _ => ⟨by omega, by omega, ⟨tt, S, hn, hb, hdg, hd, hV, l, i, x, x.toNat - 48, 0, rfl, hx, hne, hlen, ?_, by omega, .inl ⟨List.length_pos_iff.2 hne, htop⟩⟩, ?_⟩, fun h => by omega⟩
    ·rw [<- hv]; exact mul_start fun y _ => y.toNat_lt
    ·show 100 * ((S.length : Int) - (i : Int)).toNat + 80 - (0 : Int).toNat < 100 * ((S.length : Int) - (i : Int)).toNat + 90
     omega
   ·obtain rfl : i = S.length := by omega
    rw [List.take_length] at hv
    simp only [head_nbytes_0, eZ18, eZ19, eZ20, eZ21, Tree.holds, Out.den, E.den, E.denL, dn, List.getD_cons_zero, List.getD_cons_succ, List.length_map, phi_1000, bytes_rows, phi_reverse, pre_reverse, row_at0, row_at1, List.length_reverse]
    refine ⟨fun h => by omega, fun _ => ⟨?_, ⟨l, rfl, by omega⟩, ?_⟩⟩
    ·exact okD_one.2 ⟨by rw [bytes_sz]; omega, bytes_lim.2 (Nat.le_trans (Nat.le_trans hlen hb) (by decide))⟩
    ·rw [hd]
     unfold ByR
     rw [hV, byts_rev l fun _ => htop, hv]
  ·obtain rfl : t = head_nbytes_1 := (Option.some.inj ht).symm
   obtain ⟨i, rfl, hi, hv⟩ := hI
   by_cases hlt : i < S.length
   ·obtain ⟨x, hx, _, _⟩ := drop_get hlt
    obtain ⟨x1, x2, x3⟩ := hdig x i hx
    simp only [head_nbytes_1, eZ18, eZ19, eZ20, eZ21, Tree.holds, Out.den, E.den, E.denL, dn, List.getD_cons_zero, List.getD_cons_succ, List.length_map, phi_1000, bytes_at hx, bytes_rows, x3]
    refine ⟨fun _ => ⟨by omega, by omega, ⟨tt, S, hn, hb, hdg, hd, hV, i, x, rfl, hx, hv⟩, ?_⟩, fun h => by omega⟩
    show 100 * ((S.length : Int) - (i : Int)).toNat + 80 < 100 * ((S.length : Int) - (i : Int)).toNat + 90
    omega
   ·obtain rfl : i = S.length := by omega
    rw [List.take_length] at hv
    simp only [head_nbytes_1, eZ18, eZ19, eZ20, eZ21, Tree.holds, Out.den, E.den, E.denL, dn, List.getD_cons_zero, List.getD_cons_succ, List.length_map, phi_1000]
    refine ⟨fun h => by omega, fun _ => ?_⟩
    rw [hd]
    unfold ByR
    rw [hV, hv, byts_zero]; rfl
  ·obtain rfl : t = head_nbytes_2 := (Option.some.inj ht).symm
   obtain ⟨l, i, x, c, k, rfl, hx, hne, hlen, hm, hc, hcase⟩ := hI
   have hil := idx_lt hx
   by_cases hlt : k < l.length
   ·obtain ⟨y, hy, hmem, _⟩ := drop_get hlt
    have hy10 := y.toNat_lt
    have htop : Top l := by
     rcases hcase with h | h
     ·exact h.2
     ·omega
    have w1 : IntKind.i64.wrap (10 * (y.toNat : Int)) = ((10 * y.toNat : Nat) : Int) := wrapK' (by omega) (by omega)
    have w2 : IntKind.i64.wrap ((c : Int) + ((10 * y.toNat : Nat) : Int)) = ((c + 10 * y.toNat : Nat) : Int) := wrapK' (by omega) (by omega)
    have hst := mul_step (B := 256) (by decide) (by decide) hm hy
    have hv0 : c + 10 * y.toNat <= 2560 := by omega
    have hlast : k + 1 = l.length -> (c + 10 * y.toNat) / 256 = 0 -> (c + 10 * y.toNat) % 256 ≠ 0 := fun hk h0 => by
     have := top_at htop hy hk
     omega
    have w3 : IntKind.u8.wrap ((c + 10 * y.toNat : Nat) : Int) = (((c + 10 * y.toNat) % 256 : Nat) : Int) := by
     unfold IntKind.wrap
     have e : (2 ^ IntKind.u8.bits : Int) = 256 := rfl
     have e3 : IntKind.u8.signed = false := rfl
     simp only [e, e3, Bool.false_and, Bool.false_eq_true, if_false]
     omega
    have w8 : (8 : Int).toNat = 8 := rfl
    have wb : IntKind.i64.bits = 64 := rfl
    simp only [head_nbytes_2, eZ18, eZ19, eZ20, eZ21, Tree.holds, Out.den, E.den, E.denL, dn, List.getD_cons_zero, List.getD_cons_succ, List.length_map, phi_1000, bytes_at hy, bytes_rows, wrapB, w1, w2, w3, den_shr, w8, wb, fdiv256]
    generalize hvv : c + 10 * y.toNat = v at *
    have hm10 : v % 256 < 256 := Nat.mod_lt _ (by decide)
    have w5 : IntKind.i64.wrap ((k : Int) + 1) = ((k + 1 : Nat) : Int) := wrapK' (by omega) (by omega)
    have e1 : Prim.upd.den [bytesD l, iD (k : Int), .row [.v (.int .u8 ((v % 256 : Nat) : Int))]] = bytesD (l.set k (UInt8.ofNat (v % 256))) := by
     rw [bytes_upd l k _ (by omega) (by omega), Int.toNat_natCast]
    rw [w5, e1]
    refine ⟨fun _ => ⟨by omega, by omega, ⟨tt, S, hn, hb, hdg, hd, hV, l.set k (UInt8.ofNat (v % 256)), i, x, v / 256, k + 1, ?_, hx, ?_, by rw [List.length_set]; exact hlen, hst, by omega, ?_⟩, ?_⟩, fun h => by omega⟩
    ·rw [List.length_set]
    ·intro h0
     have := congrArg List.length h0
     rw [List.length_set] at this
     exact hne (List.eq_nil_of_length_eq_zero this)
    ·rw [List.length_set]
     by_cases hk : k + 1 < l.length
     ·exact .inl ⟨hk, top_set htop hk⟩
     ·exact .inr ⟨by omega, fun h0 => top_last (by rw [byte_of hm10]; exact hlast (by omega) h0) (by omega)⟩
    ·show 100 * ((S.length : Int) - (i : Int)).toNat + 80 - ((k + 1 : Nat) : Int).toNat < 100 * ((S.length : Int) - (i : Int)).toNat + 80 - (k : Int).toNat
     omega
   ·obtain rfl : k = l.length := by have := hm.1; omega
    have htop : c = 0 -> Top l := by
     rcases hcase with h | h
     ·omega
     ·exact h.2
    have he := mul_end hm
    have w3 : IntKind.u8.wrap (c : Int) = (c : Int) := wrapB8 (by omega)
    have hcb := byte_of (v := c) (by omega)
    simp only [head_nbytes_2, eZ18, eZ19, eZ20, eZ21, Tree.holds, Out.den, E.den, E.denL, dn, List.getD_cons_zero, List.getD_cons_succ, List.length_map, phi_1000, w3, bytes_push l c (by omega), bytes_rows, hwi i hil]
    refine ⟨fun h => by omega, fun _ => ⟨fun hc0 => ⟨?_, ⟨tt, S, hn, hb, hdg, hd, hV, l ++ [UInt8.ofNat c], i + 1, rfl, hil, by simp, top_push (by rw [hcb]; omega), ?_, ?_⟩, ?_⟩, fun hc0 => ⟨⟨tt, S, hn, hb, hdg, hd, hV, l, i + 1, rfl, hil, hne, htop (by omega), by omega, ?_⟩, ?_⟩⟩⟩
    ·rw [List.length_append]; show ((l.length + 1 : Nat) : Int) <= _; omega
    ·rw [List.length_append]; show l.length + 1 <= i + 1; omega
    ·rw [lv_push, hcb, dv_next hx]; exact he
    ·show 100 * ((S.length : Int) - ((i + 1 : Nat) : Int)).toNat + 90 < 100 * ((S.length : Int) - (i : Int)).toNat + 80 - (l.length : Int).toNat
     omega
    ·have hc00 : c = 0 := by omega
     rw [hc00, Nat.mul_zero, Nat.add_zero] at he
     rw [dv_next hx]; exact he
    ·show 100 * ((S.length : Int) - ((i + 1 : Nat) : Int)).toNat + 90 < 100 * ((S.length : Int) - (i : Int)).toNat + 80 - (l.length : Int).toNat
     omega
  ·obtain rfl : t = head_nbytes_3 := (Option.some.inj ht).symm
   obtain ⟨i, x, rfl, hx, hv⟩ := hI
   have hil := idx_lt hx
   obtain ⟨x1, x2, _⟩ := hdig x i hx
   generalize hc : x.toNat - 48 = c at *
   have hc9 : c <= 9 := by omega
   have w3 : IntKind.u8.wrap (c : Int) = (c : Int) := wrapB8 (by omega)
   have hcb := byte_of (v := c) (by omega)
   simp only [head_nbytes_3, eZ18, eZ19, eZ20, eZ21, Tree.holds, Out.den, E.den, E.denL, dn, List.getD_cons_zero, List.getD_cons_succ, List.length_map, phi_1000, w3, bytes_one c (by omega), hwi i hil]
   refine ⟨fun h => by omega, fun _ => ⟨fun hc0 => ⟨⟨tt, S, hn, hb, hdg, hd, hV, [UInt8.ofNat c], i + 1, rfl, hil, by simp, top_push (l := []) (by rw [hcb]; omega), ?_, ?_⟩, ?_⟩, fun hc0 => ⟨⟨tt, S, hn, hb, hdg, hd, hV, i + 1, rfl, hil, ?_⟩, ?_⟩⟩⟩
   ·show 1 <= i + 1; omega
   ·rw [dv_next hx, hv, hc]
    show (UInt8.ofNat c).toNat + 256 * 0 = c + 10 * 0
    rw [hcb]
   ·show 100 * ((S.length : Int) - ((i + 1 : Nat) : Int)).toNat + 90 < 100 * ((S.length : Int) - (i : Int)).toNat + 80
    omega
   ·rw [dv_next hx, hv, hc]; omega
   ·show 100 * ((S.length : Int) - ((i + 1 : Nat) : Int)).toNat + 90 < 100 * ((S.length : Int) - (i : Int)).toNat + 80
    omega
theorem nbytes_ok (n : Nat) : @Ok (I n) q_nbytes (okD n) :=
 ok_irrel (by decide) (@Ok.less (I (n + 3000)) _ _ _ (nbytes_more (n + 3000)) fun ds h => ⟨⟨by have := h.1; omega, h.2⟩, by omega⟩)
end Go.Proofs.YtflhikakndanjaaDoor.Vk
/- Contracts of the reference of chapter 1: Zeros, less, aligned, Less. -/
namespace Go.Proofs.YtflhikakndanjaaDoor.Vk
open Go Go.Ab Go.RowKit
theorem one_int {d : List D} (h : FitL tb [.cell (.sc (.i .i64))] d) : ∃ i, d = [iD i] := by
 match d, h with
 | [a], ⟨h1, _⟩ =>
  obtain ⟨l, rfl⟩ := fits_int h1
  exact ⟨l, rfl⟩
theorem zer_succ (i : Nat) : zer (i : Int) ++ mkS [48] = zer ((i + 1 : Nat) : Int) := by
 refine ByteArray.ext (Array.toList_inj.1 ?_)
 rw [cat_list, zer_list, zer_list, Int.toNat_natCast, Int.toNat_natCast, List.replicate_succ']
 rfl
-- head 0 of loop 0: [t0 .sh (.cell (.sc (.i .i64))), t3 .sh (.cell (.sc .s)), t4 .sh (.cell (.sc (.i .i64)))]
def heads_rzeros : List Hd := [⟨0, [.sh (.cell (.sc (.i .i64))), .any, .any, .sh (.cell (.sc .s)), .sh (.cell (.sc (.i .i64))), .any, .any, .any, .any, .any, .any, .any, .any]⟩]
def entry_rzeros : Tree :=
 (.g 0 [.v0, (.lit (.string .empty)), (.i 0)])
def head_rzeros_0 : Tree :=
 (.ite (.lt .v2 .v0)
 (.giv (.le (.pr .slen [.v1]) (.i 1099511627776))
 (.g 0 [.v0, (.pr .scat [.v1, (.lit (.string (mkS [48])))]), (.pr (.iop .add .i64) [.v2, (.i 1)])]))
 (.rt .v1))
def trees_rzeros : List Tree := [head_rzeros_0]
noncomputable def deps_rzeros : List Sig := []
theorem ok_rzeros : check q_rzeros deps_rzeros heads_rzeros entry_rzeros trees_rzeros = true := by kernel_rfl
theorem rzeros_ok (n : Nat) : @Ok (I n) q_rzeros (@okS (I n) n q_rzeros.g) := by
 letI := I n
 refine fn_okS (hphi n) ok_rzeros (by intro q hq; simp [deps_rzeros] at hq)
  (fun _ d ds => ∃ (m i : Nat), ds = [iD m, sD (zer i), iD i] /\ i <= m /\ m <= 1000000 /\ d = sD (zer m))
  (fun _ ds => (ds.getD 0 .nil).int.toNat - (ds.getD 2 .nil).int.toNat) ?_ ?_
 ·intro ds hf hp
  obtain ⟨i, rfl⟩ := one_int hf
  obtain ⟨p1, p2⟩ := (pre_rzeros n i).1 (hp.2 rfl)
  obtain ⟨m, rfl⟩ : ∃ m : Nat, i = m := ⟨i.toNat, by omega⟩
  simp only [entry_rzeros, q_rzeros, Tree.holds, Out.den, E.den, E.denL, dn, List.getD_cons_zero, List.getD_cons_succ, List.length_map, phi_1000, phi_rzeros]
  exact ⟨m, 0, rfl, Nat.zero_le _, by omega, rfl⟩
 ·rintro j h t d ds hj ht hf ⟨m, i, rfl, hi, hm, rfl⟩
  obtain rfl : t = head_rzeros_0 := by
   match j, ht with
   | 0, ht => exact (Option.some.inj ht).symm
  by_cases hlt : i < m
  ·simp only [head_rzeros_0, Tree.holds, Out.den, E.den, E.denL, dn, List.getD_cons_zero, List.getD_cons_succ, List.length_map, phi_1000, wrap_succ hlt (show m <= lim by have : 1000000 <= lim := (by decide); omega), zer_succ, zer_size]
   exact ⟨fun _ => ⟨by omega, ⟨m, i + 1, rfl, hlt, hm, rfl⟩, by omega⟩, fun h => by omega⟩
  ·obtain rfl : i = m := by omega
   simp only [head_rzeros_0, Tree.holds, Out.den, E.den, E.denL, dn, List.getD_cons_zero, List.getD_cons_succ, List.length_map, phi_1000]
   exact ⟨fun h => by omega, fun _ => trivial⟩
end Go.Proofs.YtflhikakndanjaaDoor.Vk
