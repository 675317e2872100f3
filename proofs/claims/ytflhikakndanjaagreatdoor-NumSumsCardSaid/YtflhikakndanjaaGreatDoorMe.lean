/- Merged own texts, without what this claim does not use. -/
import Derived.Test.YtflhikakndanjaaGreatDoorMd
import Derived.Test.YtflhikakndanjaaGreatDoorRows
import Derived.KernelRfl
import Derived.Lib.SlTrimSet
import Derived.Lib.ValidLaws
import Derived.Lib.Bytealg
import Derived.Shelf.Strings.Builder1
import Derived.Shelf.Strings.Builder2
import Derived.Shelf.Strings.Trim
import Derived.Shelf.Small.Utf8
import Derived.Shelf.Small.Strs
import Derived.Shelf.Strings.BuilderF
import Derived.Shelf.Strconv.Atoi
import Derived.Shelf.Strconv.Itoa0
import Derived.Shelf.Strconv.Itoa1
import Derived.Shelf.LaysM
import Derived.Shelf.Strconv.Itoa2
import Derived.Shelf.Strconv.Itoa3
import Derived.Shelf.Strings.Search1
import Derived.Shelf.Strings.Prefix
import Derived.Shelf.Strings.Runes
import Derived.Shelf.Strings.AsciiSet
import Derived.Shelf.Bits.Mul64
import Derived.Shelf.Strings.Repeat
import Derived.Shelf.Unicode.DecodeSlow
import Derived.Shelf.Strings.SlTrimAscii
import Derived.Test.YtflhikakndanjaaGreatDoorProg
import Derived.Lib.Repeat
set_option maxRecDepth 100000
set_option linter.unusedVariables false
set_option linter.unusedSimpArgs false
set_option linter.unusedSectionVars false
set_option linter.constructorNameAsVariable false
namespace Go.Ab
def E.v0 : E := .var 0
def E.v1 : E := .var 1
def E.v2 : E := .var 2
def E.v3 : E := .var 3
def E.v4 : E := .var 4
def E.v5 : E := .var 5
def E.v6 : E := .var 6
def E.v7 : E := .var 7
def E.v8 : E := .var 8
def E.v9 : E := .var 9
def E.i (x : Int) : E := .lit (.int .i64 x)
def E.c (k : Nat) (x : E) : E := .pr (.cell k) [x]
def E.n (x : E) : E := .pr .len [x]
def E.lt (x y : E) : E := .pr (.icmp .lss) [x, y]
def E.le (x y : E) : E := .pr (.icmp .leq) [x, y]
def E.eq (x y : E) : E := .pr (.icmp .eql) [x, y]
def E.ge (x y : E) : E := .pr (.icmp .geq) [x, y]
def E.gt (x y : E) : E := .pr (.icmp .gtr) [x, y]
def E.ne (x y : E) : E := .pr (.icmp .neq) [x, y]
def E.r3 (x : E) : E := .pr .row [.pr (.cell 0) [x], .pr (.cell 1) [x], .pr (.cell 2) [x]]
def Tree.no : Tree := .leaf (.ret (.lit (.bool false)))
def Tree.ye : Tree := .leaf (.ret (.lit (.bool true)))
def Tree.rt (x : E) : Tree := .leaf (.ret x)
def Tree.g (j : Nat) (x : List E) : Tree := .leaf (.go j x)
theorem dt : (E.v0 = E.var 0) /\ (E.v1 = E.var 1) /\ (E.v2 = E.var 2) /\ (E.v3 = E.var 3) /\ (E.v4 = E.var 4) /\ (E.v5 = E.var 5) /\ (E.v6 = E.var 6) /\ (E.v7 = E.var 7) /\ (E.v8 = E.var 8) /\ (E.v9 = E.var 9) /\ (∀ (x : Int), E.i x = E.lit (.int .i64 x)) /\ (∀ (k : Nat) (x : E), E.c k x = E.pr (.cell k) [x]) /\ (∀ (x : E), E.n x = E.pr .len [x]) /\ (∀ (x y : E), E.lt x y = E.pr (.icmp .lss) [x, y]) /\ (∀ (x y : E), E.le x y = E.pr (.icmp .leq) [x, y]) /\ (∀ (x y : E), E.eq x y = E.pr (.icmp .eql) [x, y]) /\ (∀ (x y : E), E.ge x y = E.pr (.icmp .geq) [x, y]) /\ (∀ (x y : E), E.gt x y = E.pr (.icmp .gtr) [x, y]) /\ (∀ (x y : E), E.ne x y = E.pr (.icmp .neq) [x, y]) /\ (∀ (x : E), E.r3 x = E.pr .row [.pr (.cell 0) [x], .pr (.cell 1) [x], .pr (.cell 2) [x]]) /\ (Tree.no = Tree.leaf (.ret (.lit (.bool false)))) /\ (Tree.ye = Tree.leaf (.ret (.lit (.bool true)))) /\ (∀ (x : E), Tree.rt x = Tree.leaf (.ret x)) /\ (∀ (j : Nat) (x : List E), Tree.g j x = Tree.leaf (.go j x)) := ⟨rfl, rfl, rfl, rfl, rfl, rfl, rfl, rfl, rfl, rfl, fun _ => rfl, fun _ _ => rfl, fun _ => rfl, fun _ _ => rfl, fun _ _ => rfl, fun _ _ => rfl, fun _ _ => rfl, fun _ _ => rfl, fun _ _ => rfl, fun _ => rfl, rfl, rfl, fun _ => rfl, fun _ _ => rfl⟩
theorem dn : type_of% (And.intro @den1 (And.intro @den2 (And.intro @den3 (And.intro @den4 (And.intro @den5 (And.intro @den6 (And.intro @den7 (And.intro @den8 (And.intro @Bool.not_eq_true' (And.intro @Bool.not_eq_false' (And.intro @true_and (And.intro @and_true (dt))))))))))))) := And.intro @den1 (And.intro @den2 (And.intro @den3 (And.intro @den4 (And.intro @den5 (And.intro @den6 (And.intro @den7 (And.intro @den8 (And.intro @Bool.not_eq_true' (And.intro @Bool.not_eq_false' (And.intro @true_and (And.intro @and_true (dt))))))))))))
end Go.Ab
/- The seat's functions by their ways: what is asked for one of them, and what all share. -/
namespace Go.Proofs.YtflhikakndanjaaGreatDoor.Vk
open Go Go.Ab Go.RowKit
theorem noNum : NoNum Tryz.prog := by
 have h : (Tryz.prog.funcs.all fun fn => !(fn.name == "runtime.NumGoroutine")) = true := by kernel_rfl
 intro f fn hf
 have := Array.all_eq_true_iff_forall_mem.1 h fn (Array.mem_of_getElem? hf)
 simpa using this
noncomputable def tabs : List (Nat × List Value) := laidTabs Tryz.prog Rows.numSumsRow.laid
theorem tabs_nodup : (tabs.map (·.1)).Nodup := of_decide_eq_true (by kernel_rfl)
theorem tabs_plain : (tabs.all fun x => x.2.all scalar) = true := by kernel_rfl
def tb : List (Nat × List CT) := [(9, [.sc .s]), (23, [.sc .b, .sc .s, .sc (.i .i64)]), (3, [.sc (.i .i64)]), (5, [.sc (.i .u8)])]
def muL : List Nat := [37, 7, 23]
def muF (f : Nat) : Bool := muL.any (Nat.beq f)
def q_numcheck : Sig := { f := 10, g := 5, args := [(.row 23)], res := [(.cell (.sc (.i .i64)))] }
def q_trim : Sig := { f := 38, g := 6, args := [(.cell (.sc .s)), (.lit (mkS [48, 49, 50, 51, 52, 53, 54, 55, 56, 57]))], res := [(.cell (.sc .s))] }
def q_scmp : Sig := { f := 12, g := 19, args := [(.cell (.sc .s)), (.cell (.sc .s))], res := [(.cell (.sc (.i .i64)))] }
def q_repeat : Sig := { f := 26, g := 20, args := [(.lit (mkS [48])), (.cell (.sc (.i .i64)))], res := [(.cell (.sc .s))] }
def q_level : Sig := { f := 11, g := 21, args := [(.row 23), (.row 23)], res := [(.cell (.sc .s)), (.cell (.sc .s)), (.cell (.sc (.i .i64)))] }
def q_numcmp : Sig := { f := 5, g := 22, args := [(.row 23), (.row 23)], res := [(.cell (.sc (.i .i64))), (.cell (.sc (.i .i64)))] }
def q_rall : Sig := { f := 28, g := 36, args := [(.cell (.sc .s))], res := [(.cell (.sc .b))] }
def q_rzeros : Sig := { f := 31, g := 37, args := [(.cell (.sc (.i .i64)))], res := [(.cell (.sc .s))] }
def q_rless : Sig := { f := 18, g := 38, args := [(.cell (.sc .s)), (.cell (.sc .s))], res := [(.cell (.sc .b))] }
def q_rnumless : Sig := { f := 14, g := 39, args := [(.row 23), (.row 23)], res := [(.cell (.sc .b))] }
def q_raligned : Sig := { f := 16, g := 56, args := [(.row 23), (.row 23)], res := [(.cell (.sc .s)), (.cell (.sc .s)), (.cell (.sc (.i .i64)))] }
def q_trimzero : Sig := { f := 29, g := 78, args := [(.cell (.sc .s)), (.lit (mkS [48]))], res := [(.cell (.sc .s))] }
def q_trimrzero : Sig := { f := 30, g := 79, args := [(.cell (.sc .s)), (.lit (mkS [48]))], res := [(.cell (.sc .s))] }
def q_nmade : Sig := { f := 15, g := 88, args := [(.cell (.sc .b)), (.cell (.sc .s)), (.cell (.sc (.i .i64)))], res := [(.row 23), (.cell (.sc (.i .i64)))] }
def q_nadd : Sig := { f := 7, g := 92, args := [(.row 23), (.row 23)], res := [(.row 23), (.cell (.sc (.i .i64)))] }
def q_qis : Sig := { f := 13, g := 96, args := [(.row 23)], res := [(.cell (.sc .b))] }
def q_qmade : Sig := { f := 20, g := 98, args := [(.cell (.sc .b)), (.cell (.sc .s)), (.cell (.sc (.i .i64)))], res := [(.row 23), (.cell (.sc .b))] }
def q_qcmp : Sig := { f := 6, g := 104, args := [(.row 23), (.row 23)], res := [(.cell (.sc (.i .i64))), (.cell (.sc (.i .i64)))] }
def q_qplus : Sig := { f := 17, g := 105, args := [(.cell (.sc .s)), (.cell (.sc .s))], res := [(.cell (.sc .s))] }
def q_qminus : Sig := { f := 19, g := 106, args := [(.cell (.sc .s)), (.cell (.sc .s))], res := [(.cell (.sc .s))] }
def q_qadd : Sig := { f := 8, g := 107, args := [(.row 23), (.row 23)], res := [(.row 23), (.cell (.sc (.i .i64)))] }
def q_nawake : Sig := { f := 9, g := 112, args := [], res := [(.cell (.sc .b))] }
def q_nsums : Sig := { f := 3, g := 114, args := [(.row 23), (.row 23)], res := [(.cell (.sc .b))] }
def special (g : Nat) : Bool := match g with | 20 | 21 | 23 | 24 | 25 | 26 | 33 | 35 | 37 | 38 | 39 | 43 | 47 | 49 | 50 | 51 | 56 | 64 | 65 | 68 | 69 | 80 | 81 | 82 | 98 | 100 | 102 | 105 | 106 | 111 | 127 | 130 | 132 | 133 | 134 | 135 | 137 | 139 => true | _ => false
def needK (g : Nat) (es : List E) : List E := bif special g then [.app 1000 es, .app (2000 + g) es] else [.app 1000 es]
noncomputable def orcL : List Sig -> Ab.Call
 | [] => noOrc
 | q :: r => orElse (ctrOrc tb q (needK q.g)) (orcL r)
noncomputable def selfL (deps : List Sig) : Ab.Call := evFn Tryz.prog (tabsG tabs) muF (evDrawnX Tryz.prog (tabsG tabs)) 400 (orcL deps) 40
noncomputable def runL (deps : List Sig) : Code -> Tm -> St -> Option (Ex × Tm × St) := evCode Tryz.prog (tabsG tabs) (evDrawnX Tryz.prog (tabsG tabs)) (selfL deps) false 400
noncomputable def checkHeads (q : Sig) (fn : Func) (c : Code) (deps : List Sig) (heads : List Hd) : List Tree -> Nat -> Bool
 | [], j => Nat.beq heads.length j
 | t :: r, j => t.ok (runHead Tryz.prog (tabsG tabs) muF (runL deps) tb q fn c heads 400 j) [] && checkHeads q fn c deps heads r (j + 1)
noncomputable def check (q : Sig) (deps : List Sig) (heads : List Hd) (entry : Tree) (trees : List Tree) : Bool :=
 match Tryz.prog.funcs[q.f]? with
 | some fn =>
  match fn.body with
  | some c => Nat.ble (q.args.length + fn.ntmps) Tr.lid && (heads.all fun h => Nat.ble h.ents.length Tr.lid) && entry.ok (runEntry Tryz.prog (tabsG tabs) muF (runL deps) tb q fn c heads 400) [] && checkHeads q fn c deps heads trees 0
  | none => false
 | none => false
section
variable [Interp]
abbrev Ok (q : Sig) (pre : List D -> Prop) : Prop := FnOk Tryz.prog tabs tb q pre
def okS (n g : Nat) (ds : List D) : Prop := okD n ds /\ (special g = true -> Interp.phi (2000 + g) ds = .v (.bool true))
theorem Ok.less {q : Sig} {p p' : List D -> Prop} (h : Ok q p) (hp : ∀ ds, p' ds -> p ds) : Ok q p' := fun W J vs ds hL hI ha h' => h W J vs ds hL hI ha (hp _ h')
theorem okS_of {q : Sig} {n : Nat} (h : Ok q (okD n)) : Ok q (okS n q.g) := h.less fun _ h => h.1
theorem orcL_ok {n : Nat} (hphi : ∀ ds, Interp.phi 1000 ds = .v (.bool true) -> okD n ds) {B0 : Nat} {w0 : World} : ∀ {l : List Sig}, (∀ q, q ∈ l -> Ok q (okS n q.g)) -> CallOk Tryz.prog (tabsG tabs) B0 w0 (orcL l)
 | [], _ => noOrc_ok
 | q :: r, h => orElse_ok (ctrOrc_ok tabs_nodup tabs_plain (h q (List.mem_cons_self ..)) fun env es hn => by
   unfold needK at hn
   cases hs : special q.g with
   | false =>
    rw [hs] at hn
    have := hn _ (List.mem_singleton.2 rfl)
    exact ⟨hphi _ (by simpa only [E.den] using this), fun h => by rw [hs] at h; cases h⟩
   | true =>
    rw [hs] at hn
    have h1 := hn _ (List.mem_cons_self ..)
    have h2 := hn _ (List.mem_cons_of_mem _ (List.mem_singleton.2 rfl))
    exact ⟨hphi _ (by simpa only [E.den] using h1), fun _ => by simpa only [E.den] using h2⟩) (orcL_ok hphi fun q' hq' => h q' (List.mem_cons_of_mem _ hq'))
theorem checkHeads_get {q : Sig} {fn : Func} {c : Code} {deps : List Sig} {heads : List Hd} : ∀ {trees : List Tree} {j : Nat}, checkHeads q fn c deps heads trees j = true -> heads.length = j + trees.length /\ ∀ (i : Nat) (t : Tree), trees[i]? = some t -> t.ok (runHead Tryz.prog (tabsG tabs) muF (runL deps) tb q fn c heads 400 (j + i)) [] = true
 | [], j, h => ⟨by unfold checkHeads at h; rw [nbe h]; rfl, fun i t ht => by simp at ht⟩
 | t :: r, j, h => by
  unfold checkHeads at h
  rw [Bool.and_eq_true] at h
  obtain ⟨k1, k2⟩ := checkHeads_get h.2
  refine ⟨by rw [k1, List.length_cons]; omega, fun i t' ht => ?_⟩
  cases i with
  | zero => simp only [List.getElem?_cons_zero, Option.some.injEq] at ht; subst ht; exact h.1
  | succ i =>
   have := k2 i t' (by simpa using ht)
   rw [show j + 1 + i = j + (i + 1) by omega] at this; exact this
theorem fn_okS {n : Nat} (hphi : ∀ ds, Interp.phi 1000 ds = .v (.bool true) -> okD n ds) {q : Sig} {deps : List Sig} {heads : List Hd} {entry : Tree} {trees : List Tree} (hc : check q deps heads entry trees = true) (hdeps : ∀ q, q ∈ deps -> Ok q (okS n q.g)) {pre : List D -> Prop} (Inv : Nat -> D -> List D -> Prop) (meas : Nat -> List D -> Nat)
  (h0 : ∀ ds, FitL tb q.args ds -> pre ds -> entry.holds (fun o => match o with | .ret d => d = Interp.phi q.g ds | .go j es => Inv j (Interp.phi q.g ds) es) (envOf ds))
  (hj : ∀ j h t d ds, heads[j]? = some h -> trees[j]? = some t -> FitE tb h.ents ds -> Inv j d ds -> t.holds (fun o => match o with | .ret x => x = d | .go i es => Inv i d es /\ meas i es < meas j ds) (envOf ds)) : Ok q pre := by
 unfold check at hc
 split at hc
 ·rename_i fn hfn
  split at hc
  ·rename_i c hb
   simp only [Bool.and_eq_true] at hc
   obtain ⟨⟨⟨c1, c2⟩, c3⟩, c4⟩ := hc
   obtain ⟨k1, k2⟩ := checkHeads_get c4
   rw [Nat.zero_add] at k1
   have hget : ∀ j h, heads[j]? = some h -> ∃ t, trees[j]? = some t := fun j h hj => ⟨_, List.getElem?_eq_getElem (by rw [<- k1]; exact (List.getElem?_eq_some_iff.1 hj).1)⟩
   refine fnOk_tree (mu := muF) (orc := orcL deps) (K := 400) (k := 40) (fuel := 400) noNum Tryz.checked.mixed (fun B0 w0 => orcL_ok hphi hdeps) tabs_nodup tabs_plain hfn hb c1 heads c2 entry (fun j => (trees[j]?).getD .dead) c3 (fun j h hh => ?_) Inv meas h0 (fun j h d ds hh hf hi => ?_)
   ·obtain ⟨t, ht⟩ := hget j h hh
    have := k2 j t ht
    rw [Nat.zero_add] at this
    rw [ht]; exact this
   ·obtain ⟨t, ht⟩ := hget j h hh
    rw [ht]
    exact hj j h t d ds hh ht hf hi
  ·cases hc
 ·cases hc
theorem fn_ok {n : Nat} (hphi : ∀ ds, Interp.phi 1000 ds = .v (.bool true) -> okD n ds) {q : Sig} {deps : List Sig} {heads : List Hd} {entry : Tree} {trees : List Tree} (hc : check q deps heads entry trees = true) (hdeps : ∀ q, q ∈ deps -> Ok q (okD n)) {pre : List D -> Prop} (Inv : Nat -> D -> List D -> Prop) (meas : Nat -> List D -> Nat)
  (h0 : ∀ ds, FitL tb q.args ds -> pre ds -> entry.holds (fun o => match o with | .ret d => d = Interp.phi q.g ds | .go j es => Inv j (Interp.phi q.g ds) es) (envOf ds))
  (hj : ∀ j h t d ds, heads[j]? = some h -> trees[j]? = some t -> FitE tb h.ents ds -> Inv j d ds -> t.holds (fun o => match o with | .ret x => x = d | .go i es => Inv i d es /\ meas i es < meas j ds) (envOf ds)) : Ok q pre :=
 fn_okS hphi hc (fun q hq => okS_of (hdeps q hq)) Inv meas h0 hj
abbrev OkM (q : SigM) (pre : List D -> Prop) : Prop := FnOkM Tryz.prog tabs tb q pre
def Goes (q : SigM) : Prop := q.pan.isSome = true -> ∀ ds, ∃ b : Bool, Interp.phi (3000 + q.g) ds = D.ofBool b /\ (b = true ↔ Interp.phi q.g ds ≠ .nil)
theorem OkM.less {q : SigM} {p p' : List D -> Prop} (h : OkM q p) (hp : ∀ ds, p' ds -> p ds) : OkM q p' := fun W J vs ds bs hL hI ha hn hd h' => h W J vs ds bs hL hI ha hn hd (hp _ h')
end
section
variable [Interp]
end
end Go.Proofs.YtflhikakndanjaaGreatDoor.Vk
/- Types (a kind, names, parts) as Lean's own type; what fits, how large they are. -/
namespace Go.Ab
open Go
inductive Typ where
 | mk (kind : Int) (names : List ByteArray) (list : List Typ)
instance : Inhabited Typ := ⟨.mk 0 [] []⟩
namespace Typ
def kind : Typ -> Int | .mk k _ _ => k
def names : Typ -> List ByteArray | .mk _ n _ => n
def list : Typ -> List Typ | .mk _ _ l => l
end Typ
mutual
def Typ.toD : Typ -> D
 | .mk k ns l => .row [iD k, strsD ns, .lst (Typ.toDs l)]
def Typ.toDs : List Typ -> List D
 | [] => []
 | v :: r => v.toD :: Typ.toDs r
end
theorem toDsT_map : ∀ (l : List Typ), Typ.toDs l = l.map Typ.toD
 | [] => by unfold Typ.toDs; rfl
 | v :: r => by unfold Typ.toDs; rw [toDsT_map r]; rfl
abbrev typsD (l : List Typ) : D := .lst (l.map Typ.toD)
theorem toD_rowT (v : Typ) : v.toD = .row [iD v.kind, strsD v.names, typsD v.list] := by
 cases v with
 | mk k ns l => unfold Typ.toD; rw [toDsT_map]; rfl
theorem typ_ind {p : Typ -> Prop} (h : ∀ v, (∀ x, x ∈ v.list -> p x) -> p v) : ∀ v, p v := by
 intro v
 have key : ∀ (n : Nat) (v : Typ), SizeOf.sizeOf v < n -> p v := by
  intro n
  induction n with
  | zero => intro v hv; omega
  | succ n ih =>
   intro v hv
   refine h v fun x hx => ih x ?_
   have := List.sizeOf_lt_of_mem hx
   cases v with
   | mk k ns l =>
    rw [Typ.mk.sizeOf_spec] at hv
    show SizeOf.sizeOf x < n
    have : SizeOf.sizeOf x < SizeOf.sizeOf l := this
    omega
 exact key _ v (Nat.lt_succ_self _)
mutual
def D.typ1 : D -> Typ
 | .row [k, ns, l] => .mk k.int ns.strs (D.typs l)
 | _ => default
def D.typs : D -> List Typ
 | .lst l => D.typsL l
 | _ => []
def D.typsL : List D -> List Typ
 | [] => []
 | d :: r => d.typ1 :: D.typsL r
end
theorem typsL_map : ∀ (l : List D), D.typsL l = l.map D.typ1
 | [] => by unfold D.typsL; rfl
 | v :: r => by unfold D.typsL; rw [typsL_map r]; rfl
@[simp] theorem typ1_toD (v : Typ) : v.toD.typ1 = v := by
 induction v using typ_ind with
 | h v ih =>
  rw [toD_rowT]
  unfold D.typ1
  show Typ.mk v.kind (strsD v.names).strs (D.typs (typsD v.list)) = v
  rw [strs_strsD]
  unfold D.typs
  rw [typsL_map, List.map_map]
  have : v.list.map (D.typ1 ∘ Typ.toD) = v.list := by
   conv => rhs; rw [<- List.map_id v.list]
   exact List.map_congr_left fun x hx => ih x hx
  rw [this]
  cases v; rfl
@[simp] theorem typs_typsD (l : List Typ) : (typsD l).typs = l := by
 unfold D.typs
 rw [typsL_map, List.map_map]
 conv => rhs; rw [<- List.map_id l]
 exact List.map_congr_left fun x _ => typ1_toD x
section
variable {sh : Nat -> List CT}
end
end Go.Ab
/- What the functions come to, in plain Lean. -/
namespace Go.Proofs.YtflhikakndanjaaGreatDoor.Vk
open Go Go.Ab Go.RowKit
abbrev wrap := IntKind.i64.wrap
def one : ByteArray := mkS [48]
def tenDigits : ByteArray := mkS [48, 49, 50, 51, 52, 53, 54, 55, 56, 57]

mutual
def depV : Val -> Int
 | .mk _ _ _ _ _ _ _ _ l => wrap (depL 0 l + 1)
def depL : Int -> List Val -> Int
 | acc, [] => acc
 | acc, v :: r => depL (if depV v > acc then depV v else acc) r
end
mutual
def sizV : Val -> Int
 | .mk _ _ _ _ _ _ _ _ l => sizL 1 l
def sizL : Int -> List Val -> Int
 | acc, [] => acc
 | acc, v :: r => sizL (wrap (acc + sizV v)) r
end
def trimV (s c : ByteArray) : ByteArray := ⟨(Lib.trimS s.data.toList c.data.toList).toArray⟩
def validV (s : ByteArray) : Bool := Lib.validD s.data.toList
def numV (neg : Bool) (d : ByteArray) (e : Int) : Int :=
 if neg = false /\ d = one /\ e = 0 then 0 else
 if d = ByteArray.empty then 10 else
 if ¬ trimV d tenDigits = ByteArray.empty then 10 else
 if 40 < (d.size : Int) then 10 else
 if (d.data.toList.getD 0 0).toNat = 48 then 10 else
 if d.extract (d.size - 1) d.size = one then 10 else
 if e < -400 then 10 else if 400 < e then 10 else 0
def namesV (seen : D) : List ByteArray -> Bool
 | [] => true
 | s :: r => if ((mfind (sD s) seen.rows).getD (bD false)).bool then false else if validV s then namesV (.lst (mput (sD s) (bD true) seen.rows)) r else false
def ixL {α : Type} (p : α -> Bool) : List α -> Nat -> Int
 | [], _ => -1
 | x :: r, i => if p x then (i : Int) else ixL p r (i + 1)
mutual
def formedV : Val -> Bool
 | .mk k f ng d e b t ns l =>
  if k = 1 then !f && (ng == false && eqS d .empty && eqI e 0) && eqI b 0 && eqS t .empty && ns.length == 0 && l.length == 0
  else if k = 2 then (ng == false && eqS d .empty && eqI e 0) && eqI b 0 && eqS t .empty && ns.length == 0 && l.length == 0
  else if k = 3 then eqI (numV ng d e) 0 && !f && eqI b 0 && eqS t .empty && ns.length == 0 && l.length == 0
  else if k = 4 then !f && (ng == false && eqS d .empty && eqI e 0) && eqS t .empty && ns.length == 0 && l.length == 0
  else if k = 5 then validV t && !f && (ng == false && eqS d .empty && eqI e 0) && eqI b 0 && ns.length == 0 && l.length == 0
  else if k = 6 then !f && (ng == false && eqS d .empty && eqI e 0) && eqI b 0 && ns.length == 0 && l.length == 0
  else if k = 7 then !f && (ng == false && eqS d .empty && eqI e 0) && eqI b 0 && eqS t .empty && ns.length == 0 && ltI (formedL l 0) 0
  else if k = 8 then ns.length == l.length && namesV (.lst []) ns && !f && (ng == false && eqS d .empty && eqI e 0) && eqI b 0 && eqS t .empty && ltI (formedL l 0) 0
  else if k = 9 then l.length == 1 && validV t && !f && (ng == false && eqS d .empty && eqI e 0) && eqI b 0 && ns.length == 0 && ltI (formedL l 0) 0
  else false
def formedL : List Val -> Nat -> Int
 | [], _ => -1
 | v :: r, i => if formedV v then formedL r (i + 1) else (i : Int)
end
mutual
def shortV : Val -> Bool
 | .mk k f ng d e b t ns l =>
  if (t.size : Int) > (if k = 9 then 64 else 4096) then false
  else if (l.length : Int) > 256 then false
  else if ixL (fun s : ByteArray => decide ((s.size : Int) > 64)) ns 0 ≥ 0 then false
  else !(decide (shortL l 0 ≥ 0))
def shortL : List Val -> Nat -> Int
 | [], _ => -1
 | v :: r, i => if shortV v then shortL r (i + 1) else (i : Int)
end
def checkV (v : Val) : Int := if formedV v then (if shortV v then (if 16 < depV v then 2 else if 4096 < sizV v then 2 else 0) else 2) else 40
noncomputable def eqV (a b : Val) : Bool := @decide (a = b) (Classical.propDecidable _)
noncomputable def eqVs (a b : List Val) : Bool := @decide (a = b) (Classical.propDecidable _)
def cmpZ (a b : Int) : Int := if a < b then -1 else if b < a then 1 else 0
def cmpS (a b : ByteArray) : Int := Lib.compareBytes a.data.toList b.data.toList
def zer (i : Int) : ByteArray := ⟨(List.replicate i.toNat (48 : UInt8)).toArray⟩
def levX (e e' : Int) : Int := if e' < e then e' else e
def levP (d : ByteArray) (e x : Int) : ByteArray := d ++ zer (wrap (e - x))
def levQ (p q : ByteArray) : ByteArray := zer (if wrap ((q.size : Int) - p.size) > 0 then wrap ((q.size : Int) - p.size) else 0) ++ p
def numcmpV (ng : Bool) (d : ByteArray) (e : Int) (ng' : Bool) (d' : ByteArray) (e' : Int) : Int × Int :=
 if ¬ numV ng d e = 0 then (0, 10) else if ¬ numV ng' d' e' = 0 then (0, 10) else
 if ng = ng' /\ d = d' /\ e = e' then (0, 0) else if ng = true /\ ng' = false then (-1, 0) else if ng = false /\ ng' = true then (1, 0) else
 let p := levP d e (levX e e'); let q := levP d' e' (levX e e'); let p := levQ p q; let q := levQ q p
 (if ng then wrap (-(cmpS p q)) else cmpS p q, 0)
def rowsG {α : Type} (c : α -> α -> Int) : List α -> List α -> Int
 | [], [] => 0
 | [], _ :: _ => -1
 | _ :: _, [] => 1
 | x :: r, y :: t => if c x y = 0 then rowsG c r t else c x y
def pairC (c : Val -> Val -> Int) (p q : ByteArray × Val) : Int := if cmpS p.1 q.1 = 0 then c p.2 q.2 else cmpS p.1 q.1
mutual
def hgt : Val -> Nat
 | .mk _ _ _ _ _ _ _ _ l => hgts l + 1
def hgts : List Val -> Nat
 | [] => 0
 | v :: r => max (hgt v) (hgts r)
end
def orderF : Nat -> Val -> Val -> Int
 | 0, _, _ => 0
 | n + 1, a, b =>
  if a.kind < b.kind then -1 else if b.kind < a.kind then 1 else
  if a.kind = 2 then (if a.flag = b.flag then 0 else if b.flag then -1 else 1)
  else if a.kind = 3 then (numcmpV a.neg a.dig a.exp b.neg b.dig b.exp).1
  else if a.kind = 4 then cmpZ a.bits b.bits
  else if a.kind = 5 then cmpS a.text b.text
  else if a.kind = 6 then cmpS a.text b.text
  else if a.kind = 8 then rowsG (pairC (orderF n)) (a.names.zip a.list) (b.names.zip b.list)
  else if a.kind = 9 then (if cmpS a.text b.text = 0 then rowsG (orderF n) a.list b.list else cmpS a.text b.text)
  else rowsG (orderF n) a.list b.list
def orderV (a b : Val) : Int := orderF (hgt a) a b
def vcmpV (a b : Val) : Int × Int := if ¬ checkV a = 0 then (0, checkV a) else if ¬ checkV b = 0 then (0, checkV b) else (orderV a b, 0)
def good (v : Val) : Bool := formedV v && shortV v
def digV (s : ByteArray) : Bool := (s.data.toList.all fun c => decide (48 <= c.toNat /\ c.toNat <= 57)) && decide (s.data.toList ≠ [])
def plainV (v : Val) : Bool := decide (1 <= v.kind /\ v.kind <= 9 /\ (v.kind ≠ 2 -> v.flag = false) /\ (v.kind ≠ 3 -> v.neg = false /\ v.dig = .empty /\ v.exp = 0) /\ (v.kind ≠ 4 -> v.bits = 0) /\ (v.kind ≠ 5 -> v.kind ≠ 6 -> v.kind ≠ 9 -> v.text = .empty) /\ (v.kind ≠ 8 -> v.names.length = 0) /\ (v.kind < 7 -> v.list.length = 0))
def ownV (v : Val) : Bool :=
 if v.kind = 3 then decide (numV v.neg v.dig v.exp = 0) else
 if v.kind = 5 then validV v.text else
 if v.kind = 9 then validV v.text && decide (v.list.length = 1) else
 if v.kind = 8 then v.names.all validV && decide (v.names.length = v.list.length) && decide v.names.Nodup else true
def numbV (s : ByteArray) (n : Int) : Int :=
 if n = 1 then ((s.data.toList.getD 0 0).toNat : Int) else
 ((s.data.toList.take n.toNat).drop 1).foldl (fun a c => wrap (wrap (64 * a) + (c.toNat : Int).tmod 64)) (((s.data.toList.getD 0 0).toNat : Int).tmod ((128 : Int).fdiv (2 ^ (min n.toNat 64))))
def c8 (i : Int) : UInt8 := UInt8.ofNat (IntKind.u8.wrap i).toNat
def encV (r : Int) : ByteArray :=
 if r < 128 then ⟨#[c8 r]⟩ else
 if r < 2048 then ⟨#[c8 (wrap (192 + wrap (r.tdiv 64))), c8 (wrap (128 + r.tmod 64))]⟩ else
 if r < 65536 then ⟨#[c8 (wrap (224 + wrap (r.tdiv 4096))), c8 (wrap (128 + (wrap (r.tdiv 64)).tmod 64)), c8 (wrap (128 + r.tmod 64))]⟩ else
 ⟨#[c8 (wrap (240 + wrap (r.tdiv 262144))), c8 (wrap (128 + (wrap (r.tdiv 4096)).tmod 64)), c8 (wrap (128 + (wrap (r.tdiv 64)).tmod 64)), c8 (wrap (128 + r.tmod 64))]⟩
def longV (c : Nat) : Int := if c < 128 then 1 else if 192 <= c /\ c < 224 then 2 else if 224 <= c /\ c < 240 then 3 else if 240 <= c /\ c < 248 then 4 else 0
def isR (r : Int) : Bool := decide (0 <= r /\ r <= 1114111 /\ (r < 55296 \/ 57343 < r))
def headOk (t : ByteArray) (n : Int) : Bool := isR (numbV t n) && decide (encV (numbV t n) = t.extract 0 n.toNat)
def padV (t : ByteArray) (n : Nat) (c : UInt8) : ByteArray := t ++ ⟨(List.replicate (n - t.size) c).toArray⟩
def chkV (s : ByteArray) (n r : Int) : Bool := isR r && (decide ((encV r).extract 0 (min s.size (encV r).size) = s) && decide (((encV r).size : Int) = n))
def leastV (n : Nat) : Int := [0, 0, 128, 2048, 65536].getD n 0
def beginsV (s : ByteArray) : Bool :=
 let n := longV (s.data.toList.getD 0 0).toNat
 if n <= s.size then false else
 let a := numbV (padV s n.toNat 128) n
 let b := numbV (padV s n.toNat 191) n
 if chkV s n a then true else if chkV s n b then true else
 decide (a <= leastV n.toNat) && (decide (leastV n.toNat <= b) && decide ((encV (leastV n.toNat)).extract 0 s.size = s))
def decV (s : ByteArray) (i : Int) : Int × Int × Int :=
 if i < 0 then (0, 0, 1) else if (s.size : Int) <= i then (0, 0, 1) else
 let t := s.extract i.toNat s.size
 let n := longV (t.data.toList.getD 0 0).toNat
 if 0 < n /\ n <= t.size /\ headOk t n = true then (numbV t n, n, 0) else if (t.size : Int) < n /\ beginsV t = true then (0, 0, 31) else (0, 0, 30)
def countF : Nat -> ByteArray -> Int -> Int -> Int × Int
 | 0, _, c, _ => (c, 0)
 | k + 1, s, c, i => if i < s.size then (if (decV s i).2.2 = 0 then countF k s (wrap (c + 1)) (wrap (i + (decV s i).2.1)) else (0, (decV s i).2.2)) else (c, 0)
def partsN (most : Int) : Int -> List ByteArray -> Int
 | n, [] => n
 | n, s :: r => if n <= most then partsN most (wrap (n + s.size)) r else n
mutual
def partsV (most : Int) : Int -> Int -> Val -> Int
 | n, within, .mk k f ng d e b t ns l =>
  if within > 300 then wrap (most + 1) else partsL most within (partsN most (wrap (wrap (wrap (wrap (n + 1) + t.size) + d.size) + ns.length)) ns) l
def partsL (most : Int) (within : Int) : Int -> List Val -> Int
 | n, [] => n
 | n, v :: r => if n <= most then partsL most within (partsV most n (wrap (within + 1)) v) r else n
end
mutual
def manyV : Val -> Bool
 | .mk k f ng d e b t ns l => if (ns.length : Int) > 2000 then true else manyL l
def manyL : List Val -> Bool
 | [] => false
 | v :: r => if manyV v then true else manyL r
end
def idxI (s : ByteArray) : List ByteArray -> Nat -> Int
 | [], _ => -1
 | x :: r, i => if s = x then (i : Int) else idxI s r (i + 1)
def placesL : List ByteArray -> Nat -> List D -> List D
 | [], _, m => m
 | s :: r, i, m => placesL r (i + 1) (mput (sD s) (iD i) m)
mutual
def formedT : Typ -> Bool
 | .mk k ns l =>
  if k = 9 then ns.length == 0 && l.length == 1 && ltI (formedTL l 0) 0
  else if k = 10 \/ k = 11 then ns.length == l.length && decide ns.Nodup && ltI (ixL (fun s => !validV s) ns 0) 0 && ltI (formedTL l 0) 0
  else decide (1 <= k /\ k <= 8) && ns.length == 0 && l.length == 0
def formedTL : List Typ -> Nat -> Int
 | [], _ => -1
 | t :: r, i => if formedT t then formedTL r (i + 1) else (i : Int)
end
mutual
def spanT : Typ -> Int × Int × Bool
 | .mk k ns l =>
  let s := spanTL l (0, 1, if (l.length : Int) <= 256 then !decide (ixL (fun s : ByteArray => decide ((s.size : Int) > 64)) ns 0 ≥ 0) else false)
  (wrap (s.1 + 1), s.2.1, s.2.2)
def spanTL : List Typ -> Int × Int × Bool -> Int × Int × Bool
 | [], acc => acc
 | t :: r, acc => spanTL r (if (spanT t).1 > acc.1 then (spanT t).1 else acc.1, wrap (acc.2.1 + (spanT t).2.1), acc.2.2 && (spanT t).2.2)
end
def checkT (t : Typ) : Int := if formedT t then (if (spanT t).2.2 then (if (spanT t).1 > 16 then 2 else if (spanT t).2.1 > 4096 then 2 else 0) else 2) else 110
mutual
def hgtT : Typ -> Nat
 | .mk _ _ l => hgtTs l + 1
def hgtTs : List Typ -> Nat
 | [] => 0
 | v :: r => max (hgtT v) (hgtTs r)
end
def kindsT (k : Int) : Int := [0, 0, 1, 2, 3, 3, 4, 5, 6].getD k.toNat 0
def optB {α : Type} (o : Option α) (f : α -> Bool) : Bool := match o with | some x => f x | none => false
def hasF : Nat -> Typ -> Val -> Bool
 | 0, _, _ => false
 | n + 1, t, v =>
  if t.kind = 1 then true
  else if t.kind = 9 then decide (v.kind = 7) && optB t.list[0]? fun x => v.list.all (hasF n x)
  else if t.kind = 10 then decide (v.kind = 8) && decide (v.names = t.names) && (t.list.zip v.list).all fun p => hasF n p.1 p.2
  else if t.kind = 11 then decide (v.kind = 9) && (decide (0 <= idxI v.text t.names 0) && optB t.list[(idxI v.text t.names 0).toNat]? fun x => optB v.list[0]? (hasF n x))
  else decide (v.kind = kindsT t.kind) && (decide (t.kind ≠ 5) || decide (v.exp ≥ 0))
def hasT (t : Typ) (v : Val) : Bool := hasF (hgtT t) t v
def subF : Nat -> Typ -> Typ -> Bool
 | 0, _, _ => false
 | n + 1, a, b =>
  if b.kind = 1 \/ (a.kind = 5 /\ b.kind = 4) then true
  else if a.kind ≠ b.kind then false
  else if a.kind = 11 then (a.names.zip a.list).all fun p => decide (0 <= idxI p.1 b.names 0) && optB b.list[(idxI p.1 b.names 0).toNat]? (subF n p.2)
  else decide (a.names = b.names) && (decide (a.list.length = b.list.length) && (a.list.zip b.list).all fun p => subF n p.1 p.2)
def subT (a b : Typ) : Bool := subF (hgtT a) a b
def HasT (t : Typ) (v : Val) : Bool × Int := if ¬ checkT t = 0 then (false, checkT t) else if ¬ checkV v = 0 then (false, checkV v) else (hasT t v, 0)
def SubT (a b : Typ) : Bool × Int := if ¬ checkT a = 0 then (false, checkT a) else if ¬ checkT b = 0 then (false, checkT b) else (subT a b, 0)
mutual
def partsT (most : Int) : Int -> Int -> Typ -> Int
 | n, within, .mk k ns l => if within > 300 then wrap (most + 1) else partsTL most within (partsN most (wrap (wrap (n + 1) + ns.length)) ns) l
def partsTL (most : Int) (within : Int) : Int -> List Typ -> Int
 | n, [] => n
 | n, v :: r => if n <= most then partsTL most within (partsT most n (wrap (within + 1)) v) r else n
end
mutual
def wideT : Typ -> Bool
 | .mk k ns l => if (ns.length : Int) > 1000 then true else wideTL l
def wideTL : List Typ -> Bool
 | [] => false
 | v :: r => if wideT v then true else wideTL r
end
mutual
def smallV : Val -> Bool
 | .mk k f ng d e b t ns l => decide (ns.length <= 1000000) && decide (l.length <= 1000000) && smallL l
def smallL : List Val -> Bool
 | [] => true
 | v :: r => smallV v && smallL r
end
mutual
def smallT : Typ -> Bool
 | .mk k ns l => decide (ns.length <= 1000000) && decide (l.length <= 1000000) && smallTL l
def smallTL : List Typ -> Bool
 | [] => true
 | v :: r => smallT v && smallTL r
end
noncomputable def eqT (a b : Typ) : Bool := @decide (a = b) (Classical.propDecidable _)
def everyT : Typ := .mk 1 [] []
def pickT (b : Typ) (s : ByteArray) (t : Typ) : Option Typ :=
 match b.list[(idxI s b.names 0).toNat]? with
 | some u => if 0 <= idxI s b.names 0 then (if subT u t then some t else if subT t u then some u else none) else some t
 | none => some t
def pickL (b : Typ) : List (ByteArray × Typ) -> Option (List Typ)
 | [] => some []
 | p :: r => match pickT b p.1 p.2, pickL b r with
  | some t, some l => some (t :: l)
  | _, _ => none
def newN (a : List ByteArray) : List (ByteArray × Typ) -> List (ByteArray × Typ)
 | [] => []
 | p :: r => if 0 <= idxI p.1 a 0 then newN a r else p :: newN a r
def joinT (a b : Typ) : Typ :=
 if subT a b then b else if subT b a then a else if ¬ a.kind = 11 \/ ¬ b.kind = 11 then everyT else
 match pickL b (a.names.zip a.list) with
 | none => everyT
 | some l =>
  let out := Typ.mk 11 (a.names ++ (newN a.names (b.names.zip b.list)).map (·.1)) (l ++ (newN a.names (b.names.zip b.list)).map (·.2))
  if checkT out = 0 then out else everyT
def JoinT (a b : Typ) : Typ × Int := if ¬ checkT a = 0 then (.mk 0 [] [], checkT a) else if ¬ checkT b = 0 then (.mk 0 [] [], checkT b) else (joinT a b, 0)

def dvA : Nat -> List UInt8 -> Nat
 | acc, [] => acc
 | acc, x :: r => dvA (acc * 10 + (x.toNat - 48)) r
abbrev dv (l : List UInt8) : Nat := dvA 0 l
def Dig (l : List UInt8) : Prop := ∀ x, x ∈ l -> 48 <= x.toNat /\ x.toNat <= 57
def digs (n : Nat) : List UInt8 := if n = 0 then [] else digs (n / 10) ++ [UInt8.ofNat (48 + n % 10)]
termination_by n
decreasing_by omega
abbrev NumT := Bool × ByteArray × Int
def numD (t : NumT) : D := .row [bD t.1, sD t.2.1, iD t.2.2]
def toNum (d : D) : NumT := ((d.cells.getD 0 .nil).bool, (d.cells.getD 1 .nil).str, (d.cells.getD 2 .nil).int)
def cutLV (s c : ByteArray) : ByteArray := ⟨(Lib.trimLeftS s.data.toList c.data.toList).toArray⟩
def cutRV (s c : ByteArray) : ByteArray := ⟨(Lib.trimRightS s.data.toList c.data.toList).toArray⟩
def noNumT : NumT := (false, ByteArray.empty, 0)
def zeroT : NumT := (false, one, 0)
def formN (t : NumT) : Int := numV t.1 t.2.1 t.2.2
def madeV (ng : Bool) (d : ByteArray) (e : Int) : NumT × Int :=
 if cutLV d one = ByteArray.empty then (zeroT, 0) else
 let r := cutRV (cutLV d one) one
 let x := wrap (wrap (e + (cutLV d one).size) - r.size)
 if numV ng r x = 0 then ((ng, r, x), 0) else (noNumT, 2)
def valX (t : NumT) (x : Int) : Int := if t.1 then -((dv t.2.1.data.toList * 10 ^ (t.2.2 - x).toNat : Nat) : Int) else (dv t.2.1.data.toList * 10 ^ (t.2.2 - x).toNat : Nat)
def addV (t u : NumT) : NumT × Int :=
 if ¬ formN t = 0 then (noNumT, 10) else if ¬ formN u = 0 then (noNumT, 10) else
 let x := levX t.2.2 u.2.2
 let s := valX t x + valX u x
 madeV (decide (s < 0)) ⟨(digs s.natAbs).toArray⟩ x
def rowN : Nat -> Nat -> List UInt8
 | 0, _ => []
 | k + 1, m => rowN k (m / 10) ++ [UInt8.ofNat (48 + m % 10)]
def plusV (a b : ByteArray) : ByteArray :=
 let m := dv a.data.toList + dv b.data.toList
 ⟨((if 10 ^ a.size <= m then [49] else []) ++ rowN a.size (m % 10 ^ a.size)).toArray⟩
def minusV (a b : ByteArray) : ByteArray := ⟨(rowN a.size (dv a.data.toList - dv b.data.toList)).toArray⟩
def digsZ (n : Nat) : List UInt8 := if n = 0 then [48] else digs n
def smallText (i : Int) : ByteArray := (if i < 0 then ⟨#[45]⟩ else ByteArray.empty) ++ ⟨(digsZ i.natAbs).toArray⟩
def wholeT (i : Int) : NumT := (madeV (decide (i < 0)) ⟨(digsZ i.natAbs).toArray⟩ 0).1
def restV (s : ByteArray) : ByteArray := cutLV s tenDigits
def frontV (s : ByteArray) : ByteArray := s.extract 0 (s.size - (restV s).size)
def at0 (s : ByteArray) : Nat := (s.data.toList.getD 0 0).toNat
def tailV (s : ByteArray) : ByteArray := s.extract 1 s.size
def expU (s : ByteArray) : ByteArray := if at0 (tailV s) = 45 \/ at0 (tailV s) = 43 then tailV (tailV s) else tailV s
def expM (s : ByteArray) : Bool := decide (at0 (tailV s) = 45)
def dvM (u : ByteArray) : Int := if dv u.data.toList < 1000000 then (dv u.data.toList : Int) else 1000000
def expV (s : ByteArray) : Int × Bool :=
 if s = ByteArray.empty then (0, true) else
 if at0 s ≠ 101 /\ at0 s ≠ 69 then (0, false) else
 if digV (expU s) = false then (0, false) else
 (if expM s then -(dvM (expU s)) else dvM (expU s), true)
def parseV (s : ByteArray) : NumT × Int :=
 let t := if at0 s = 45 then tailV s else s
 let r := restV t
 if frontV t = ByteArray.empty then (noNumT, 10) else
 if 1 < (frontV t).size /\ at0 (frontV t) = 48 then (noNumT, 10) else
 let p := if at0 r = 46 then frontV (tailV r) else ByteArray.empty
 let q := if at0 r = 46 then restV (tailV r) else r
 if at0 r = 46 /\ p = ByteArray.empty then (noNumT, 10) else
 if (expV q).2 = false then (noNumT, 10) else
 if 512 < (s.size : Int) then (noNumT, 2) else
 madeV (decide (at0 s = 45)) (frontV t ++ p) (wrap ((expV q).1 - p.size))
def signV (b : Bool) : ByteArray := if b then mkS [45] else ByteArray.empty
def printC (d : ByteArray) (x : Int) : ByteArray := zer (if 0 < 1 - x - d.size then 1 - x - d.size else 0) ++ d
def printV (t : NumT) : ByteArray × Int :=
 if ¬ formN t = 0 then (ByteArray.empty, 10) else
 let d := t.2.1
 let x := t.2.2
 if 0 <= x /\ (d.size : Int) + x <= 21 then (signV t.1 ++ d ++ zer x, 0) else
 if x < 0 /\ -21 <= x then
  let c := printC d x
  (signV t.1 ++ c.extract 0 ((c.size : Int) + x).toNat ++ mkS [46] ++ c.extract ((c.size : Int) + x).toNat c.size, 0)
 else (signV t.1 ++ d.extract 0 1 ++ (if 1 < d.size then mkS [46] else ByteArray.empty) ++ d.extract 1 d.size ++ mkS [101] ++ smallText (x + d.size - 1), 0)
def bvA : Nat -> List UInt8 -> Nat
 | acc, [] => acc
 | acc, x :: r => bvA (acc * 256 + x.toNat) r
def bytL (d : D) : List UInt8 := d.rows.map fun r => UInt8.ofNat (r.cells.getD 0 .nil).int.toNat
def bytesD (l : List UInt8) : D := .lst (l.map fun c => .row [.v (.int .u8 c.toNat)])
def byts (n : Nat) : List UInt8 := if n = 0 then [] else byts (n / 256) ++ [UInt8.ofNat (n % 256)]
termination_by n
decreasing_by omega
def ofV (ng : Bool) (b : List UInt8) : NumT × Int := madeV ng ⟨(digs (bvA 0 b)).toArray⟩ 0
def bytesV (t : NumT) : List UInt8 × Int :=
 if ¬ formN t = 0 then ([], 10) else if t.2.2 < 0 then ([], 11) else if 40 < (t.2.1.size : Int) + t.2.2 then ([], 2) else
 (byts (dv t.2.1.data.toList * 10 ^ t.2.2.toNat), 0)

noncomputable def phiG (g : Nat) (ds : List D) : D :=
 let d0 := ds.getD 0 .nil
 let d1 := ds.getD 1 .nil
 match g with
 | 0 => iD (depV d0.val1)
 | 1 => iD (sizV d0.val1)
 | 2 => bD (formedV d0.val1)
 | 3 => iD (formedL d0.vals 0)
 | 4 => bD (namesV (.lst []) d0.strs)
 | 5 => iD (numV (d0.cells.getD 0 .nil).bool (d0.cells.getD 1 .nil).str (d0.cells.getD 2 .nil).int)
 | 6 => sD (trimV d0.str d1.str)
 | 7 => bD (validV d0.str)
 | 8 => bD (shortV d0.val1)
 | 9 => iD (ixL (fun s : ByteArray => decide ((s.size : Int) > 64)) d0.strs 0)
 | 10 => iD (shortL d0.vals 0)
 | 11 => iD (partsV (ds.getD 2 .nil).int d1.int (ds.getD 3 .nil).int d0.val1)
 | 12 => bD (manyV d0.val1)
 | 13 => iD (checkV d0.val1)
 | 14 => bD true
 | 15 => bD true
 | 16 => bD (decide (d0.strs = d1.strs))
 | 17 => bD (eqV d0.val1 d1.val1)
 | 18 => bD (eqVs d0.vals d1.vals)
 | 19 => iD (cmpS d0.str d1.str)
 | 20 => sD (zer d1.int)
 | 21 =>
  let x := levX (d0.cells.getD 2 .nil).int (d1.cells.getD 2 .nil).int
  let p := levP (d0.cells.getD 1 .nil).str (d0.cells.getD 2 .nil).int x
  let q := levP (d1.cells.getD 1 .nil).str (d1.cells.getD 2 .nil).int x
  .row [sD (levQ p q), sD (levQ q (levQ p q)), iD x]
 | 22 =>
  let r := numcmpV (d0.cells.getD 0 .nil).bool (d0.cells.getD 1 .nil).str (d0.cells.getD 2 .nil).int (d1.cells.getD 0 .nil).bool (d1.cells.getD 1 .nil).str (d1.cells.getD 2 .nil).int
  .row [iD r.1, iD r.2]
 | 23 => pairsD (d0.val1.names.zip d0.val1.list)
 | 24 => iD (orderV d0.val1 d1.val1)
 | 25 => iD (rowsG orderV d0.vals d1.vals)
 | 26 => iD (rowsG (pairC orderV) d0.pairs d1.pairs)
 | 27 => .row [iD (vcmpV d0.val1 d1.val1).1, iD (vcmpV d0.val1 d1.val1).2]
 | 44 => iD (depV d0.val1)
 | 45 => iD (sizV d0.val1)
 | 46 => bD (shortV d0.val1)
 | 48 => bD (eqV d0.val1 d1.val1)
 | 40 => bD (decide d0.strs.Nodup)
 | 36 => bD (digV d0.str)
 | 30 => bD (validV d0.str)
 | 42 => bD (ownV d0.val1)
 | 41 => bD (plainV d0.val1)
 | 43 => bD (formedV d0.val1)
 | 47 => iD (checkV d0.val1)
 | 35 => iD (numbV d0.str d1.int)
 | 34 => sD (encV d0.int)
 | 37 => sD (zer d0.int)
 | 38 => bD (decide (cmpS d0.str d1.str = -1))
 | 39 => bD (decide ((numcmpV (d0.cells.getD 0 .nil).bool (d0.cells.getD 1 .nil).str (d0.cells.getD 2 .nil).int (d1.cells.getD 0 .nil).bool (d1.cells.getD 1 .nil).str (d1.cells.getD 2 .nil).int).1 = -1))
 | 33 => bD (beginsV d0.str)
 | 32 => .row [iD (decV d0.str d1.int).1, iD (decV d0.str d1.int).2.1, iD (decV d0.str d1.int).2.2]
 | 31 => .row [iD (countF (d0.str.size + 1) d0.str 0 0).1, iD (countF (d0.str.size + 1) d0.str 0 0).2]
 | 49 => bD (decide (orderV d0.val1 d1.val1 = -1))
 | 50 => .row [iD (vcmpV d0.val1 d1.val1).1, iD (vcmpV d0.val1 d1.val1).2]
 | 54 => iD (longV d0.int.toNat)
 | 55 => bD (isR d0.int)
 | 56 =>
  let x := levX (d0.cells.getD 2 .nil).int (d1.cells.getD 2 .nil).int
  let p := levP (d0.cells.getD 1 .nil).str (d0.cells.getD 2 .nil).int x
  let q := levP (d1.cells.getD 1 .nil).str (d1.cells.getD 2 .nil).int x
  .row [sD (levQ p q), sD (levQ q (levQ p q)), iD x]
 | 53 => bD true
 | 57 => .row [.lst (placesL d0.strs 0 [])]
 | 58 => bD (formedT d0.typ1)
 | 59 => iD (ixL (fun s => !validV s) d0.strs 0)
 | 60 => iD (formedTL d0.typs 0)
 | 61 => .row [iD (spanT d0.typ1).1, iD (spanT d0.typ1).2.1, bD (spanT d0.typ1).2.2]
 | 62 => iD (ixL (fun s : ByteArray => decide ((s.size : Int) > 64)) d0.strs 0)
 | 63 => iD (checkT d0.typ1)
 | 64 => bD (hasT d0.typ1 d1.val1)
 | 65 => iD (ixL (fun v => !optB (d1.cells.getD 0 .nil).typ1.list[0]? fun x => hasT x v) d0.vals 0)
 | 66 => iD (idxI d1.str d0.strs 0)
 | 67 => .row [bD (HasT d0.typ1 d1.val1).1, iD (HasT d0.typ1 d1.val1).2]
 | 68 => bD (subT d0.typ1 d1.typ1)
 | 69 => bD (decide (d0.typs.length = d1.typs.length) && (d0.typs.zip d1.typs).all fun p => subT p.1 p.2)
 | 70 => iD (if ¬ checkT d0.typ1 = 0 then checkT d0.typ1 else checkT d1.typ1)
 | 71 => .row [bD (SubT d0.typ1 d1.typ1).1, iD (SubT d0.typ1 d1.typ1).2]
 | 72 => iD (partsT (ds.getD 2 .nil).int d1.int (ds.getD 3 .nil).int d0.typ1)
 | 73 => bD (wideT d0.typ1)
 | 74 => bD true
 | 75 => bD true
 | 76 => bD true
 | 120 => iD (idxI d1.str d0.strs 0)
 | 121 => bD (d0.strs.all validV && decide d0.strs.Nodup)
 | 122 => bD (formedT d0.typ1)
 | 123 => iD (spanT d0.typ1).1
 | 124 => iD (spanT d0.typ1).2.1
 | 125 => bD (spanT d0.typ1).2.2
 | 126 => iD (checkT d0.typ1)
 | 127 => bD (hasT d0.typ1 d1.val1)
 | 128 => .row [bD (HasT d0.typ1 d1.val1).1, iD (HasT d0.typ1 d1.val1).2]
 | 129 => bD (eqT d0.typ1 d1.typ1)
 | 130 => d0.typ1.toD
 | 131 => bD true
 | 77 => sD (cutLV d0.str d1.str)
 | 78 => sD (cutLV d0.str d1.str)
 | 79 => sD (cutRV d0.str d1.str)
 | 88 => let r := madeV d0.bool d1.str (ds.getD 2 .nil).int; .row [numD r.1, iD r.2]
 | 92 => let r := addV (toNum d0) (toNum d1); .row [numD r.1, iD r.2]
 | 96 => bD (decide (formN (toNum d0) = 0))
 | 97 => iD (formN (toNum d0))
 | 98 => let r := madeV d0.bool d1.str (ds.getD 2 .nil).int; .row [numD r.1, bD (decide (r.2 = 0))]
 | 102 => sD (smallText d0.int)
 | 111 => numD (wholeT d0.int)
 | 104 => let r := numcmpV (toNum d0).1 (toNum d0).2.1 (toNum d0).2.2 (toNum d1).1 (toNum d1).2.1 (toNum d1).2.2; .row [iD r.1, iD r.2]
 | 105 => sD (plusV d0.str d1.str)
 | 106 => sD (minusV d0.str d1.str)
 | 107 => let r := addV (toNum d0) (toNum d1); .row [numD r.1, iD r.2]
 | 114 => bD true
 | 80 => .row [iD (dv d0.str.data.toList)]
 | 81 => sD (smallText d0.int)
 | 87 => bD (digV d0.str)
 | 89 => .row [sD (frontV d0.str), sD (restV d0.str)]
 | 99 => .row [sD (frontV d0.str), sD (restV d0.str)]
 | 100 => .row [iD (expV d0.str).1, bD (expV d0.str).2]
 | 90 => .row [numD (parseV d0.str).1, iD (parseV d0.str).2]
 | 101 => .row [numD (parseV d0.str).1, iD (parseV d0.str).2]
 | 91 => .row [sD (printV (toNum d0)).1, iD (printV (toNum d0)).2]
 | 103 => .row [sD (printV (toNum d0)).1, iD (printV (toNum d0)).2]
 | 113 => bD true
 | 93 => bD (decide (formN (toNum d0) = 0 /\ 0 <= (toNum d0).2.2))
 | 108 => bD (decide (formN (toNum d0) = 0 /\ 0 <= (toNum d0).2.2))
 | 94 => .row [numD (ofV d0.bool (bytL d1)).1, iD (ofV d0.bool (bytL d1)).2]
 | 109 => .row [numD (ofV d0.bool (bytL d1)).1, iD (ofV d0.bool (bytL d1)).2]
 | 95 => .row [bytesD (bytesV (toNum d0)).1, iD (bytesV (toNum d0)).2]
 | 110 => .row [bytesD (bytesV (toNum d0)).1, iD (bytesV (toNum d0)).2]
 | 115 => bD true
 | 116 => bD true
 | 112 => bD true
 | 118 => bD true
 | 117 => bD true
 | 119 => bD true
 | 132 => d0
 | 133 => d0
 | 134 => d0.typ1.toD
 | 135 => (joinT d0.typ1 d1.typ1).toD
 | 136 => .row [(JoinT d0.typ1 d1.typ1).1.toD, iD (JoinT d0.typ1 d1.typ1).2]
 | 137 => bD (subT d0.typ1 d1.typ1)
 | 138 => .row [bD (SubT d0.typ1 d1.typ1).1, iD (SubT d0.typ1 d1.typ1).2]
 | 139 => (joinT d0.typ1 d1.typ1).toD
 | 140 => .row [(JoinT d0.typ1 d1.typ1).1.toD, iD (JoinT d0.typ1 d1.typ1).2]
 | 141 => bD true
 | 142 => bD true
 | 51 => d0.val1.toD
 | 52 => bD true
 | 28 => bD true
 | 29 => bD true
 | _ => .nil
noncomputable def phiS (n : Nat) (g : Nat) (ds : List D) : D :=
 let d0 := ds.getD 0 .nil
 let d1 := ds.getD 1 .nil
 match g with
 | 2037 => bD (decide (0 <= d0.int /\ d0.int <= 1000000))
 | 2038 => bD (decide (d0.str.size = d1.str.size))
 | 2049 => bD (good d0.val1 && good d1.val1)
 | 2033 => bD (decide (0 < d0.str.size))
 | 2039 => bD (decide (numV (d0.cells.getD 0 .nil).bool (d0.cells.getD 1 .nil).str (d0.cells.getD 2 .nil).int = 0 /\ numV (d1.cells.getD 0 .nil).bool (d1.cells.getD 1 .nil).str (d1.cells.getD 2 .nil).int = 0))
 | 2035 => bD (decide (1 <= d1.int /\ d1.int <= 4 /\ d1.int <= d0.str.size))
 | 2043 => bD (decide (D.szL ds + 2 < n))
 | 2047 => bD (decide (D.szL ds + 4 < n))
 | 2050 => bD (decide (D.szL ds + 4 < n))
 | 2020 => bD (decide (0 <= d1.int /\ d1.int <= 1000000))
 | 2021 => bD (decide ((d0.cells.getD 1 .nil).str.size <= 40 /\ (d1.cells.getD 1 .nil).str.size <= 40 /\ -400 <= (d0.cells.getD 2 .nil).int /\ (d0.cells.getD 2 .nil).int <= 400 /\ -400 <= (d1.cells.getD 2 .nil).int /\ (d1.cells.getD 2 .nil).int <= 400))
 | 2056 => bD (decide ((d0.cells.getD 1 .nil).str.size <= 40 /\ (d1.cells.getD 1 .nil).str.size <= 40 /\ -400 <= (d0.cells.getD 2 .nil).int /\ (d0.cells.getD 2 .nil).int <= 400 /\ -400 <= (d1.cells.getD 2 .nil).int /\ (d1.cells.getD 2 .nil).int <= 400))
 | 2051 => bD (smallV d0.val1)
 | 2064 => bD (formedT d0.typ1 && formedV d1.val1)
 | 2127 => bD (formedT d0.typ1 && formedV d1.val1)
 | 2130 => bD (smallT d0.typ1)
 | 2105 => bD (decide (d0.str.size = d1.str.size /\ d0.str.size <= 10000) && (d0.str.data.toList.all (fun c => decide (48 <= c.toNat /\ c.toNat <= 57)) && d1.str.data.toList.all fun c => decide (48 <= c.toNat /\ c.toNat <= 57)))
 | 2106 => bD (decide (d0.str.size = d1.str.size /\ d0.str.size <= 10000 /\ dv d1.str.data.toList <= dv d0.str.data.toList) && (d0.str.data.toList.all (fun c => decide (48 <= c.toNat /\ c.toNat <= 57)) && d1.str.data.toList.all fun c => decide (48 <= c.toNat /\ c.toNat <= 57)))
 | 2098 => bD (decide (-1099511627776 <= (ds.getD 2 .nil).int /\ (ds.getD 2 .nil).int <= 1099511627776))
 | 2102 => bD (decide (-1099511627776 <= d0.int /\ d0.int <= 1099511627776))
 | 2111 => bD (decide (-1099511627776 <= d0.int /\ d0.int <= 1099511627776))
 | 2080 => bD (decide (d0.str.size <= 18) && digV d0.str)
 | 2081 => bD (decide (-1099511627776 <= d0.int /\ d0.int <= 1099511627776))
 | 2100 => bD (decide (d0.str.size <= 1000000))
 | 2132 => bD (decide (d0.rows.length <= 1000000))
 | 2133 => bD (decide (d0.rows.length <= 1000000))
 | 2134 => bD (smallT d0.typ1)
 | 2135 => bD (formedT d0.typ1 && formedT d1.typ1 && (smallT d0.typ1 && smallT d1.typ1))
 | 2139 => bD (formedT d0.typ1 && formedT d1.typ1 && (smallT d0.typ1 && smallT d1.typ1))
 | 2137 => bD (formedT d0.typ1 && formedT d1.typ1)
 | 2065 => bD (formedT (d1.cells.getD 0 .nil).typ1 && (decide ((d1.cells.getD 0 .nil).typ1.list.length = 1) && d0.vals.all formedV))
 | 2068 => bD (formedT d0.typ1 && formedT d1.typ1)
 | 2069 => bD (d0.typs.all formedT && d1.typs.all formedT)
 | 2023 => bD (decide (d0.val1.names.length = d0.val1.list.length /\ d0.val1.list.length <= 256))
 | 2024 => bD (good d0.val1 && good d1.val1)
 | 2025 => bD (d0.vals.all good && d1.vals.all good)
 | 2026 => bD ((d0.pairs.all fun p => good p.2) && (d1.pairs.all fun p => good p.2))
 | 1000 => bD (@decide (okD n ds) (Classical.propDecidable _))
 | _ => .nil
noncomputable def phi (n : Nat) (g : Nat) (ds : List D) : D := bif Nat.ble 1000 g then phiS n g ds else phiG g ds
@[instance_reducible] noncomputable def I (n : Nat) : Interp := ⟨phi n⟩
theorem hphi (n : Nat) (ds : List D) (h : @Interp.phi (I n) 1000 ds = .v (.bool true)) : okD n ds := by
 have h : D.v (.bool (@decide (okD n ds) (Classical.propDecidable _))) = .v (.bool true) := h
 simp only [D.v.injEq, Value.bool.injEq, decide_eq_true_eq] at h
 exact h
theorem phi_irrel {n m g : Nat} (hg : g < 1000) (ds : List D) : phi n g ds = phi m g ds := by
 have h : Nat.ble 1000 g = false := by
  cases hb : Nat.ble 1000 g with
  | false => rfl
  | true => exact absurd (Nat.le_of_ble_eq_true hb) (by omega)
 unfold phi
 rw [h]; rfl
theorem ok_irrel {n m : Nat} {q : Sig} {pre : List D -> Prop} (hg : q.g < 1000) (h : @Ok (I n) q pre) : @Ok (I m) q pre := by
 intro W J vs ds hL hI ha hp
 refine (h W J vs ds hL hI ha hp).mono ?_
 rintro e W' ⟨v, h1, h2, h3⟩
 refine ⟨v, h1, h2, ?_⟩
 have : @Interp.phi (I m) q.g ds = @Interp.phi (I n) q.g ds := phi_irrel hg ds
 rw [this]; exact h3
theorem phi_1000 {n : Nat} {ds : List D} : (@Interp.phi (I n) 1000 ds = .v (.bool true)) ↔ okD n ds := by
 show (D.v (.bool (@decide (okD n ds) (Classical.propDecidable _))) = .v (.bool true)) ↔ _
 simp only [D.v.injEq, Value.bool.injEq, decide_eq_true_eq]
section
variable (n : Nat)
theorem phi_numcheck (a : Bool) (b : ByteArray) (c : Int) : @Interp.phi (I n) 5 [.row [bD a, sD b, iD c]] = iD (numV a b c) := rfl
theorem phi_trim (a b : ByteArray) : @Interp.phi (I n) 6 [sD a, sD b] = sD (trimV a b) := rfl
theorem phi_scmp (a b : ByteArray) : @Interp.phi (I n) 19 [sD a, sD b] = iD (cmpS a b) := rfl
theorem phi_repeat (a : D) (i : Int) : @Interp.phi (I n) 20 [a, iD i] = sD (zer i) := rfl
theorem phi_level (a a' : Bool) (d d' : ByteArray) (e e' : Int) : @Interp.phi (I n) 21 [.row [bD a, sD d, iD e], .row [bD a', sD d', iD e']] = .row [sD (levQ (levP d e (levX e e')) (levP d' e' (levX e e'))), sD (levQ (levP d' e' (levX e e')) (levQ (levP d e (levX e e')) (levP d' e' (levX e e')))), iD (levX e e')] := rfl
theorem phi_numcmp (a a' : Bool) (d d' : ByteArray) (e e' : Int) : @Interp.phi (I n) 22 [.row [bD a, sD d, iD e], .row [bD a', sD d', iD e']] = .row [iD (numcmpV a d e a' d' e').1, iD (numcmpV a d e a' d' e').2] := rfl
theorem pre_repeat (a : D) (i : Int) : (@Interp.phi (I n) 2020 [a, iD i] = .v (.bool true)) ↔ 0 <= i /\ i <= 1000000 := by
 show (bD (decide (0 <= i /\ i <= 1000000)) = _) ↔ _
 rw [bD_true, decide_eq_true_iff]
theorem pre_level (a a' : Bool) (d d' : ByteArray) (e e' : Int) : (@Interp.phi (I n) 2021 [.row [bD a, sD d, iD e], .row [bD a', sD d', iD e']] = .v (.bool true)) ↔ d.size <= 40 /\ d'.size <= 40 /\ -400 <= e /\ e <= 400 /\ -400 <= e' /\ e' <= 400 := by
 show (bD (decide (d.size <= 40 /\ d'.size <= 40 /\ -400 <= e /\ e <= 400 /\ -400 <= e' /\ e' <= 400)) = _) ↔ _
 rw [bD_true, decide_eq_true_iff]
theorem phi_rall (a : ByteArray) : @Interp.phi (I n) 36 [sD a] = bD (digV a) := rfl
theorem phi_rzeros (i : Int) : @Interp.phi (I n) 37 [iD i] = sD (zer i) := rfl
theorem phi_rless (a b : ByteArray) : @Interp.phi (I n) 38 [sD a, sD b] = bD (decide (cmpS a b = -1)) := rfl
theorem pre_rzeros (i : Int) : (@Interp.phi (I n) 2037 [iD i] = .v (.bool true)) ↔ 0 <= i /\ i <= 1000000 := by
 show (bD (decide (0 <= i /\ i <= 1000000)) = _) ↔ _
 rw [bD_true, decide_eq_true_iff]
theorem pre_rless (a b : ByteArray) : (@Interp.phi (I n) 2038 [sD a, sD b] = .v (.bool true)) ↔ a.size = b.size := by
 show (bD (decide (a.size = b.size)) = _) ↔ _
 rw [bD_true, decide_eq_true_iff]
theorem phi_rnumless (a a' : Bool) (d d' : ByteArray) (e e' : Int) : @Interp.phi (I n) 39 [.row [bD a, sD d, iD e], .row [bD a', sD d', iD e']] = bD (decide ((numcmpV a d e a' d' e').1 = -1)) := rfl
theorem phi_raligned (a a' : Bool) (d d' : ByteArray) (e e' : Int) : @Interp.phi (I n) 56 [.row [bD a, sD d, iD e], .row [bD a', sD d', iD e']] = .row [sD (levQ (levP d e (levX e e')) (levP d' e' (levX e e'))), sD (levQ (levP d' e' (levX e e')) (levQ (levP d e (levX e e')) (levP d' e' (levX e e')))), iD (levX e e')] := rfl
theorem pre_raligned (a a' : Bool) (d d' : ByteArray) (e e' : Int) : (@Interp.phi (I n) 2056 [.row [bD a, sD d, iD e], .row [bD a', sD d', iD e']] = .v (.bool true)) ↔ d.size <= 40 /\ d'.size <= 40 /\ -400 <= e /\ e <= 400 /\ -400 <= e' /\ e' <= 400 := by
 show (bD (decide (d.size <= 40 /\ d'.size <= 40 /\ -400 <= e /\ e <= 400 /\ -400 <= e' /\ e' <= 400)) = _) ↔ _
 rw [bD_true, decide_eq_true_iff]
theorem phi_trimzero (a b : ByteArray) : @Interp.phi (I n) 78 [sD a, sD b] = sD (cutLV a b) := rfl
theorem phi_trimrzero (a b : ByteArray) : @Interp.phi (I n) 79 [sD a, sD b] = sD (cutRV a b) := rfl
theorem phi_nmade (a : Bool) (b : ByteArray) (e : Int) : @Interp.phi (I n) 88 [bD a, sD b, iD e] = .row [numD (madeV a b e).1, iD (madeV a b e).2] := rfl
theorem phi_nadd (a a' : Bool) (d d' : ByteArray) (e e' : Int) : @Interp.phi (I n) 92 [.row [bD a, sD d, iD e], .row [bD a', sD d', iD e']] = .row [numD (addV (a, d, e) (a', d', e')).1, iD (addV (a, d, e) (a', d', e')).2] := rfl
theorem phi_qis (t : NumT) : @Interp.phi (I n) 96 [numD t] = bD (decide (formN t = 0)) := rfl
theorem phi_qmade (a : Bool) (b : ByteArray) (e : Int) : @Interp.phi (I n) 98 [bD a, sD b, iD e] = .row [numD (madeV a b e).1, bD (decide ((madeV a b e).2 = 0))] := rfl
theorem pre_qmade (a : Bool) (b : ByteArray) (e : Int) : (@Interp.phi (I n) 2098 [bD a, sD b, iD e] = .v (.bool true)) ↔ -1099511627776 <= e /\ e <= 1099511627776 := by
 show (bD (decide (-1099511627776 <= e /\ e <= 1099511627776)) = _) ↔ _
 rw [bD_true, decide_eq_true_iff]
theorem phi_qcmp (t u : NumT) : @Interp.phi (I n) 104 [numD t, numD u] = .row [iD (numcmpV t.1 t.2.1 t.2.2 u.1 u.2.1 u.2.2).1, iD (numcmpV t.1 t.2.1 t.2.2 u.1 u.2.1 u.2.2).2] := rfl
theorem phi_qplus (a b : ByteArray) : @Interp.phi (I n) 105 [sD a, sD b] = sD (plusV a b) := rfl
theorem phi_qminus (a b : ByteArray) : @Interp.phi (I n) 106 [sD a, sD b] = sD (minusV a b) := rfl
theorem phi_qadd (t u : NumT) : @Interp.phi (I n) 107 [numD t, numD u] = .row [numD (addV t u).1, iD (addV t u).2] := rfl
theorem phi_nsums (ds : List D) : @Interp.phi (I n) 114 ds = bD true := rfl
theorem phi_nawake : @Interp.phi (I n) 112 [] = bD true := rfl
theorem pre_rnumless (a a' : Bool) (d d' : ByteArray) (e e' : Int) : (@Interp.phi (I n) 2039 [.row [bD a, sD d, iD e], .row [bD a', sD d', iD e']] = .v (.bool true)) ↔ numV a d e = 0 /\ numV a' d' e' = 0 := by
 show (bD (decide (numV a d e = 0 /\ numV a' d' e' = 0)) = _) ↔ _
 rw [bD_true, decide_eq_true_iff]
end
end Go.Proofs.YtflhikakndanjaaGreatDoor.Vk
/-
 Contracts of Go's library at this seat's dump, in plain declarations: written by wip/myshelf.py with the kit's lay-shelf.mjs and lay-plain.mjs.
-/
namespace Go.Proofs
open Go.Shelf
def Tryz.lays106_ren : Go.Shelf.Ren := ⟨fun | 106 => 12 | 213 => 27 | 265 => 45 | n => n, fun | 9 => 9 | 3 => 3 | n => n, fun | n => n⟩
theorem Tryz.lays106 : Go.Proofs.Lays.n106 Tryz.prog Tryz.lays106_ren := {
 mixed := by kernel_rfl
 f106 := Tryz.func12.trans (congrArg some (by kernel_rfl))
 f213 := Tryz.func27.trans (congrArg some (by kernel_rfl))
 f265 := Tryz.func45.trans (congrArg some (by kernel_rfl))
 t3 := Tryz.underlying3
 a3 := Tryz.isAgg3
 z3 := Tryz.sizeOf3
 v3 := Tryz.zeroValue3
 t9 := Tryz.underlying9
 a9 := Tryz.isAgg9
 z9 := Tryz.sizeOf9
 v9 := Tryz.zeroValue9 }
def Tryz.lays105_ren : Go.Shelf.Ren := ⟨fun | 105 => 26 | 212 => 40 | 99 => 34 | 165 => 41 | 166 => 42 | 170 => 43 | 169 => 44 | 263 => 58 | 264 => 59 | 206 => 54 | 240 => 60 | 241 => 61 | 276 => 72 | 277 => 73 | n => n, fun | 9 => 9 | 3 => 3 | 4 => 4 | 20 => 20 | 0 => 0 | 46 => 59 | 109 => 61 | 5 => 5 | 72 => 65 | 76 => 57 | 51 => 77 | 146 => 78 | 53 => 80 | 148 => 81 | 70 => 63 | 37 => 38 | 75 => 56 | 127 => 83 | 164 => 95 | 80 => 68 | n => n, fun | n => n⟩
theorem Tryz.lays105 : Go.Proofs.Lays.n105 Tryz.prog Tryz.lays105_ren := {
 mixed := by kernel_rfl
 f99 := Tryz.func34.trans (congrArg some (by kernel_rfl))
 f105 := Tryz.func26.trans (congrArg some (by kernel_rfl))
 f165 := Tryz.func41.trans (congrArg some (by kernel_rfl))
 f166 := Tryz.func42.trans (congrArg some (by kernel_rfl))
 f169 := Tryz.func44.trans (congrArg some (by kernel_rfl))
 f170 := Tryz.func43.trans (congrArg some (by kernel_rfl))
 f206 := Tryz.func54.trans (congrArg some (by kernel_rfl))
 f212 := Tryz.func40.trans (congrArg some (by kernel_rfl))
 f240 := Tryz.func60.trans (congrArg some (by kernel_rfl))
 f241 := Tryz.func61.trans (congrArg some (by kernel_rfl))
 f263 := Tryz.func58.trans (congrArg some (by kernel_rfl))
 f264 := Tryz.func59.trans (congrArg some (by kernel_rfl))
 f276 := Tryz.func72.trans (congrArg some (by kernel_rfl))
 f277 := Tryz.func73.trans (congrArg some (by kernel_rfl))
 t0 := Tryz.underlying0
 a0 := Tryz.isAgg0
 z0 := Tryz.sizeOf0
 v0 := Tryz.zeroValue0
 t3 := Tryz.underlying3
 a3 := Tryz.isAgg3
 z3 := Tryz.sizeOf3
 v3 := Tryz.zeroValue3
 t4 := Tryz.underlying4
 a4 := Tryz.isAgg4
 z4 := Tryz.sizeOf4
 v4 := Tryz.zeroValue4
 t5 := Tryz.underlying5
 a5 := Tryz.isAgg5
 z5 := Tryz.sizeOf5
 v5 := Tryz.zeroValue5
 t9 := Tryz.underlying9
 a9 := Tryz.isAgg9
 z9 := Tryz.sizeOf9
 v9 := Tryz.zeroValue9
 t20 := Tryz.underlying20
 a20 := Tryz.isAgg20
 z20 := Tryz.sizeOf20
 v20 := Tryz.zeroValue20
 t37 := Tryz.underlying38
 a37 := Tryz.isAgg38
 z37 := Tryz.sizeOf38
 v37 := Tryz.zeroValue38
 t46 := Tryz.underlying59
 a46 := Tryz.isAgg59
 z46 := Tryz.sizeOf59
 v46 := Tryz.zeroValue59
 t51 := Tryz.underlying77
 a51 := Tryz.isAgg77
 z51 := Tryz.sizeOf77
 v51 := Tryz.zeroValue77
 t53 := Tryz.underlying80
 a53 := Tryz.isAgg80
 z53 := Tryz.sizeOf80
 v53 := Tryz.zeroValue80
 t70 := Tryz.underlying63
 a70 := Tryz.isAgg63
 z70 := Tryz.sizeOf63
 v70 := Tryz.zeroValue63
 t72 := Tryz.underlying65
 a72 := Tryz.isAgg65
 z72 := Tryz.sizeOf65
 v72 := Tryz.zeroValue65
 t75 := Tryz.underlying56
 a75 := Tryz.isAgg56
 z75 := Tryz.sizeOf56
 v75 := Tryz.zeroValue56
 t76 := Tryz.underlying57
 a76 := Tryz.isAgg57
 z76 := Tryz.sizeOf57
 v76 := Tryz.zeroValue57
 t109 := Tryz.underlying61
 a109 := Tryz.isAgg61
 z109 := Tryz.sizeOf61
 v109 := Tryz.zeroValue61
 t127 := Tryz.underlying83
 a127 := Tryz.isAgg83
 z127 := Tryz.sizeOf83
 v127 := Tryz.zeroValue83
 t146 := Tryz.underlying78
 a146 := Tryz.isAgg78
 z146 := Tryz.sizeOf78
 v146 := Tryz.zeroValue78
 t148 := Tryz.underlying81
 a148 := Tryz.isAgg81
 z148 := Tryz.sizeOf81
 v148 := Tryz.zeroValue81
 t164 := Tryz.underlying95
 a164 := Tryz.isAgg95
 z164 := Tryz.sizeOf95
 v164 := Tryz.zeroValue95 }
theorem Tryz.Builder_Extra_105 : Builder.Extra Tryz.prog Tryz.lays105_ren := {
 sizeBuilder := by kernel_rfl
 liesBuilder := by kernel_rfl
 t5 := Tryz.underlying5
 a5 := Tryz.isAgg5
 z5 := Tryz.sizeOf5
 v5 := Tryz.zeroValue5
 infoByte := by kernel_rfl
 cellsByte := by kernel_rfl
 sizeByte := by kernel_rfl
 neB5 := by decide }
open Go.RowKit in
theorem Tryz.strings_Compare (a b : ByteArray) (w : World) :
  Calls Tryz.prog 12 #[.string a, .string b] w fun e w' => e = .returned (.int .i64 (Lib.compareBytes a.data.toList b.data.toList)) /\ w' = w := Any.strings_Compare Tryz.lays106 a b w
open Go.RowKit Go.Lib in
open Go.RowKit Go.Lib in
open Go.RowKit Go.Lib in
open Go.RowKit Go.Lib in
open Go.RowKit Go.Lib in
open Go.RowKit Go.Lib in
open Go.RowKit Go.Lib in
theorem Tryz.strings_Repeat (s : ByteArray) (c : Nat) (w : World) (hc : c <= 9223372036854775807) (hlen : s.size * c <= 140737488355328) :
  Calls Tryz.prog 26 #[.string s, .int .i64 c] w fun e w' => e = .returned (.string ⟨(Lib.repeatL s.data.toList c).toArray⟩) /\ Below w.heap.size w w' := Any.strings_Repeat Tryz.lays105 Tryz.Builder_Extra_105 s c w hc hlen
def Tryz.lays160_ren : Go.Shelf.Ren := ⟨fun | 160 => 38 | 232 => 50 | 231 => 46 | 227 => 47 | 234 => 51 | 233 => 48 | 236 => 52 | 235 => 49 | 228 => 62 | 271 => 65 | 151 => 64 | 197 => 63 | 120 => 76 | 152 => 75 | 260 => 74 | 137 => 84 | 119 => 85 | 224 => 86 | 225 => 87 | 217 => 95 | 266 => 98 | n => n, fun | 9 => 9 | 4 => 4 | 3 => 3 | 5 => 5 | 117 => 72 | 116 => 71 | 0 => 0 | 124 => 75 | 21 => 21 | 105 => 85 | 46 => 59 | 119 => 110 | 139 => 113 | 138 => 112 | n => n, fun | 3 => 3 | 4 => 4 | n => n⟩
theorem Tryz.lays160 : Go.Proofs.Lays.n160 Tryz.prog Tryz.lays160_ren := {
 mixed := by kernel_rfl
 f119 := Tryz.func85.trans (congrArg some (by kernel_rfl))
 f120 := Tryz.func76.trans (congrArg some (by kernel_rfl))
 f137 := Tryz.func84.trans (congrArg some (by kernel_rfl))
 f151 := Tryz.func64.trans (congrArg some (by kernel_rfl))
 f152 := Tryz.func75.trans (congrArg some (by kernel_rfl))
 f160 := Tryz.func38.trans (congrArg some (by kernel_rfl))
 f197 := Tryz.func63.trans (congrArg some (by kernel_rfl))
 f217 := Tryz.func95.trans (congrArg some (by kernel_rfl))
 f224 := Tryz.func86.trans (congrArg some (by kernel_rfl))
 f225 := Tryz.func87.trans (congrArg some (by kernel_rfl))
 f227 := Tryz.func47.trans (congrArg some (by kernel_rfl))
 f228 := Tryz.func62.trans (congrArg some (by kernel_rfl))
 f231 := Tryz.func46.trans (congrArg some (by kernel_rfl))
 f232 := Tryz.func50.trans (congrArg some (by kernel_rfl))
 f233 := Tryz.func48.trans (congrArg some (by kernel_rfl))
 f234 := Tryz.func51.trans (congrArg some (by kernel_rfl))
 f235 := Tryz.func49.trans (congrArg some (by kernel_rfl))
 f236 := Tryz.func52.trans (congrArg some (by kernel_rfl))
 f260 := Tryz.func74.trans (congrArg some (by kernel_rfl))
 f266 := Tryz.func98.trans (congrArg some (by kernel_rfl))
 f271 := Tryz.func65.trans (congrArg some (by kernel_rfl))
 t0 := Tryz.underlying0
 a0 := Tryz.isAgg0
 z0 := Tryz.sizeOf0
 v0 := Tryz.zeroValue0
 t3 := Tryz.underlying3
 a3 := Tryz.isAgg3
 z3 := Tryz.sizeOf3
 v3 := Tryz.zeroValue3
 t4 := Tryz.underlying4
 a4 := Tryz.isAgg4
 z4 := Tryz.sizeOf4
 v4 := Tryz.zeroValue4
 t5 := Tryz.underlying5
 a5 := Tryz.isAgg5
 z5 := Tryz.sizeOf5
 v5 := Tryz.zeroValue5
 t9 := Tryz.underlying9
 a9 := Tryz.isAgg9
 z9 := Tryz.sizeOf9
 v9 := Tryz.zeroValue9
 t21 := Tryz.underlying21
 a21 := Tryz.isAgg21
 z21 := Tryz.sizeOf21
 v21 := Tryz.zeroValue21
 t46 := Tryz.underlying59
 a46 := Tryz.isAgg59
 z46 := Tryz.sizeOf59
 v46 := Tryz.zeroValue59
 t105 := Tryz.underlying85
 a105 := Tryz.isAgg85
 z105 := Tryz.sizeOf85
 v105 := Tryz.zeroValue85
 t116 := Tryz.underlying71
 a116 := Tryz.isAgg71
 z116 := Tryz.sizeOf71
 t117 := Tryz.underlying72
 a117 := Tryz.isAgg72
 z117 := Tryz.sizeOf72
 v117 := Tryz.zeroValue72
 t119 := Tryz.underlying110
 a119 := Tryz.isAgg110
 z119 := Tryz.sizeOf110
 t124 := Tryz.underlying75
 a124 := Tryz.isAgg75
 z124 := Tryz.sizeOf75
 v124 := Tryz.zeroValue75
 t138 := Tryz.underlying112
 a138 := Tryz.isAgg112
 z138 := Tryz.sizeOf112
 v138 := Tryz.zeroValue112
 t139 := Tryz.underlying113
 a139 := Tryz.isAgg113
 z139 := Tryz.sizeOf113
 v139 := Tryz.zeroValue113
 g3 := by kernel_rfl
 g4 := by kernel_rfl }
open Go.RowKit in
theorem Tryz.strings_Trim_laid (s cutset : ByteArray) (w : World) (hs : s.size <= 9223372036854775807) (hcs : cutset.size < 4294967281) (hascii : ∀ (j : Nat) b, cutset.data.toList[j]? = some b -> b.toNat < 128) :
  Calls Tryz.prog 38 #[.string s, .string cutset] w fun e w' => e = .returned (.string ⟨(Lib.trimS s.data.toList cutset.data.toList).toArray⟩) /\ Below w.heap.size w w' := Any.strings_Trim_laid Tryz.lays160 (by kernel_rfl) s cutset w hs hcs hascii
def Tryz.lays161_ren : Go.Shelf.Ren := ⟨fun | 161 => 29 | 231 => 46 | 227 => 47 | 233 => 48 | 235 => 49 | 228 => 62 | 197 => 63 | 151 => 64 | 260 => 74 | 152 => 75 | 137 => 84 | 119 => 85 | 224 => 86 | 225 => 87 | 217 => 95 | 266 => 98 | n => n, fun | 9 => 9 | 4 => 4 | 3 => 3 | 5 => 5 | 117 => 72 | 116 => 71 | 0 => 0 | 124 => 75 | 105 => 85 | 21 => 21 | 119 => 110 | 46 => 59 | 139 => 113 | 138 => 112 | n => n, fun | 3 => 3 | 4 => 4 | n => n⟩
theorem Tryz.lays161 : Go.Proofs.Lays.n161 Tryz.prog Tryz.lays161_ren := {
 mixed := by kernel_rfl
 f119 := Tryz.func85.trans (congrArg some (by kernel_rfl))
 f137 := Tryz.func84.trans (congrArg some (by kernel_rfl))
 f151 := Tryz.func64.trans (congrArg some (by kernel_rfl))
 f152 := Tryz.func75.trans (congrArg some (by kernel_rfl))
 f161 := Tryz.func29.trans (congrArg some (by kernel_rfl))
 f197 := Tryz.func63.trans (congrArg some (by kernel_rfl))
 f217 := Tryz.func95.trans (congrArg some (by kernel_rfl))
 f224 := Tryz.func86.trans (congrArg some (by kernel_rfl))
 f225 := Tryz.func87.trans (congrArg some (by kernel_rfl))
 f227 := Tryz.func47.trans (congrArg some (by kernel_rfl))
 f228 := Tryz.func62.trans (congrArg some (by kernel_rfl))
 f231 := Tryz.func46.trans (congrArg some (by kernel_rfl))
 f233 := Tryz.func48.trans (congrArg some (by kernel_rfl))
 f235 := Tryz.func49.trans (congrArg some (by kernel_rfl))
 f260 := Tryz.func74.trans (congrArg some (by kernel_rfl))
 f266 := Tryz.func98.trans (congrArg some (by kernel_rfl))
 t0 := Tryz.underlying0
 a0 := Tryz.isAgg0
 z0 := Tryz.sizeOf0
 v0 := Tryz.zeroValue0
 t3 := Tryz.underlying3
 a3 := Tryz.isAgg3
 z3 := Tryz.sizeOf3
 v3 := Tryz.zeroValue3
 t4 := Tryz.underlying4
 a4 := Tryz.isAgg4
 z4 := Tryz.sizeOf4
 v4 := Tryz.zeroValue4
 t5 := Tryz.underlying5
 a5 := Tryz.isAgg5
 z5 := Tryz.sizeOf5
 v5 := Tryz.zeroValue5
 t9 := Tryz.underlying9
 a9 := Tryz.isAgg9
 z9 := Tryz.sizeOf9
 v9 := Tryz.zeroValue9
 t21 := Tryz.underlying21
 a21 := Tryz.isAgg21
 z21 := Tryz.sizeOf21
 v21 := Tryz.zeroValue21
 t46 := Tryz.underlying59
 a46 := Tryz.isAgg59
 z46 := Tryz.sizeOf59
 v46 := Tryz.zeroValue59
 t105 := Tryz.underlying85
 a105 := Tryz.isAgg85
 z105 := Tryz.sizeOf85
 v105 := Tryz.zeroValue85
 t116 := Tryz.underlying71
 a116 := Tryz.isAgg71
 z116 := Tryz.sizeOf71
 t117 := Tryz.underlying72
 a117 := Tryz.isAgg72
 z117 := Tryz.sizeOf72
 v117 := Tryz.zeroValue72
 t119 := Tryz.underlying110
 a119 := Tryz.isAgg110
 z119 := Tryz.sizeOf110
 t124 := Tryz.underlying75
 a124 := Tryz.isAgg75
 z124 := Tryz.sizeOf75
 v124 := Tryz.zeroValue75
 t138 := Tryz.underlying112
 a138 := Tryz.isAgg112
 z138 := Tryz.sizeOf112
 v138 := Tryz.zeroValue112
 t139 := Tryz.underlying113
 a139 := Tryz.isAgg113
 z139 := Tryz.sizeOf113
 v139 := Tryz.zeroValue113
 g3 := by kernel_rfl
 g4 := by kernel_rfl }
open Go.RowKit in
theorem Tryz.strings_TrimLeft_laid (s cutset : ByteArray) (w : World) (hcs : cutset.size < 4294967281) (hascii : ∀ (j : Nat) b, cutset.data.toList[j]? = some b -> b.toNat < 128) :
  Calls Tryz.prog 29 #[.string s, .string cutset] w fun e w' => e = .returned (.string ⟨(Lib.trimLeftS s.data.toList cutset.data.toList).toArray⟩) /\ Below w.heap.size w w' := Any.strings_TrimLeft_laid Tryz.lays161 (by kernel_rfl) s cutset w hcs hascii
def Tryz.lays162_ren : Go.Shelf.Ren := ⟨fun | 162 => 30 | 232 => 50 | 227 => 47 | 234 => 51 | 236 => 52 | 228 => 62 | 271 => 65 | 151 => 64 | 120 => 76 | 197 => 63 | 152 => 75 | 260 => 74 | 137 => 84 | 119 => 85 | 224 => 86 | 225 => 87 | 217 => 95 | 266 => 98 | n => n, fun | 9 => 9 | 4 => 4 | 3 => 3 | 5 => 5 | 117 => 72 | 116 => 71 | 0 => 0 | 124 => 75 | 21 => 21 | 105 => 85 | 46 => 59 | 119 => 110 | 139 => 113 | 138 => 112 | n => n, fun | 3 => 3 | 4 => 4 | n => n⟩
theorem Tryz.lays162 : Go.Proofs.Lays.n162 Tryz.prog Tryz.lays162_ren := {
 mixed := by kernel_rfl
 f119 := Tryz.func85.trans (congrArg some (by kernel_rfl))
 f120 := Tryz.func76.trans (congrArg some (by kernel_rfl))
 f137 := Tryz.func84.trans (congrArg some (by kernel_rfl))
 f151 := Tryz.func64.trans (congrArg some (by kernel_rfl))
 f152 := Tryz.func75.trans (congrArg some (by kernel_rfl))
 f162 := Tryz.func30.trans (congrArg some (by kernel_rfl))
 f197 := Tryz.func63.trans (congrArg some (by kernel_rfl))
 f217 := Tryz.func95.trans (congrArg some (by kernel_rfl))
 f224 := Tryz.func86.trans (congrArg some (by kernel_rfl))
 f225 := Tryz.func87.trans (congrArg some (by kernel_rfl))
 f227 := Tryz.func47.trans (congrArg some (by kernel_rfl))
 f228 := Tryz.func62.trans (congrArg some (by kernel_rfl))
 f232 := Tryz.func50.trans (congrArg some (by kernel_rfl))
 f234 := Tryz.func51.trans (congrArg some (by kernel_rfl))
 f236 := Tryz.func52.trans (congrArg some (by kernel_rfl))
 f260 := Tryz.func74.trans (congrArg some (by kernel_rfl))
 f266 := Tryz.func98.trans (congrArg some (by kernel_rfl))
 f271 := Tryz.func65.trans (congrArg some (by kernel_rfl))
 t0 := Tryz.underlying0
 a0 := Tryz.isAgg0
 z0 := Tryz.sizeOf0
 v0 := Tryz.zeroValue0
 t3 := Tryz.underlying3
 a3 := Tryz.isAgg3
 z3 := Tryz.sizeOf3
 v3 := Tryz.zeroValue3
 t4 := Tryz.underlying4
 a4 := Tryz.isAgg4
 z4 := Tryz.sizeOf4
 v4 := Tryz.zeroValue4
 t5 := Tryz.underlying5
 a5 := Tryz.isAgg5
 z5 := Tryz.sizeOf5
 v5 := Tryz.zeroValue5
 t9 := Tryz.underlying9
 a9 := Tryz.isAgg9
 z9 := Tryz.sizeOf9
 v9 := Tryz.zeroValue9
 t21 := Tryz.underlying21
 a21 := Tryz.isAgg21
 z21 := Tryz.sizeOf21
 v21 := Tryz.zeroValue21
 t46 := Tryz.underlying59
 a46 := Tryz.isAgg59
 z46 := Tryz.sizeOf59
 v46 := Tryz.zeroValue59
 t105 := Tryz.underlying85
 a105 := Tryz.isAgg85
 z105 := Tryz.sizeOf85
 v105 := Tryz.zeroValue85
 t116 := Tryz.underlying71
 a116 := Tryz.isAgg71
 z116 := Tryz.sizeOf71
 t117 := Tryz.underlying72
 a117 := Tryz.isAgg72
 z117 := Tryz.sizeOf72
 v117 := Tryz.zeroValue72
 t119 := Tryz.underlying110
 a119 := Tryz.isAgg110
 z119 := Tryz.sizeOf110
 t124 := Tryz.underlying75
 a124 := Tryz.isAgg75
 z124 := Tryz.sizeOf75
 v124 := Tryz.zeroValue75
 t138 := Tryz.underlying112
 a138 := Tryz.isAgg112
 z138 := Tryz.sizeOf112
 v138 := Tryz.zeroValue112
 t139 := Tryz.underlying113
 a139 := Tryz.isAgg113
 z139 := Tryz.sizeOf113
 v139 := Tryz.zeroValue113
 g3 := by kernel_rfl
 g4 := by kernel_rfl }
open Go.RowKit in
theorem Tryz.strings_TrimRight_laid (s cutset : ByteArray) (w : World) (hs : s.size <= 9223372036854775807) (hcs : cutset.size < 4294967281) (hascii : ∀ (j : Nat) b, cutset.data.toList[j]? = some b -> b.toNat < 128) :
  Calls Tryz.prog 30 #[.string s, .string cutset] w fun e w' => e = .returned (.string ⟨(Lib.trimRightS s.data.toList cutset.data.toList).toArray⟩) /\ Below w.heap.size w w' := Any.strings_TrimRight_laid Tryz.lays162 (by kernel_rfl) s cutset w hs hcs hascii
end Go.Proofs
/- Contracts: numbers' form. -/
namespace Go.Proofs.YtflhikakndanjaaGreatDoor.Vk
open Go Go.Ab Go.RowKit
theorem one_num {d : List D} (h : FitL tb [.row 23] d) : ∃ a b c, d = [.row [bD a, sD b, iD c]] := by
 match d, h with
 | [d], ⟨⟨cs, e, hf⟩, _⟩ =>
  subst e
  obtain ⟨d1, r, rfl, g1, hf⟩ := fitsC_cons (show fitsC (kn [] tb).shape cs [.sc .b, .sc .s, .sc (.i .i64)] from hf)
  obtain ⟨d2, r, rfl, g2, hf⟩ := fitsC_cons hf
  obtain ⟨d3, r, rfl, g3, hf⟩ := fitsC_cons hf
  obtain rfl := fitsC_nil hf
  obtain ⟨a, rfl⟩ := fits_bool g1
  obtain ⟨b, rfl⟩ := fits_str g2
  obtain ⟨c, rfl⟩ := fits_int g3
  exact ⟨a, b, c, rfl⟩
theorem ok_scalar [Interp] {q : Sig} {pre : List D -> Prop} {t : Ty} (hr : q.res = [.cell (.sc t)]) (h : ∀ (W : World) (vs : Array Value) (ds : List D), TabsMet tabs W -> ArgsR (kn [] tb).shape (fun b off => W.cell? ⟨b, off, none⟩) (fun _ _ => True) q.args vs.toList ds -> pre ds ->
  Calls Tryz.prog q.f vs W fun e W' => ∃ v, e = .returned v /\ Below W.heap.size W W' /\ Interp.phi q.g ds = .v v /\ tyV t v = true) : Ok q pre := by
 intro W J vs ds hL hI ha hp
 refine (callsIn_wide.2 (h W vs ds hL (ha.mono fun b off v hc _ => ⟨hc, trivial⟩) hp)).mono ?_
 rintro e W' ⟨v, rfl, hb, h1, h2⟩
 refine ⟨v, rfl, hb, ?_⟩
 rw [hr, h1]
 exact ⟨by unfold DV; exact ⟨rfl, tyV_ok h2⟩, by unfold fits; exact h2⟩
theorem arg_str {C : Nat -> Nat -> Option Value} {J : Nat -> Nat -> Prop} {v : Value} {d : D} (h : ArgR (kn [] tb).shape C J (.cell (.sc .s)) v d) : ∃ s, v = .string s /\ d = sD s := by
 obtain ⟨h1, h2⟩ := h
 obtain ⟨s, rfl⟩ := fits_str h2
 unfold DV at h1
 exact ⟨s, h1.1, rfl⟩
theorem args_two {C : Nat -> Nat -> Option Value} {J : Nat -> Nat -> Prop} {h h' : Sh} {vs : Array Value} {ds : List D} (k : ArgsR (kn [] tb).shape C J [h, h'] vs.toList ds) : ∃ v u d e, vs = #[v, u] /\ ds = [d, e] /\ ArgR (kn [] tb).shape C J h v d /\ ArgR (kn [] tb).shape C J h' u e := by
 obtain ⟨vs⟩ := vs
 cases vs with
 | nil => cases ds <;> exact k.elim
 | cons v vs =>
  cases ds with
  | nil => exact k.elim
  | cons d ds =>
   obtain ⟨k1, k⟩ := k
   cases vs with
   | nil => cases ds <;> exact k.elim
   | cons u vs =>
    cases ds with
    | nil => exact k.elim
    | cons e ds =>
     obtain ⟨k2, k⟩ := k
     cases vs with
     | nil =>
      cases ds with
      | nil => exact ⟨v, u, d, e, rfl, rfl, k1, k2⟩
      | cons _ _ => exact k.elim
     | cons _ _ => cases ds <;> exact k.elim
theorem trim_ok (n : Nat) : @Ok (I n) q_trim (okD n) := by
 letI := I n
 refine ok_scalar (t := .s) rfl fun W vs ds hL ha hp => ?_
 obtain ⟨v, u, d, e, rfl, rfl, h1, h2, h3⟩ := args_two ha
 ·obtain ⟨s, rfl, rfl⟩ := arg_str h1
  subst h2 h3
  have hs := lim_sD.1 (okD_two.1 hp).2.1
  have hs : s.size <= 140737488355328 := hs
  refine (Tryz.strings_Trim_laid s tenDigits W (by omega) (by decide) (fun j b hj => ?_)).mono ?_
  ·have : (tenDigits.data.toList.all fun b => decide (b.toNat < 128)) = true := by decide
   have := List.all_eq_true.1 this b (List.mem_of_getElem? hj)
   simpa using this
  ·rintro e W' ⟨rfl, hb⟩
   exact ⟨_, rfl, hb, phi_trim n s tenDigits, rfl⟩
def heads_numcheck : List Hd := []
def entry_numcheck : Tree :=
 (.ite (.pr .and [(.pr (.bcmp .eql) [(.c 0 .v0), (.lit (.bool false))]), (.pr (.scmp .eql) [(.c 1 .v0), (.lit (.string (mkS [48])))]), (.eq (.c 2 .v0) (.i 0))])
 (.rt (.i 0))
 (.ite (.pr (.scmp .neq) [(.c 1 .v0), (.lit (.string .empty))])
 (.giv (.app 1000 [(.c 1 .v0), (.lit (.string (mkS [48, 49, 50, 51, 52, 53, 54, 55, 56, 57])))])
 (.ite (.pr (.scmp .eql) [(.app 6 [(.c 1 .v0), (.lit (.string (mkS [48, 49, 50, 51, 52, 53, 54, 55, 56, 57])))]), (.lit (.string .empty))])
 (.ite (.gt (.pr .slen [(.c 1 .v0)]) (.i 40))
 (.rt (.i 10))
 (.giv (.lt (.i 0) (.pr .slen [(.c 1 .v0)]))
 (.ite (.eq (.pr .sat [(.c 1 .v0), (.i 0)]) (.lit (.int .u8 48)))
 (.rt (.i 10))
 (.ite (.ge (.pr .slen [(.c 1 .v0)]) (.i 1))
 (.giv (.le (.i 0) (.pr (.iop .sub .i64) [(.pr .slen [(.c 1 .v0)]), (.i 1)]))
 (.giv (.le (.pr (.iop .sub .i64) [(.pr .slen [(.c 1 .v0)]), (.i 1)]) (.pr .slen [(.c 1 .v0)]))
 (.ite (.pr (.scmp .eql) [(.pr .ssub [(.c 1 .v0), (.pr (.iop .sub .i64) [(.pr .slen [(.c 1 .v0)]), (.i 1)]), (.pr .slen [(.c 1 .v0)])]), (.lit (.string (mkS [48])))])
 (.rt (.i 10))
 (.ite (.lt (.c 2 .v0) (.i (-400)))
 (.rt (.i 10))
 (.ite (.gt (.c 2 .v0) (.i 400))
 (.rt (.i 10))
 (.rt (.i 0)))))))
 (.ite (.lt (.c 2 .v0) (.i (-400)))
 (.rt (.i 10))
 (.ite (.gt (.c 2 .v0) (.i 400))
 (.rt (.i 10))
 (.rt (.i 0))))))))
 (.rt (.i 10))))
 (.rt (.i 10))))
def trees_numcheck : List Tree := []
noncomputable def deps_numcheck : List Sig := [q_trim]
theorem ok_numcheck : check q_numcheck deps_numcheck heads_numcheck entry_numcheck trees_numcheck = true := by kernel_rfl
theorem size_zero {d : ByteArray} : d.size = 0 ↔ d = ByteArray.empty := by
 constructor
 ·intro h
  exact ByteArray.ext (Array.eq_empty_of_size_eq_zero h)
 ·intro h; rw [h]; rfl
theorem numcheck_ok (n : Nat) : @Ok (I n) q_numcheck (okD n) := by
 letI := I n
 refine fn_ok (hphi n) ok_numcheck (by
  intro q hq
  simp only [deps_numcheck, List.mem_singleton] at hq
  subst hq
  exact trim_ok n) (fun _ _ _ => False) (fun _ _ => 0) ?_ (fun j h t d ds hj => by simp [heads_numcheck] at hj)
 intro ds hf hp
 obtain ⟨a, b, c, rfl⟩ := one_num hf
 have hb : okD n [sD b, sD tenDigits] := by
  rw [okD_one, sz_row] at hp
  simp only [D.szL, D.sz, D.Lim, D.LimL, and_true, true_and] at hp
  exact okD_two.2 ⟨by rw [sz_sD, sz_sD]; omega, lim_sD.2 hp.2, lim_sD.2 (by decide)⟩
 have hs : b.size <= 140737488355328 := lim_sD.1 (okD_two.1 hb).2.1
 have hz := @size_zero b
 have hw : 0 < b.size -> IntKind.i64.wrap ((b.size : Int) - 1) = ((b.size - 1 : Nat) : Int) := fun h => by rw [wrap_id (by omega) (by omega)]; omega
 simp only [entry_numcheck, q_numcheck, Tree.holds, Out.den, E.den, E.denL, dn, List.getD_cons_zero, List.getD_cons_succ, List.length_map, phi_1000, phi_trim, phi_numcheck, row_at0, row_at1, row_at2, List.all_cons, List.all_nil, Bool.and_true, Bool.and_eq_true, Bool.and_eq_false_iff, beq_iff_eq]
 unfold numV
 have ht : (mkS [48, 49, 50, 51, 52, 53, 54, 55, 56, 57]) = tenDigits := rfl
 have ho : (mkS [48]) = one := rfl
 simp only [ht, ho, Int.toNat_natCast, Int.toNat_zero]
 by_cases hb0 : b = .empty
 ·subst hb0
  grind
 ·have hb1 : 0 < b.size := by
   rcases Nat.eq_zero_or_pos b.size with h | h
   ·exact absurd (hz.1 h) hb0
   ·exact h
  rw [hw hb1]
  simp only [Int.toNat_natCast]
  grind
end Go.Proofs.YtflhikakndanjaaGreatDoor.Vk
/- Contracts: numbers' order. -/
namespace Go.Proofs.YtflhikakndanjaaGreatDoor.Vk
open Go Go.Ab Go.RowKit
theorem fit_num {d : D} (h : FitS tb (.row 23) d) : ∃ (a : Bool) (s : ByteArray) (e : Int), d = .row [bD a, sD s, iD e] := by
 obtain ⟨cs, rfl, h⟩ := h
 obtain ⟨d1, r, rfl, g1, h⟩ := fitsC_cons h
 obtain ⟨d2, r, rfl, g2, h⟩ := fitsC_cons h
 obtain ⟨d3, r, rfl, g3, h⟩ := fitsC_cons h
 obtain rfl := fitsC_nil h
 obtain ⟨z1, rfl⟩ := fits_bool g1
 obtain ⟨z2, rfl⟩ := fits_str g2
 obtain ⟨z3, rfl⟩ := fits_int g3
 exact ⟨z1, z2, z3, rfl⟩
theorem num_two {d : List D} (h : FitL tb [.row 23, .row 23] d) : ∃ (a : Bool) (s : ByteArray) (e : Int) (a' : Bool) (s' : ByteArray) (e' : Int), d = [.row [bD a, sD s, iD e], .row [bD a', sD s', iD e']] := by
 match d, h with
 | [x, y], ⟨h1, h2, _⟩ =>
  obtain ⟨a, s, e, rfl⟩ := fit_num h1
  obtain ⟨a', s', e', rfl⟩ := fit_num h2
  exact ⟨a, s, e, a', s', e', rfl⟩
theorem scmp_ok (n : Nat) : @Ok (I n) q_scmp (okD n) := by
 letI := I n
 refine ok_scalar (t := .i .i64) rfl fun W vs ds hL ha hp => ?_
 obtain ⟨v, u, d, e, rfl, rfl, h1, h2⟩ := args_two ha
 obtain ⟨s, rfl, rfl⟩ := arg_str h1
 obtain ⟨t, rfl, rfl⟩ := arg_str h2
 refine (Tryz.strings_Compare s t W).mono ?_
 rintro e W' ⟨rfl, rfl⟩
 exact ⟨_, rfl, Below.refl _ _, phi_scmp n s t, rfl⟩
theorem arg_int {C : Nat -> Nat -> Option Value} {J : Nat -> Nat -> Prop} {v : Value} {d : D} (h : ArgR (kn [] tb).shape C J (.cell (.sc (.i .i64))) v d) : ∃ i : Int, v = .int .i64 i /\ d = iD i := by
 obtain ⟨h1, h2⟩ := h
 obtain ⟨z, rfl⟩ := fits_int h2
 unfold DV at h1
 exact ⟨z, h1.1, rfl⟩
theorem zer_eq (c : Nat) : zer (c : Int) = ⟨(Lib.repeatL one.data.toList c).toArray⟩ := by
 unfold zer
 have : ∀ c : Nat, List.replicate c (48 : UInt8) = Lib.repeatL one.data.toList c := by
  intro c
  induction c with
  | zero => rfl
  | succ c ih => rw [List.replicate_succ, ih]; rfl
 rw [Int.toNat_natCast, this]
theorem repeat_ok (n : Nat) : @Ok (I n) q_repeat (@okS (I n) n q_repeat.g) := by
 letI := I n
 refine ok_scalar (t := .s) rfl fun W vs ds hL ha hp => ?_
 obtain ⟨v, u, d, e, rfl, rfl, ⟨h1, h3⟩, h2⟩ := args_two ha
 obtain ⟨i, rfl, rfl⟩ := arg_int h2
 subst h1 h3
 have hi := (pre_repeat n _ i).1 (hp.2 rfl)
 obtain ⟨c, rfl⟩ : ∃ c : Nat, i = c := ⟨i.toNat, by omega⟩
 refine (Tryz.strings_Repeat one c W (by omega) (by show 1 * c <= _; omega)).mono ?_
 rintro e W' ⟨rfl, hb⟩
 exact ⟨_, rfl, hb, by rw [<- zer_eq]; exact phi_repeat n _ _, rfl⟩
theorem bif_iD (c : Bool) (x y : Int) : (bif c then iD x else iD y) = iD (if c = true then x else y) := by cases c <;> rfl
theorem zer_size (i : Int) : (zer i).size = i.toNat := by
 unfold zer
 show (List.replicate i.toNat (48 : UInt8)).toArray.size = _
 simp
theorem cat_size (a b : ByteArray) : (a ++ b).size = a.size + b.size := ByteArray.size_append
theorem levX_le (e e' : Int) : levX e e' <= e /\ levX e e' <= e' /\ (levX e e' = e \/ levX e e' = e') := by
 unfold levX; split <;> omega
def heads_level : List Hd := []
def entry_level : Tree :=
 (.giv (.app 1000 [(.lit (.string (mkS [48]))), (.pr (.iop .sub .i64) [(.c 2 .v0), (.pr .ite [(.lt (.c 2 .v1) (.c 2 .v0)), (.c 2 .v1), (.c 2 .v0)])])])
 (.giv (.app 2020 [(.lit (.string (mkS [48]))), (.pr (.iop .sub .i64) [(.c 2 .v0), (.pr .ite [(.lt (.c 2 .v1) (.c 2 .v0)), (.c 2 .v1), (.c 2 .v0)])])])
 (.giv (.le (.pr .slen [(.c 1 .v0)]) (.i 1099511627776))
 (.giv (.le (.pr .slen [(.app 20 [(.lit (.string (mkS [48]))), (.pr (.iop .sub .i64) [(.c 2 .v0), (.pr .ite [(.lt (.c 2 .v1) (.c 2 .v0)), (.c 2 .v1), (.c 2 .v0)])])])]) (.i 1099511627776))
 (.giv (.app 1000 [(.lit (.string (mkS [48]))), (.pr (.iop .sub .i64) [(.c 2 .v1), (.pr .ite [(.lt (.c 2 .v1) (.c 2 .v0)), (.c 2 .v1), (.c 2 .v0)])])])
 (.giv (.app 2020 [(.lit (.string (mkS [48]))), (.pr (.iop .sub .i64) [(.c 2 .v1), (.pr .ite [(.lt (.c 2 .v1) (.c 2 .v0)), (.c 2 .v1), (.c 2 .v0)])])])
 (.giv (.le (.pr .slen [(.c 1 .v1)]) (.i 1099511627776))
 (.giv (.le (.pr .slen [(.app 20 [(.lit (.string (mkS [48]))), (.pr (.iop .sub .i64) [(.c 2 .v1), (.pr .ite [(.lt (.c 2 .v1) (.c 2 .v0)), (.c 2 .v1), (.c 2 .v0)])])])]) (.i 1099511627776))
 (.giv (.app 1000 [(.lit (.string (mkS [48]))), (.pr .ite [(.gt (.pr (.iop .sub .i64) [(.pr .slen [(.pr .scat [(.c 1 .v1), (.app 20 [(.lit (.string (mkS [48]))), (.pr (.iop .sub .i64) [(.c 2 .v1), (.pr .ite [(.lt (.c 2 .v1) (.c 2 .v0)), (.c 2 .v1), (.c 2 .v0)])])])])]), (.pr .slen [(.pr .scat [(.c 1 .v0), (.app 20 [(.lit (.string (mkS [48]))), (.pr (.iop .sub .i64) [(.c 2 .v0), (.pr .ite [(.lt (.c 2 .v1) (.c 2 .v0)), (.c 2 .v1), (.c 2 .v0)])])])])])]) (.i 0)), (.pr (.iop .sub .i64) [(.pr .slen [(.pr .scat [(.c 1 .v1), (.app 20 [(.lit (.string (mkS [48]))), (.pr (.iop .sub .i64) [(.c 2 .v1), (.pr .ite [(.lt (.c 2 .v1) (.c 2 .v0)), (.c 2 .v1), (.c 2 .v0)])])])])]), (.pr .slen [(.pr .scat [(.c 1 .v0), (.app 20 [(.lit (.string (mkS [48]))), (.pr (.iop .sub .i64) [(.c 2 .v0), (.pr .ite [(.lt (.c 2 .v1) (.c 2 .v0)), (.c 2 .v1), (.c 2 .v0)])])])])])]), (.i 0)])])
 (.giv (.app 2020 [(.lit (.string (mkS [48]))), (.pr .ite [(.gt (.pr (.iop .sub .i64) [(.pr .slen [(.pr .scat [(.c 1 .v1), (.app 20 [(.lit (.string (mkS [48]))), (.pr (.iop .sub .i64) [(.c 2 .v1), (.pr .ite [(.lt (.c 2 .v1) (.c 2 .v0)), (.c 2 .v1), (.c 2 .v0)])])])])]), (.pr .slen [(.pr .scat [(.c 1 .v0), (.app 20 [(.lit (.string (mkS [48]))), (.pr (.iop .sub .i64) [(.c 2 .v0), (.pr .ite [(.lt (.c 2 .v1) (.c 2 .v0)), (.c 2 .v1), (.c 2 .v0)])])])])])]) (.i 0)), (.pr (.iop .sub .i64) [(.pr .slen [(.pr .scat [(.c 1 .v1), (.app 20 [(.lit (.string (mkS [48]))), (.pr (.iop .sub .i64) [(.c 2 .v1), (.pr .ite [(.lt (.c 2 .v1) (.c 2 .v0)), (.c 2 .v1), (.c 2 .v0)])])])])]), (.pr .slen [(.pr .scat [(.c 1 .v0), (.app 20 [(.lit (.string (mkS [48]))), (.pr (.iop .sub .i64) [(.c 2 .v0), (.pr .ite [(.lt (.c 2 .v1) (.c 2 .v0)), (.c 2 .v1), (.c 2 .v0)])])])])])]), (.i 0)])])
 (.giv (.le (.pr .slen [(.app 20 [(.lit (.string (mkS [48]))), (.pr .ite [(.gt (.pr (.iop .sub .i64) [(.pr .slen [(.pr .scat [(.c 1 .v1), (.app 20 [(.lit (.string (mkS [48]))), (.pr (.iop .sub .i64) [(.c 2 .v1), (.pr .ite [(.lt (.c 2 .v1) (.c 2 .v0)), (.c 2 .v1), (.c 2 .v0)])])])])]), (.pr .slen [(.pr .scat [(.c 1 .v0), (.app 20 [(.lit (.string (mkS [48]))), (.pr (.iop .sub .i64) [(.c 2 .v0), (.pr .ite [(.lt (.c 2 .v1) (.c 2 .v0)), (.c 2 .v1), (.c 2 .v0)])])])])])]) (.i 0)), (.pr (.iop .sub .i64) [(.pr .slen [(.pr .scat [(.c 1 .v1), (.app 20 [(.lit (.string (mkS [48]))), (.pr (.iop .sub .i64) [(.c 2 .v1), (.pr .ite [(.lt (.c 2 .v1) (.c 2 .v0)), (.c 2 .v1), (.c 2 .v0)])])])])]), (.pr .slen [(.pr .scat [(.c 1 .v0), (.app 20 [(.lit (.string (mkS [48]))), (.pr (.iop .sub .i64) [(.c 2 .v0), (.pr .ite [(.lt (.c 2 .v1) (.c 2 .v0)), (.c 2 .v1), (.c 2 .v0)])])])])])]), (.i 0)])])]) (.i 1099511627776))
 (.giv (.le (.pr .slen [(.pr .scat [(.c 1 .v0), (.app 20 [(.lit (.string (mkS [48]))), (.pr (.iop .sub .i64) [(.c 2 .v0), (.pr .ite [(.lt (.c 2 .v1) (.c 2 .v0)), (.c 2 .v1), (.c 2 .v0)])])])])]) (.i 1099511627776))
 (.giv (.app 1000 [(.lit (.string (mkS [48]))), (.pr .ite [(.gt (.pr (.iop .sub .i64) [(.pr .slen [(.pr .scat [(.app 20 [(.lit (.string (mkS [48]))), (.pr .ite [(.gt (.pr (.iop .sub .i64) [(.pr .slen [(.pr .scat [(.c 1 .v1), (.app 20 [(.lit (.string (mkS [48]))), (.pr (.iop .sub .i64) [(.c 2 .v1), (.pr .ite [(.lt (.c 2 .v1) (.c 2 .v0)), (.c 2 .v1), (.c 2 .v0)])])])])]), (.pr .slen [(.pr .scat [(.c 1 .v0), (.app 20 [(.lit (.string (mkS [48]))), (.pr (.iop .sub .i64) [(.c 2 .v0), (.pr .ite [(.lt (.c 2 .v1) (.c 2 .v0)), (.c 2 .v1), (.c 2 .v0)])])])])])]) (.i 0)), (.pr (.iop .sub .i64) [(.pr .slen [(.pr .scat [(.c 1 .v1), (.app 20 [(.lit (.string (mkS [48]))), (.pr (.iop .sub .i64) [(.c 2 .v1), (.pr .ite [(.lt (.c 2 .v1) (.c 2 .v0)), (.c 2 .v1), (.c 2 .v0)])])])])]), (.pr .slen [(.pr .scat [(.c 1 .v0), (.app 20 [(.lit (.string (mkS [48]))), (.pr (.iop .sub .i64) [(.c 2 .v0), (.pr .ite [(.lt (.c 2 .v1) (.c 2 .v0)), (.c 2 .v1), (.c 2 .v0)])])])])])]), (.i 0)])]), (.pr .scat [(.c 1 .v0), (.app 20 [(.lit (.string (mkS [48]))), (.pr (.iop .sub .i64) [(.c 2 .v0), (.pr .ite [(.lt (.c 2 .v1) (.c 2 .v0)), (.c 2 .v1), (.c 2 .v0)])])])])])]), (.pr .slen [(.pr .scat [(.c 1 .v1), (.app 20 [(.lit (.string (mkS [48]))), (.pr (.iop .sub .i64) [(.c 2 .v1), (.pr .ite [(.lt (.c 2 .v1) (.c 2 .v0)), (.c 2 .v1), (.c 2 .v0)])])])])])]) (.i 0)), (.pr (.iop .sub .i64) [(.pr .slen [(.pr .scat [(.app 20 [(.lit (.string (mkS [48]))), (.pr .ite [(.gt (.pr (.iop .sub .i64) [(.pr .slen [(.pr .scat [(.c 1 .v1), (.app 20 [(.lit (.string (mkS [48]))), (.pr (.iop .sub .i64) [(.c 2 .v1), (.pr .ite [(.lt (.c 2 .v1) (.c 2 .v0)), (.c 2 .v1), (.c 2 .v0)])])])])]), (.pr .slen [(.pr .scat [(.c 1 .v0), (.app 20 [(.lit (.string (mkS [48]))), (.pr (.iop .sub .i64) [(.c 2 .v0), (.pr .ite [(.lt (.c 2 .v1) (.c 2 .v0)), (.c 2 .v1), (.c 2 .v0)])])])])])]) (.i 0)), (.pr (.iop .sub .i64) [(.pr .slen [(.pr .scat [(.c 1 .v1), (.app 20 [(.lit (.string (mkS [48]))), (.pr (.iop .sub .i64) [(.c 2 .v1), (.pr .ite [(.lt (.c 2 .v1) (.c 2 .v0)), (.c 2 .v1), (.c 2 .v0)])])])])]), (.pr .slen [(.pr .scat [(.c 1 .v0), (.app 20 [(.lit (.string (mkS [48]))), (.pr (.iop .sub .i64) [(.c 2 .v0), (.pr .ite [(.lt (.c 2 .v1) (.c 2 .v0)), (.c 2 .v1), (.c 2 .v0)])])])])])]), (.i 0)])]), (.pr .scat [(.c 1 .v0), (.app 20 [(.lit (.string (mkS [48]))), (.pr (.iop .sub .i64) [(.c 2 .v0), (.pr .ite [(.lt (.c 2 .v1) (.c 2 .v0)), (.c 2 .v1), (.c 2 .v0)])])])])])]), (.pr .slen [(.pr .scat [(.c 1 .v1), (.app 20 [(.lit (.string (mkS [48]))), (.pr (.iop .sub .i64) [(.c 2 .v1), (.pr .ite [(.lt (.c 2 .v1) (.c 2 .v0)), (.c 2 .v1), (.c 2 .v0)])])])])])]), (.i 0)])])
 (.giv (.app 2020 [(.lit (.string (mkS [48]))), (.pr .ite [(.gt (.pr (.iop .sub .i64) [(.pr .slen [(.pr .scat [(.app 20 [(.lit (.string (mkS [48]))), (.pr .ite [(.gt (.pr (.iop .sub .i64) [(.pr .slen [(.pr .scat [(.c 1 .v1), (.app 20 [(.lit (.string (mkS [48]))), (.pr (.iop .sub .i64) [(.c 2 .v1), (.pr .ite [(.lt (.c 2 .v1) (.c 2 .v0)), (.c 2 .v1), (.c 2 .v0)])])])])]), (.pr .slen [(.pr .scat [(.c 1 .v0), (.app 20 [(.lit (.string (mkS [48]))), (.pr (.iop .sub .i64) [(.c 2 .v0), (.pr .ite [(.lt (.c 2 .v1) (.c 2 .v0)), (.c 2 .v1), (.c 2 .v0)])])])])])]) (.i 0)), (.pr (.iop .sub .i64) [(.pr .slen [(.pr .scat [(.c 1 .v1), (.app 20 [(.lit (.string (mkS [48]))), (.pr (.iop .sub .i64) [(.c 2 .v1), (.pr .ite [(.lt (.c 2 .v1) (.c 2 .v0)), (.c 2 .v1), (.c 2 .v0)])])])])]), (.pr .slen [(.pr .scat [(.c 1 .v0), (.app 20 [(.lit (.string (mkS [48]))), (.pr (.iop .sub .i64) [(.c 2 .v0), (.pr .ite [(.lt (.c 2 .v1) (.c 2 .v0)), (.c 2 .v1), (.c 2 .v0)])])])])])]), (.i 0)])]), (.pr .scat [(.c 1 .v0), (.app 20 [(.lit (.string (mkS [48]))), (.pr (.iop .sub .i64) [(.c 2 .v0), (.pr .ite [(.lt (.c 2 .v1) (.c 2 .v0)), (.c 2 .v1), (.c 2 .v0)])])])])])]), (.pr .slen [(.pr .scat [(.c 1 .v1), (.app 20 [(.lit (.string (mkS [48]))), (.pr (.iop .sub .i64) [(.c 2 .v1), (.pr .ite [(.lt (.c 2 .v1) (.c 2 .v0)), (.c 2 .v1), (.c 2 .v0)])])])])])]) (.i 0)), (.pr (.iop .sub .i64) [(.pr .slen [(.pr .scat [(.app 20 [(.lit (.string (mkS [48]))), (.pr .ite [(.gt (.pr (.iop .sub .i64) [(.pr .slen [(.pr .scat [(.c 1 .v1), (.app 20 [(.lit (.string (mkS [48]))), (.pr (.iop .sub .i64) [(.c 2 .v1), (.pr .ite [(.lt (.c 2 .v1) (.c 2 .v0)), (.c 2 .v1), (.c 2 .v0)])])])])]), (.pr .slen [(.pr .scat [(.c 1 .v0), (.app 20 [(.lit (.string (mkS [48]))), (.pr (.iop .sub .i64) [(.c 2 .v0), (.pr .ite [(.lt (.c 2 .v1) (.c 2 .v0)), (.c 2 .v1), (.c 2 .v0)])])])])])]) (.i 0)), (.pr (.iop .sub .i64) [(.pr .slen [(.pr .scat [(.c 1 .v1), (.app 20 [(.lit (.string (mkS [48]))), (.pr (.iop .sub .i64) [(.c 2 .v1), (.pr .ite [(.lt (.c 2 .v1) (.c 2 .v0)), (.c 2 .v1), (.c 2 .v0)])])])])]), (.pr .slen [(.pr .scat [(.c 1 .v0), (.app 20 [(.lit (.string (mkS [48]))), (.pr (.iop .sub .i64) [(.c 2 .v0), (.pr .ite [(.lt (.c 2 .v1) (.c 2 .v0)), (.c 2 .v1), (.c 2 .v0)])])])])])]), (.i 0)])]), (.pr .scat [(.c 1 .v0), (.app 20 [(.lit (.string (mkS [48]))), (.pr (.iop .sub .i64) [(.c 2 .v0), (.pr .ite [(.lt (.c 2 .v1) (.c 2 .v0)), (.c 2 .v1), (.c 2 .v0)])])])])])]), (.pr .slen [(.pr .scat [(.c 1 .v1), (.app 20 [(.lit (.string (mkS [48]))), (.pr (.iop .sub .i64) [(.c 2 .v1), (.pr .ite [(.lt (.c 2 .v1) (.c 2 .v0)), (.c 2 .v1), (.c 2 .v0)])])])])])]), (.i 0)])])
 (.giv (.le (.pr .slen [(.app 20 [(.lit (.string (mkS [48]))), (.pr .ite [(.gt (.pr (.iop .sub .i64) [(.pr .slen [(.pr .scat [(.app 20 [(.lit (.string (mkS [48]))), (.pr .ite [(.gt (.pr (.iop .sub .i64) [(.pr .slen [(.pr .scat [(.c 1 .v1), (.app 20 [(.lit (.string (mkS [48]))), (.pr (.iop .sub .i64) [(.c 2 .v1), (.pr .ite [(.lt (.c 2 .v1) (.c 2 .v0)), (.c 2 .v1), (.c 2 .v0)])])])])]), (.pr .slen [(.pr .scat [(.c 1 .v0), (.app 20 [(.lit (.string (mkS [48]))), (.pr (.iop .sub .i64) [(.c 2 .v0), (.pr .ite [(.lt (.c 2 .v1) (.c 2 .v0)), (.c 2 .v1), (.c 2 .v0)])])])])])]) (.i 0)), (.pr (.iop .sub .i64) [(.pr .slen [(.pr .scat [(.c 1 .v1), (.app 20 [(.lit (.string (mkS [48]))), (.pr (.iop .sub .i64) [(.c 2 .v1), (.pr .ite [(.lt (.c 2 .v1) (.c 2 .v0)), (.c 2 .v1), (.c 2 .v0)])])])])]), (.pr .slen [(.pr .scat [(.c 1 .v0), (.app 20 [(.lit (.string (mkS [48]))), (.pr (.iop .sub .i64) [(.c 2 .v0), (.pr .ite [(.lt (.c 2 .v1) (.c 2 .v0)), (.c 2 .v1), (.c 2 .v0)])])])])])]), (.i 0)])]), (.pr .scat [(.c 1 .v0), (.app 20 [(.lit (.string (mkS [48]))), (.pr (.iop .sub .i64) [(.c 2 .v0), (.pr .ite [(.lt (.c 2 .v1) (.c 2 .v0)), (.c 2 .v1), (.c 2 .v0)])])])])])]), (.pr .slen [(.pr .scat [(.c 1 .v1), (.app 20 [(.lit (.string (mkS [48]))), (.pr (.iop .sub .i64) [(.c 2 .v1), (.pr .ite [(.lt (.c 2 .v1) (.c 2 .v0)), (.c 2 .v1), (.c 2 .v0)])])])])])]) (.i 0)), (.pr (.iop .sub .i64) [(.pr .slen [(.pr .scat [(.app 20 [(.lit (.string (mkS [48]))), (.pr .ite [(.gt (.pr (.iop .sub .i64) [(.pr .slen [(.pr .scat [(.c 1 .v1), (.app 20 [(.lit (.string (mkS [48]))), (.pr (.iop .sub .i64) [(.c 2 .v1), (.pr .ite [(.lt (.c 2 .v1) (.c 2 .v0)), (.c 2 .v1), (.c 2 .v0)])])])])]), (.pr .slen [(.pr .scat [(.c 1 .v0), (.app 20 [(.lit (.string (mkS [48]))), (.pr (.iop .sub .i64) [(.c 2 .v0), (.pr .ite [(.lt (.c 2 .v1) (.c 2 .v0)), (.c 2 .v1), (.c 2 .v0)])])])])])]) (.i 0)), (.pr (.iop .sub .i64) [(.pr .slen [(.pr .scat [(.c 1 .v1), (.app 20 [(.lit (.string (mkS [48]))), (.pr (.iop .sub .i64) [(.c 2 .v1), (.pr .ite [(.lt (.c 2 .v1) (.c 2 .v0)), (.c 2 .v1), (.c 2 .v0)])])])])]), (.pr .slen [(.pr .scat [(.c 1 .v0), (.app 20 [(.lit (.string (mkS [48]))), (.pr (.iop .sub .i64) [(.c 2 .v0), (.pr .ite [(.lt (.c 2 .v1) (.c 2 .v0)), (.c 2 .v1), (.c 2 .v0)])])])])])]), (.i 0)])]), (.pr .scat [(.c 1 .v0), (.app 20 [(.lit (.string (mkS [48]))), (.pr (.iop .sub .i64) [(.c 2 .v0), (.pr .ite [(.lt (.c 2 .v1) (.c 2 .v0)), (.c 2 .v1), (.c 2 .v0)])])])])])]), (.pr .slen [(.pr .scat [(.c 1 .v1), (.app 20 [(.lit (.string (mkS [48]))), (.pr (.iop .sub .i64) [(.c 2 .v1), (.pr .ite [(.lt (.c 2 .v1) (.c 2 .v0)), (.c 2 .v1), (.c 2 .v0)])])])])])]), (.i 0)])])]) (.i 1099511627776))
 (.giv (.le (.pr .slen [(.pr .scat [(.c 1 .v1), (.app 20 [(.lit (.string (mkS [48]))), (.pr (.iop .sub .i64) [(.c 2 .v1), (.pr .ite [(.lt (.c 2 .v1) (.c 2 .v0)), (.c 2 .v1), (.c 2 .v0)])])])])]) (.i 1099511627776))
 (.rt (.pr .row [(.pr .scat [(.app 20 [(.lit (.string (mkS [48]))), (.pr .ite [(.gt (.pr (.iop .sub .i64) [(.pr .slen [(.pr .scat [(.c 1 .v1), (.app 20 [(.lit (.string (mkS [48]))), (.pr (.iop .sub .i64) [(.c 2 .v1), (.pr .ite [(.lt (.c 2 .v1) (.c 2 .v0)), (.c 2 .v1), (.c 2 .v0)])])])])]), (.pr .slen [(.pr .scat [(.c 1 .v0), (.app 20 [(.lit (.string (mkS [48]))), (.pr (.iop .sub .i64) [(.c 2 .v0), (.pr .ite [(.lt (.c 2 .v1) (.c 2 .v0)), (.c 2 .v1), (.c 2 .v0)])])])])])]) (.i 0)), (.pr (.iop .sub .i64) [(.pr .slen [(.pr .scat [(.c 1 .v1), (.app 20 [(.lit (.string (mkS [48]))), (.pr (.iop .sub .i64) [(.c 2 .v1), (.pr .ite [(.lt (.c 2 .v1) (.c 2 .v0)), (.c 2 .v1), (.c 2 .v0)])])])])]), (.pr .slen [(.pr .scat [(.c 1 .v0), (.app 20 [(.lit (.string (mkS [48]))), (.pr (.iop .sub .i64) [(.c 2 .v0), (.pr .ite [(.lt (.c 2 .v1) (.c 2 .v0)), (.c 2 .v1), (.c 2 .v0)])])])])])]), (.i 0)])]), (.pr .scat [(.c 1 .v0), (.app 20 [(.lit (.string (mkS [48]))), (.pr (.iop .sub .i64) [(.c 2 .v0), (.pr .ite [(.lt (.c 2 .v1) (.c 2 .v0)), (.c 2 .v1), (.c 2 .v0)])])])])]), (.pr .scat [(.app 20 [(.lit (.string (mkS [48]))), (.pr .ite [(.gt (.pr (.iop .sub .i64) [(.pr .slen [(.pr .scat [(.app 20 [(.lit (.string (mkS [48]))), (.pr .ite [(.gt (.pr (.iop .sub .i64) [(.pr .slen [(.pr .scat [(.c 1 .v1), (.app 20 [(.lit (.string (mkS [48]))), (.pr (.iop .sub .i64) [(.c 2 .v1), (.pr .ite [(.lt (.c 2 .v1) (.c 2 .v0)), (.c 2 .v1), (.c 2 .v0)])])])])]), (.pr .slen [(.pr .scat [(.c 1 .v0), (.app 20 [(.lit (.string (mkS [48]))), (.pr (.iop .sub .i64) [(.c 2 .v0), (.pr .ite [(.lt (.c 2 .v1) (.c 2 .v0)), (.c 2 .v1), (.c 2 .v0)])])])])])]) (.i 0)), (.pr (.iop .sub .i64) [(.pr .slen [(.pr .scat [(.c 1 .v1), (.app 20 [(.lit (.string (mkS [48]))), (.pr (.iop .sub .i64) [(.c 2 .v1), (.pr .ite [(.lt (.c 2 .v1) (.c 2 .v0)), (.c 2 .v1), (.c 2 .v0)])])])])]), (.pr .slen [(.pr .scat [(.c 1 .v0), (.app 20 [(.lit (.string (mkS [48]))), (.pr (.iop .sub .i64) [(.c 2 .v0), (.pr .ite [(.lt (.c 2 .v1) (.c 2 .v0)), (.c 2 .v1), (.c 2 .v0)])])])])])]), (.i 0)])]), (.pr .scat [(.c 1 .v0), (.app 20 [(.lit (.string (mkS [48]))), (.pr (.iop .sub .i64) [(.c 2 .v0), (.pr .ite [(.lt (.c 2 .v1) (.c 2 .v0)), (.c 2 .v1), (.c 2 .v0)])])])])])]), (.pr .slen [(.pr .scat [(.c 1 .v1), (.app 20 [(.lit (.string (mkS [48]))), (.pr (.iop .sub .i64) [(.c 2 .v1), (.pr .ite [(.lt (.c 2 .v1) (.c 2 .v0)), (.c 2 .v1), (.c 2 .v0)])])])])])]) (.i 0)), (.pr (.iop .sub .i64) [(.pr .slen [(.pr .scat [(.app 20 [(.lit (.string (mkS [48]))), (.pr .ite [(.gt (.pr (.iop .sub .i64) [(.pr .slen [(.pr .scat [(.c 1 .v1), (.app 20 [(.lit (.string (mkS [48]))), (.pr (.iop .sub .i64) [(.c 2 .v1), (.pr .ite [(.lt (.c 2 .v1) (.c 2 .v0)), (.c 2 .v1), (.c 2 .v0)])])])])]), (.pr .slen [(.pr .scat [(.c 1 .v0), (.app 20 [(.lit (.string (mkS [48]))), (.pr (.iop .sub .i64) [(.c 2 .v0), (.pr .ite [(.lt (.c 2 .v1) (.c 2 .v0)), (.c 2 .v1), (.c 2 .v0)])])])])])]) (.i 0)), (.pr (.iop .sub .i64) [(.pr .slen [(.pr .scat [(.c 1 .v1), (.app 20 [(.lit (.string (mkS [48]))), (.pr (.iop .sub .i64) [(.c 2 .v1), (.pr .ite [(.lt (.c 2 .v1) (.c 2 .v0)), (.c 2 .v1), (.c 2 .v0)])])])])]), (.pr .slen [(.pr .scat [(.c 1 .v0), (.app 20 [(.lit (.string (mkS [48]))), (.pr (.iop .sub .i64) [(.c 2 .v0), (.pr .ite [(.lt (.c 2 .v1) (.c 2 .v0)), (.c 2 .v1), (.c 2 .v0)])])])])])]), (.i 0)])]), (.pr .scat [(.c 1 .v0), (.app 20 [(.lit (.string (mkS [48]))), (.pr (.iop .sub .i64) [(.c 2 .v0), (.pr .ite [(.lt (.c 2 .v1) (.c 2 .v0)), (.c 2 .v1), (.c 2 .v0)])])])])])]), (.pr .slen [(.pr .scat [(.c 1 .v1), (.app 20 [(.lit (.string (mkS [48]))), (.pr (.iop .sub .i64) [(.c 2 .v1), (.pr .ite [(.lt (.c 2 .v1) (.c 2 .v0)), (.c 2 .v1), (.c 2 .v0)])])])])])]), (.i 0)])]), (.pr .scat [(.c 1 .v1), (.app 20 [(.lit (.string (mkS [48]))), (.pr (.iop .sub .i64) [(.c 2 .v1), (.pr .ite [(.lt (.c 2 .v1) (.c 2 .v0)), (.c 2 .v1), (.c 2 .v0)])])])])]), (.pr .ite [(.lt (.c 2 .v1) (.c 2 .v0)), (.c 2 .v1), (.c 2 .v0)])]))))))))))))))))))
def trees_level : List Tree := []
noncomputable def deps_level : List Sig := [q_repeat]
theorem ok_level : check q_level deps_level heads_level entry_level trees_level = true := by kernel_rfl
theorem level_ok (n : Nat) : @Ok (I n) q_level (@okS (I n) n q_level.g) := by
 letI := I n
 refine fn_okS (hphi n) ok_level (by
  intro q hq
  simp only [deps_level, List.mem_singleton] at hq
  subst hq
  exact repeat_ok n) (fun _ _ _ => False) (fun _ _ => 0) ?_ (fun j h t d ds hj => by simp [heads_level] at hj)
 intro ds hf hp
 obtain ⟨a, d, e, a', d', e', rfl⟩ := num_two hf
 obtain ⟨p1, p2, p3, p4, p5, p6⟩ := (pre_level n _ _ _ _ _ _).1 (hp.2 rfl)
 obtain ⟨⟨h1, h2, h3⟩⟩ := And.intro (okD_two.1 hp.1) trivial
 simp only [D.sz, D.szL] at h1
 obtain ⟨x1, x2, x3⟩ := levX_le e e'
 have hx : (if (ltI e' e = true) then e' else e) = levX e e' := by unfold levX; simp only [ltI_t]
 have hr : ∀ i : Int, 0 <= i -> i <= 1000000 -> okD n [sD (mkS [48]), iD i] := fun i _ _ => okD_two.2 ⟨by simp only [D.sz]; omega, by simp only [D.Lim]; decide, trivial⟩
 have w1 : IntKind.i64.wrap (e - levX e e') = e - levX e e' := wrap_id (by omega) (by omega)
 have w2 : IntKind.i64.wrap (e' - levX e e') = e' - levX e e' := wrap_id (by omega) (by omega)
 have s1 : (levP d e (levX e e')).size = d.size + (e - levX e e').toNat := by show (d ++ zer (IntKind.i64.wrap (e - levX e e'))).size = _; rw [cat_size, zer_size, w1]
 have s2 : (levP d' e' (levX e e')).size = d'.size + (e' - levX e e').toNat := by show (d' ++ zer (IntKind.i64.wrap (e' - levX e e'))).size = _; rw [cat_size, zer_size, w2]
 have f1 : (if e' < e then e' else e) = levX e e' := rfl
 have f2 : d ++ zer (IntKind.i64.wrap (e - levX e e')) = levP d e (levX e e') := rfl
 have f3 : d' ++ zer (IntKind.i64.wrap (e' - levX e e')) = levP d' e' (levX e e') := rfl
 have f4 : ∀ p q : ByteArray, zer (if 0 < IntKind.i64.wrap ((q.size : Int) - p.size) then IntKind.i64.wrap ((q.size : Int) - p.size) else 0) ++ p = levQ p q := fun _ _ => rfl
 simp only [entry_level, q_level, Tree.holds, Out.den, E.den, E.denL, dn, List.getD_cons_zero, List.getD_cons_succ, List.length_map, phi_1000, phi_repeat, phi_level, pre_repeat, row_at0, row_at1, row_at2, bif_iD, f1, f2, f3, f4]
 have u1 : ((e - levX e e').toNat : Int) = e - levX e e' := Int.toNat_of_nonneg (by omega)
 have u2 : ((e' - levX e e').toNat : Int) = e' - levX e e' := Int.toNat_of_nonneg (by omega)
 rw [w1, w2]
 generalize levX e e' = x at *
 have wz : ∀ a b : Nat, a <= 10000 -> b <= 10000 -> IntKind.i64.wrap ((a : Int) - b) = (a : Int) - b := fun a b _ _ => wrap_id (by omega) (by omega)
 have hm : ∀ z : Int, -10000 <= z -> z <= 2000 -> 0 <= (if 0 < z then z else 0) /\ (if 0 < z then z else 0) <= 2000 := fun z _ _ => by split <;> omega
 have q1 : (levP d e x).size <= 1000 := by omega
 have q2 : (levP d' e' x).size <= 1000 := by omega
 have s3 : (levQ (levP d e x) (levP d' e' x)).size <= 3000 := by
  rw [<- f4, cat_size, zer_size, wz _ _ (by omega) (by omega)]
  have := hm (((levP d' e' x).size : Int) - (levP d e x).size) (by omega) (by omega)
  omega
 have s4 : (levP d e x).size <= (levQ (levP d e x) (levP d' e' x)).size := by
  rw [<- f4, cat_size]; omega
 have g1 := hm (((levP d' e' x).size : Int) - (levP d e x).size) (by omega) (by omega)
 have g2 := fun h => hm (((levQ (levP d e x) (levP d' e' x)).size : Int) - (levP d' e' x).size) (by omega) h
 rw [wz _ _ (by omega) (by omega), wz _ _ (by omega) (by omega)]
 generalize levQ (levP d e x) (levP d' e' x) = R at *
 have s5 : (R.size : Int) - (levP d' e' x).size <= 3000 := by omega
 have hm' : ∀ z : Int, -10000 <= z -> z <= 3000 -> 0 <= (if 0 < z then z else 0) /\ (if 0 < z then z else 0) <= 3000 := fun z _ _ => by split <;> omega
 have g2 := hm' ((R.size : Int) - (levP d' e' x).size) (by omega) s5
 generalize (if 0 < ((levP d' e' x).size : Int) - (levP d e x).size then ((levP d' e' x).size : Int) - (levP d e x).size else 0) = M at *
 generalize (if 0 < (R.size : Int) - (levP d' e' x).size then (R.size : Int) - (levP d' e' x).size else 0) = K at *
 simp only [zer_size]
 exact ⟨hr _ (by omega) (by omega), ⟨by omega, by omega⟩, by omega, by omega, hr _ (by omega) (by omega), ⟨by omega, by omega⟩, by omega, by omega,
  hr _ (by omega) (by omega), ⟨by omega, by omega⟩, by omega, by omega, hr _ (by omega) (by omega), ⟨by omega, by omega⟩, by omega, by omega⟩
theorem lev_small {d d' : ByteArray} {e e' : Int} (p1 : d.size <= 40) (p2 : d'.size <= 40) (p3 : -400 <= e) (p4 : e <= 400) (p5 : -400 <= e') (p6 : e' <= 400) :
  (levQ (levP d e (levX e e')) (levP d' e' (levX e e'))).size <= 10000 /\ (levQ (levP d' e' (levX e e')) (levQ (levP d e (levX e e')) (levP d' e' (levX e e')))).size <= 10000 := by
 obtain ⟨x1, x2, x3⟩ := levX_le e e'
 have f4 : ∀ p q : ByteArray, zer (if 0 < IntKind.i64.wrap ((q.size : Int) - p.size) then IntKind.i64.wrap ((q.size : Int) - p.size) else 0) ++ p = levQ p q := fun _ _ => rfl
 have w1 : IntKind.i64.wrap (e - levX e e') = e - levX e e' := wrap_id (by omega) (by omega)
 have w2 : IntKind.i64.wrap (e' - levX e e') = e' - levX e e' := wrap_id (by omega) (by omega)
 have s1 : (levP d e (levX e e')).size = d.size + (e - levX e e').toNat := by show (d ++ zer (IntKind.i64.wrap (e - levX e e'))).size = _; rw [cat_size, zer_size, w1]
 have s2 : (levP d' e' (levX e e')).size = d'.size + (e' - levX e e').toNat := by show (d' ++ zer (IntKind.i64.wrap (e' - levX e e'))).size = _; rw [cat_size, zer_size, w2]
 have wz : ∀ a b : Nat, a <= 10000 -> b <= 10000 -> IntKind.i64.wrap ((a : Int) - b) = (a : Int) - b := fun a b _ _ => wrap_id (by omega) (by omega)
 have hm : ∀ z k : Int, 0 <= k -> z <= k -> 0 <= (if 0 < z then z else 0) /\ (if 0 < z then z else 0) <= k := fun z k _ _ => by split <;> omega
 have s3 : (levQ (levP d e (levX e e')) (levP d' e' (levX e e'))).size <= 3000 := by
  rw [<- f4, cat_size, zer_size, wz _ _ (by omega) (by omega)]
  have := hm (((levP d' e' (levX e e')).size : Int) - (levP d e (levX e e')).size) 1500 (by omega) (by omega)
  omega
 refine ⟨by omega, ?_⟩
 generalize levQ (levP d e (levX e e')) (levP d' e' (levX e e')) = R at *
 rw [<- f4, cat_size, zer_size, wz _ _ (by omega) (by omega)]
 have := hm ((R.size : Int) - (levP d' e' (levX e e')).size) 3000 (by omega) (by omega)
 omega
theorem numV_num {a : Bool} {d : ByteArray} {e : Int} (h : numV a d e = 0) : d.size <= 40 /\ -400 <= e /\ e <= 400 := by
 unfold numV at h
 split at h
 ·rename_i h1
  rw [h1.2.1]
  exact ⟨by decide, by omega, by omega⟩
 ·(repeat' split at h) <;> first | omega | exact ⟨by omega, by omega, by omega⟩
def heads_numcmp : List Hd := []
def entry_numcmp : Tree :=
 (.giv (.app 1000 [(.r3 .v0)])
 (.ite (.ne (.app 5 [(.r3 .v0)]) (.i 0))
 (.rt (.pr .row [(.i 0), (.i 10)]))
 (.giv (.app 1000 [(.r3 .v1)])
 (.ite (.ne (.app 5 [(.r3 .v1)]) (.i 0))
 (.rt (.pr .row [(.i 0), (.i 10)]))
 (.ite (.pr .and [(.pr (.bcmp .eql) [(.c 0 .v0), (.c 0 .v1)]), (.pr (.scmp .eql) [(.c 1 .v0), (.c 1 .v1)]), (.eq (.c 2 .v0) (.c 2 .v1))])
 (.rt (.pr .row [(.i 0), (.i 0)]))
 (.ite (.c 0 .v0)
 (.ite (.c 0 .v1)
 (.giv (.app 1000 [(.r3 .v0), (.r3 .v1)])
 (.giv (.app 2021 [(.r3 .v0), (.r3 .v1)])
 (.giv (.app 1000 [(.c 0 (.app 21 [(.r3 .v0), (.r3 .v1)])), (.c 1 (.app 21 [(.r3 .v0), (.r3 .v1)]))])
 (.rt (.pr .row [(.pr (.neg .i64) [(.app 19 [(.c 0 (.app 21 [(.r3 .v0), (.r3 .v1)])), (.c 1 (.app 21 [(.r3 .v0), (.r3 .v1)]))])]), (.i 0)])))))
 (.rt (.pr .row [(.i (-1)), (.i 0)])))
 (.ite (.c 0 .v1)
 (.rt (.pr .row [(.i 1), (.i 0)]))
 (.giv (.app 1000 [(.r3 .v0), (.r3 .v1)])
 (.giv (.app 2021 [(.r3 .v0), (.r3 .v1)])
 (.giv (.app 1000 [(.c 0 (.app 21 [(.r3 .v0), (.r3 .v1)])), (.c 1 (.app 21 [(.r3 .v0), (.r3 .v1)]))])
 (.rt (.pr .row [(.app 19 [(.c 0 (.app 21 [(.r3 .v0), (.r3 .v1)])), (.c 1 (.app 21 [(.r3 .v0), (.r3 .v1)]))]), (.i 0)]))))))))))))
def trees_numcmp : List Tree := []
noncomputable def deps_numcmp : List Sig := [q_numcheck, q_level, q_scmp]
theorem ok_numcmp : check q_numcmp deps_numcmp heads_numcmp entry_numcmp trees_numcmp = true := by kernel_rfl
theorem numcmp_ok (n : Nat) : @Ok (I n) q_numcmp (okD n) := by
 letI := I n
 refine fn_okS (hphi n) ok_numcmp (by
  intro q hq
  simp only [deps_numcmp, List.mem_cons, List.not_mem_nil, or_false] at hq
  rcases hq with rfl | rfl | rfl
  ·exact okS_of (numcheck_ok n)
  ·exact level_ok n
  ·exact okS_of (scmp_ok n)) (fun _ _ _ => False) (fun _ _ => 0) ?_ (fun j h t d ds hj => by simp [heads_numcmp] at hj)
 intro ds hf hp
 obtain ⟨a, d, e, a', d', e', rfl⟩ := num_two hf
 have h0 := okD_two.1 hp
 simp only [D.sz, D.szL, D.Lim, D.LimL, and_true, true_and] at h0
 obtain ⟨h1, h2, h3⟩ := h0
 have o1 : okD n [.row [bD a, sD d, iD e]] := okD_one.2 ⟨by simp only [D.sz, D.szL]; omega, by simp only [D.Lim, D.LimL, and_true, true_and]; exact h2⟩
 have o2 : okD n [.row [bD a', sD d', iD e']] := okD_one.2 ⟨by simp only [D.sz, D.szL]; omega, by simp only [D.Lim, D.LimL, and_true, true_and]; exact h3⟩
 have hn : D.row [D.v (.int .i64 0), D.v (.int .i64 10)] = .row [iD ((0 : Int), (10 : Int)).1, iD ((0 : Int), (10 : Int)).2] := rfl
 simp only [entry_numcmp, q_numcmp, Tree.holds, Out.den, E.den, E.denL, dn, List.getD_cons_zero, List.getD_cons_succ, List.length_map, phi_1000, phi_numcheck, phi_level, phi_scmp, phi_numcmp, pre_level, row_at0, row_at1, row_at2, o1, o2, hp, List.all_cons, List.all_nil, Bool.and_true, Bool.and_eq_true, Bool.and_eq_false_iff, beq_iff_eq, bD_inj]
 unfold numcmpV
 by_cases k1 : numV a d e = 0
 ·by_cases k2 : numV a' d' e' = 0
  ·obtain ⟨p1, p3, p4⟩ := numV_num k1
   obtain ⟨p2, p5, p6⟩ := numV_num k2
   obtain ⟨m1, m2⟩ := lev_small p1 p2 p3 p4 p5 p6
   have o3 : okD n [sD (levQ (levP d e (levX e e')) (levP d' e' (levX e e'))), sD (levQ (levP d' e' (levX e e')) (levQ (levP d e (levX e e')) (levP d' e' (levX e e'))))] :=
    okD_two.2 ⟨by rw [sz_sD, sz_sD]; omega, lim_sD.2 (by have : 10000 <= lim := (by decide); omega), lim_sD.2 (by have : 10000 <= lim := (by decide); omega)⟩
   rw [if_neg (by simp [k1]), if_neg (by simp [k2])]
   simp only [k1, k2, o3, p1, p2, p3, p4, p5, p6, not_true_eq_false, false_implies, true_implies, true_and, and_self]
   generalize cmpS _ _ = C
   cases a <;> cases a' <;> simp only [reduceCtorEq, false_implies, true_implies, true_and, false_and, and_true, if_false, if_true, Bool.false_eq_true, and_self, if_pos, false_or, or_false, not_true_eq_false, not_false_eq_true] <;> grind
  ·rw [if_neg (by simp [k1]), if_pos k2]
   simp only [k1, k2, not_true_eq_false, not_false_eq_true, false_implies, true_implies, true_and, and_true]
 ·rw [if_pos k1]
  simp only [k1, not_true_eq_false, not_false_eq_true, false_implies, true_implies, true_and, and_true]
end Go.Proofs.YtflhikakndanjaaGreatDoor.Vk
/- Contracts: the library's trims, num.made. -/
namespace Go.Proofs.YtflhikakndanjaaGreatDoor.Vk
open Go Go.Ab Go.RowKit
theorem ascii_one : ∀ (j : Nat) b, one.data.toList[j]? = some b -> b.toNat < 128 := fun j b hj => by
 have : (one.data.toList.all fun b => decide (b.toNat < 128)) = true := by decide
 have := List.all_eq_true.1 this b (List.mem_of_getElem? hj)
 simpa using this
theorem trimzero_ok (n : Nat) : @Ok (I n) q_trimzero (okD n) := by
 letI := I n
 refine ok_scalar (t := .s) rfl fun W vs ds hL ha hp => ?_
 obtain ⟨v, u, d, e, rfl, rfl, h1, h2, h3⟩ := args_two ha
 obtain ⟨s, rfl, rfl⟩ := arg_str h1
 subst h2 h3
 refine (Tryz.strings_TrimLeft_laid s one W (by decide) ascii_one).mono ?_
 rintro e W' ⟨rfl, hb⟩
 exact ⟨_, rfl, hb, phi_trimzero n s one, rfl⟩
theorem trimrzero_ok (n : Nat) : @Ok (I n) q_trimrzero (okD n) := by
 letI := I n
 refine ok_scalar (t := .s) rfl fun W vs ds hL ha hp => ?_
 obtain ⟨v, u, d, e, rfl, rfl, h1, h2, h3⟩ := args_two ha
 obtain ⟨s, rfl, rfl⟩ := arg_str h1
 subst h2 h3
 have hs := lim_sD.1 (okD_two.1 hp).2.1
 have hs : s.size <= 140737488355328 := hs
 refine (Tryz.strings_TrimRight_laid s one W (by omega) (by decide) ascii_one).mono ?_
 rintro e W' ⟨rfl, hb⟩
 exact ⟨_, rfl, hb, phi_trimrzero n s one, rfl⟩
theorem drop_len {p : UInt8 -> Bool} : ∀ (l : List UInt8), (l.dropWhile p).length <= l.length
 | [] => Nat.le_refl _
 | x :: r => by
  rw [List.dropWhile_cons]
  split
  ·have := drop_len (p := p) r; rw [List.length_cons]; omega
  ·exact Nat.le_refl _
theorem bytes_len (l : List UInt8) : (ByteArray.mk l.toArray).size = l.length := by
 show l.toArray.size = _; simp
theorem bytes_list (l : List UInt8) : (ByteArray.mk l.toArray).data.toList = l := by simp
theorem list_len (s : ByteArray) : s.data.toList.length = s.size := by rw [Array.length_toList]; rfl
theorem cutL_size (s c : ByteArray) : (cutLV s c).size <= s.size := by
 unfold cutLV Lib.trimLeftS
 rw [bytes_len, <- list_len s]
 exact drop_len _
theorem cutR_size (s c : ByteArray) : (cutRV s c).size <= s.size := by
 unfold cutRV Lib.trimRightS
 rw [bytes_len, <- list_len s, List.length_reverse]
 have := drop_len (p := fun x => c.data.toList.contains x) s.data.toList.reverse
 rw [List.length_reverse] at this
 exact this
theorem made_args {d : List D} (h : FitL tb [.cell (.sc .b), .cell (.sc .s), .cell (.sc (.i .i64))] d) : ∃ (a : Bool) (s : ByteArray) (e : Int), d = [bD a, sD s, iD e] := by
 match d, h with
 | [x, y, z], ⟨h1, h2, h3, _⟩ =>
  obtain ⟨a, rfl⟩ := fits_bool h1
  obtain ⟨s, rfl⟩ := fits_str h2
  obtain ⟨e, rfl⟩ := fits_int h3
  exact ⟨a, s, e, rfl⟩
def heads_nmade : List Hd := []
def entry_nmade : Tree :=
 (.giv (.app 1000 [.v1, (.lit (.string (mkS [48])))])
 (.ite (.pr (.scmp .eql) [(.app 78 [.v1, (.lit (.string (mkS [48])))]), (.lit (.string .empty))])
 (.rt (.pr .row [(.pr .row [(.lit (.bool false)), (.lit (.string (mkS [48]))), (.i 0)]), (.i 0)]))
 (.giv (.app 1000 [(.app 78 [.v1, (.lit (.string (mkS [48])))]), (.lit (.string (mkS [48])))])
 (.giv (.app 1000 [(.pr .row [.v0, (.app 79 [(.app 78 [.v1, (.lit (.string (mkS [48])))]), (.lit (.string (mkS [48])))]), (.pr (.iop .sub .i64) [(.pr (.iop .add .i64) [.v2, (.pr .slen [(.app 78 [.v1, (.lit (.string (mkS [48])))])])]), (.pr .slen [(.app 79 [(.app 78 [.v1, (.lit (.string (mkS [48])))]), (.lit (.string (mkS [48])))])])])])])
 (.ite (.ne (.app 5 [(.pr .row [.v0, (.app 79 [(.app 78 [.v1, (.lit (.string (mkS [48])))]), (.lit (.string (mkS [48])))]), (.pr (.iop .sub .i64) [(.pr (.iop .add .i64) [.v2, (.pr .slen [(.app 78 [.v1, (.lit (.string (mkS [48])))])])]), (.pr .slen [(.app 79 [(.app 78 [.v1, (.lit (.string (mkS [48])))]), (.lit (.string (mkS [48])))])])])])]) (.i 0))
 (.rt (.pr .row [(.pr .row [(.lit (.bool false)), (.lit (.string .empty)), (.i 0)]), (.i 2)]))
 (.rt (.pr .row [(.pr .row [.v0, (.app 79 [(.app 78 [.v1, (.lit (.string (mkS [48])))]), (.lit (.string (mkS [48])))]), (.pr (.iop .sub .i64) [(.pr (.iop .add .i64) [.v2, (.pr .slen [(.app 78 [.v1, (.lit (.string (mkS [48])))])])]), (.pr .slen [(.app 79 [(.app 78 [.v1, (.lit (.string (mkS [48])))]), (.lit (.string (mkS [48])))])])])]), (.i 0)])))))))
def trees_nmade : List Tree := []
noncomputable def deps_nmade : List Sig := [q_numcheck, q_trimzero, q_trimrzero]
theorem ok_nmade : check q_nmade deps_nmade heads_nmade entry_nmade trees_nmade = true := by kernel_rfl
theorem nmade_more (n : Nat) : @Ok (I n) q_nmade (fun ds => okD n ds /\ 10 < n) := by
 letI := I n
 refine fn_ok (hphi n) ok_nmade (by
  intro q hq
  simp only [deps_nmade, List.mem_cons, List.not_mem_nil, or_false] at hq
  rcases hq with rfl | rfl | rfl
  ·exact numcheck_ok n
  ·exact trimzero_ok n
  ·exact trimrzero_ok n) (fun _ _ _ => False) (fun _ _ => 0) ?_ (fun j h t d ds hj => by simp [heads_nmade] at hj)
 intro ds hf hp
 obtain ⟨a, s, e, rfl⟩ := made_args hf
 obtain ⟨⟨hp1, hp2⟩, hn⟩ := hp
 simp only [D.LimL, and_true] at hp2
 have hs : s.size <= lim := lim_sD.1 hp2.2.1
 have hl := cutL_size s one
 have hr := cutR_size (cutLV s one) one
 have h1 : one.size <= lim := by decide
 have o1 : okD n [sD s, sD one] := okD_two.2 ⟨by simp only [D.sz]; omega, lim_sD.2 hs, lim_sD.2 h1⟩
 have o2 : okD n [sD (cutLV s one), sD one] := okD_two.2 ⟨by simp only [D.sz]; omega, lim_sD.2 (by omega), lim_sD.2 h1⟩
 have o3 : okD n [.row [bD a, sD (cutRV (cutLV s one) one), iD (wrap (wrap (e + (cutLV s one).size) - (cutRV (cutLV s one) one).size))]] := okD_one.2 ⟨by rw [sz_row]; simp only [D.szL, D.sz]; omega, by simp only [D.Lim, D.LimL, and_true, true_and]; omega⟩
 have ho : (mkS [48]) = one := rfl
 simp only [entry_nmade, q_nmade, Tree.holds, Out.den, E.den, E.denL, dn, List.getD_cons_zero, List.getD_cons_succ, List.length_map, phi_1000, ho, phi_trimzero, phi_trimrzero, phi_numcheck, phi_nmade, o1, o2, o3]
 unfold madeV
 refine ⟨fun h => ?_, fun h => ⟨fun h' => ?_, fun h' => ?_⟩⟩
 ·rw [if_pos h]; rfl
 ·rw [if_neg h]; simp only; rw [if_neg h']; rfl
 ·rw [if_neg h]; simp only; rw [if_pos h']; rfl
theorem nmade_ok (n : Nat) : @Ok (I n) q_nmade (okD n) :=
 ok_irrel (by decide) (@Ok.less (I (n + 20)) _ _ _ (nmade_more (n + 20)) fun ds h => ⟨⟨by have := h.1; omega, h.2⟩, by omega⟩)
end Go.Proofs.YtflhikakndanjaaGreatDoor.Vk
/- Plain laws of comparisons. -/
namespace Go.Proofs.YtflhikakndanjaaGreatDoor.Vk
open Go Go.Ab Go.RowKit
end Go.Proofs.YtflhikakndanjaaGreatDoor.Vk
/- The order of values is one: plain Lean. -/
namespace Go.Proofs.YtflhikakndanjaaGreatDoor.Vk
open Go Go.Ab Go.RowKit
structure OrdAt {α : Type} (c : α -> α -> Int) (S : α -> Prop) (x : α) : Prop where
 rng : ∀ y, S y -> c x y = -1 \/ c x y = 0 \/ c x y = 1
 anti : ∀ y, S y -> c y x = - c x y
 zero : ∀ y, S y -> c x y = 0 -> x = y
 trans : ∀ y z, S y -> S z -> c x y = -1 -> c y z <= 0 -> c x z = -1
theorem cmpZ_lt {a b : Int} : cmpZ a b = -1 ↔ a < b := by unfold cmpZ; split <;> (try split) <;> omega
theorem cmpZ_eq {a b : Int} : cmpZ a b = 0 ↔ a = b := by unfold cmpZ; split <;> (try split) <;> omega
theorem cmpZ_rng (a b : Int) : cmpZ a b = -1 \/ cmpZ a b = 0 \/ cmpZ a b = 1 := by unfold cmpZ; split <;> (try split) <;> omega
theorem cmpZ_anti (a b : Int) : cmpZ b a = - cmpZ a b := by unfold cmpZ; split <;> (try split) <;> (try split) <;> omega
theorem ltb {a b : UInt8} : a < b ↔ a.toNat < b.toNat := UInt8.lt_iff_toNat_lt
theorem ord_bytes : ∀ l : List UInt8, OrdAt Lib.compareBytes (fun _ => True) l
 | [] => {
  rng := fun y _ => by cases y <;> simp [Lib.compareBytes]
  anti := fun y _ => by cases y <;> simp [Lib.compareBytes]
  zero := fun y _ h => by cases y with | nil => rfl | cons _ _ => simp [Lib.compareBytes] at h
  trans := fun y z _ _ h1 h2 => by
   cases z with
   | nil => cases y <;> simp [Lib.compareBytes] at h1 h2
   | cons _ _ => rfl }
 | a :: us => by
  have ih := ord_bytes us
  have step : ∀ (x y : UInt8) (xs ys : List UInt8), Lib.compareBytes (x :: xs) (y :: ys) = if x < y then -1 else if y < x then 1 else Lib.compareBytes xs ys := fun _ _ _ _ => rfl
  refine ⟨fun y _ => ?_, fun y _ => ?_, fun y _ h => ?_, fun y z _ _ h1 h2 => ?_⟩
  ·cases y with
   | nil => simp [Lib.compareBytes]
   | cons b bs => rw [step]; have := ih.rng bs trivial; split <;> (try split) <;> omega
  ·cases y with
   | nil => simp [Lib.compareBytes]
   | cons b bs =>
    rw [step, step]
    have := ih.anti bs trivial
    simp only [ltb]
    split <;> (try split) <;> (try split) <;> (try split) <;> omega
  ·cases y with
   | nil => simp [Lib.compareBytes] at h
   | cons b bs =>
    rw [step] at h
    simp only [ltb] at h
    split at h
    ·omega
    ·split at h
     ·omega
     ·have e : a = b := UInt8.toNat_inj.1 (by omega)
      rw [e, ih.zero bs trivial h]
  ·cases y with
   | nil => simp [Lib.compareBytes] at h1
   | cons b bs =>
    cases z with
    | nil => simp [Lib.compareBytes] at h2
    | cons c cs =>
     rw [step] at h1 h2 ⊢
     simp only [ltb] at h1 h2 ⊢
     have k1 := ih.trans bs cs trivial trivial
     by_cases e1 : a.toNat < b.toNat
     ·by_cases e2 : b.toNat < c.toNat
      ·rw [if_pos (by omega)]
      ·rw [if_neg e2] at h2
       split at h2
       ·omega
       ·rw [if_pos (by omega)]
     ·rw [if_neg e1] at h1
      split at h1
      ·omega
      ·by_cases e2 : b.toNat < c.toNat
       ·rw [if_pos (by omega)]
       ·rw [if_neg e2] at h2
        split at h2
        ·omega
        ·rw [if_neg (by omega), if_neg (by omega)]
         exact k1 h1 h2
theorem ord_cmpS (a : ByteArray) : OrdAt cmpS (fun _ => True) a where
 rng y _ := (ord_bytes a.data.toList).rng _ trivial
 anti y _ := (ord_bytes a.data.toList).anti _ trivial
 zero y _ h := ByteArray.ext (Array.toList_inj.1 ((ord_bytes a.data.toList).zero _ trivial h))
 trans y z _ _ h1 h2 := (ord_bytes a.data.toList).trans _ _ trivial trivial h1 h2
theorem OrdAt.less {α : Type} {c : α -> α -> Int} {S T : α -> Prop} {x : α} (h : OrdAt c S x) (hs : ∀ y, T y -> S y) : OrdAt c T x where
 rng y hy := h.rng y (hs y hy)
 anti y hy := h.anti y (hs y hy)
 zero y hy := h.zero y (hs y hy)
 trans y z hy hz := h.trans y z (hs y hy) (hs z hz)
theorem dvA_eq : ∀ (l : List UInt8) (acc : Nat), dvA acc l = acc * 10 ^ l.length + dv l
 | [], acc => by rw [List.length_nil, Nat.pow_zero, Nat.mul_one]; rfl
 | x :: r, acc => by
  show dvA (acc * 10 + (x.toNat - 48)) r = _ + dvA (0 * 10 + (x.toNat - 48)) r
  rw [dvA_eq r (acc * 10 + (x.toNat - 48)), dvA_eq r (0 * 10 + (x.toNat - 48)), List.length_cons, Nat.pow_succ, Nat.zero_mul, Nat.zero_add, Nat.add_mul, Nat.mul_assoc acc 10, Nat.mul_comm 10]
  omega
theorem dv_cons (x : UInt8) (r : List UInt8) : dv (x :: r) = (x.toNat - 48) * 10 ^ r.length + dv r := by
 show dvA (0 * 10 + (x.toNat - 48)) r = _
 rw [dvA_eq, Nat.zero_mul, Nat.zero_add]
theorem dv_append : ∀ (a b : List UInt8), dv (a ++ b) = dv a * 10 ^ b.length + dv b
 | [], b => by show dv b = 0 * _ + dv b; omega
 | x :: r, b => by
  rw [List.cons_append, dv_cons, dv_cons, dv_append r b, List.length_append, Nat.pow_add, Nat.add_mul, Nat.mul_assoc]
  omega
theorem dv_zeros : ∀ k, dv (List.replicate k 48) = 0
 | 0 => rfl
 | k + 1 => by rw [List.replicate_succ, dv_cons, dv_zeros k]; simp
theorem dv_lt : ∀ (l : List UInt8), Dig l -> dv l < 10 ^ l.length
 | [], _ => by show 0 < 10 ^ 0; decide
 | x :: r, h => by
  have h1 := h x (List.mem_cons_self ..)
  have h2 := dv_lt r fun y hy => h y (List.mem_cons_of_mem _ hy)
  rw [dv_cons, List.length_cons, Nat.pow_succ]
  have : (x.toNat - 48) * 10 ^ r.length <= 9 * 10 ^ r.length := Nat.mul_le_mul_right _ (by omega)
  omega
theorem cmp_dv : ∀ (a b : List UInt8), a.length = b.length -> Dig a -> Dig b -> Lib.compareBytes a b = cmpZ (dv a) (dv b)
 | [], [], _, _, _ => by simp [Lib.compareBytes, cmpZ]
 | [], _ :: _, h, _, _ => by simp at h
 | _ :: _, [], h, _, _ => by simp at h
 | x :: r, y :: t, h, ha, hb => by
  have hl : r.length = t.length := by simpa using h
  have ih := cmp_dv r t hl (fun z hz => ha z (List.mem_cons_of_mem _ hz)) (fun z hz => hb z (List.mem_cons_of_mem _ hz))
  have hx := ha x (List.mem_cons_self ..)
  have hy := hb y (List.mem_cons_self ..)
  have l1 := dv_lt r fun z hz => ha z (List.mem_cons_of_mem _ hz)
  have l2 := dv_lt t fun z hz => hb z (List.mem_cons_of_mem _ hz)
  rw [hl] at l1
  rw [dv_cons, dv_cons, hl]
  show (if x < y then -1 else if y < x then 1 else Lib.compareBytes r t) = _
  simp only [ltb]
  generalize 10 ^ t.length = T at *
  by_cases e1 : x.toNat < y.toNat
  ·rw [if_pos e1]
   have : (x.toNat - 48 + 1) * T <= (y.toNat - 48) * T := Nat.mul_le_mul_right _ (by omega)
   rw [Nat.add_mul] at this
   exact (cmpZ_lt.2 (by omega)).symm
  ·rw [if_neg e1]
   by_cases e2 : y.toNat < x.toNat
   ·rw [if_pos e2]
    have : (y.toNat - 48 + 1) * T <= (x.toNat - 48) * T := Nat.mul_le_mul_right _ (by omega)
    rw [Nat.add_mul] at this
    have := (cmpZ_lt (a := ((y.toNat - 48) * T + dv t : Nat)) (b := ((x.toNat - 48) * T + dv r : Nat))).2 (by omega)
    have h2 := cmpZ_anti (((y.toNat - 48) * T + dv t : Nat) : Int) (((x.toNat - 48) * T + dv r : Nat) : Int)
    omega
   ·rw [if_neg e2, ih]
    have e : x.toNat - 48 = y.toNat - 48 := by omega
    rw [e]
    unfold cmpZ
    split <;> split <;> (try split) <;> (try split) <;> omega
theorem bytesLess_eq : ∀ a b : List UInt8, Op.bytesLess a b = decide (Lib.compareBytes a b = -1)
 | [], [] => rfl
 | [], _ :: _ => rfl
 | _ :: _, [] => rfl
 | x :: a, y :: b => by
  have ih := bytesLess_eq a b
  have e : Lib.compareBytes (x :: a) (y :: b) = if x < y then -1 else if y < x then 1 else Lib.compareBytes a b := rfl
  show (decide (x < y) || (x == y && Op.bytesLess a b)) = _
  rw [e, ih]
  by_cases h1 : x < y
  ·rw [decide_eq_true h1, if_pos h1]; rfl
  ·rw [decide_eq_false h1, if_neg h1]
   by_cases h2 : y < x
   ·rw [if_pos h2]
    have : (x == y) = false := by
     rw [beq_eq_false_iff_ne]
     rintro rfl
     exact h1 h2
    rw [this]; rfl
   ·rw [if_neg h2]
    have : x = y := UInt8.toNat_inj.1 (by rw [ltb] at h1 h2; omega)
    subst this
    simp
theorem lessS_eq (a b : ByteArray) : lessS a b = decide (cmpS a b = -1) := by
 unfold lessS cmpS
 rw [bytesLess_eq, ByteArray.toList_eq, ByteArray.toList_eq]
end Go.Proofs.YtflhikakndanjaaGreatDoor.Vk
/- The order of values is one: numbers, values; ValueThree. -/
namespace Go.Proofs.YtflhikakndanjaaGreatDoor.Vk
open Go Go.Ab Go.RowKit
theorem all_drop {p : UInt8 -> Bool} : ∀ (l : List UInt8), (∀ x, x ∈ l.dropWhile p -> p x = true) -> ∀ x, x ∈ l -> p x = true
 | [], _, x, hx => by cases hx
 | a :: r, h, x, hx => by
  rw [List.dropWhile_cons] at h
  cases ha : p a with
  | true =>
   rw [ha, if_pos rfl] at h
   rcases List.mem_cons.1 hx with rfl | hx
   ·exact ha
   ·exact all_drop r h x hx
  | false =>
   rw [ha, if_neg (by decide)] at h
   exact h x hx
theorem dig_trim {d : ByteArray} (h : trimV d tenDigits = ByteArray.empty) : Dig d.data.toList := by
 have h1 : Lib.trimS d.data.toList tenDigits.data.toList = [] := by
  unfold trimV at h
  have := congrArg (fun b : ByteArray => b.data.toList) h
  simpa using this
 unfold Lib.trimS Lib.trimLeftS at h1
 have h2 : ∀ x, x ∈ Lib.trimRightS d.data.toList tenDigits.data.toList -> tenDigits.data.toList.contains x = true := fun x hx => by
  have := all_drop (p := (tenDigits.data.toList.contains ·)) _ (by rw [h1]; intro x hx; cases hx) x hx
  exact this
 unfold Lib.trimRightS at h2
 intro x hx
 have h3 := all_drop (p := (tenDigits.data.toList.contains ·)) d.data.toList.reverse (fun y hy => h2 y (List.mem_reverse.2 hy)) x (List.mem_reverse.2 hx)
 have h4 : ∀ y, tenDigits.data.toList.contains y = true -> 48 <= y.toNat /\ y.toNat <= 57 := by
  intro y hy
  have hy : y ∈ tenDigits.data.toList := by simpa using hy
  have hall : tenDigits.data.toList.all (fun y => decide (48 <= y.toNat /\ y.toNat <= 57)) = true := by decide
  simpa using List.all_eq_true.1 hall y hy
 exact h4 x h3
theorem canon {ng : Bool} {d : ByteArray} {e : Int} (h : numV ng d e = 0) :
  (ng = false /\ d = one /\ e = 0) \/ (Dig d.data.toList /\ (∃ x r, d.data.toList = x :: r /\ x.toNat ≠ 48) /\ (∃ r x, d.data.toList = r ++ [x] /\ x.toNat ≠ 48)) := by
 unfold numV at h
 by_cases h0 : ng = false /\ d = one /\ e = 0
 ·exact .inl h0
 rw [if_neg h0] at h
 by_cases h1 : d = ByteArray.empty
 ·rw [if_pos h1] at h; omega
 rw [if_neg h1] at h
 by_cases h2 : trimV d tenDigits = ByteArray.empty
 ·rw [if_neg (by simp [h2])] at h
  by_cases h3 : 40 < (d.size : Int)
  ·rw [if_pos h3] at h; omega
  rw [if_neg h3] at h
  by_cases h4 : (d.data.toList.getD 0 0).toNat = 48
  ·rw [if_pos h4] at h; omega
  rw [if_neg h4] at h
  by_cases h5 : d.extract (d.size - 1) d.size = one
  ·rw [if_pos h5] at h; omega
  have hn : d.data.toList ≠ [] := fun hn => h1 (ByteArray.ext (Array.toList_inj.1 (by rw [hn]; rfl)))
  refine .inr ⟨dig_trim h2, ?_, ?_⟩
  ·cases hl : d.data.toList with
   | nil => exact absurd hl hn
   | cons x r => rw [hl] at h4; exact ⟨x, r, rfl, h4⟩
  ·refine ⟨d.data.toList.dropLast, d.data.toList.getLast hn, (List.dropLast_concat_getLast hn).symm, fun hx => h5 ?_⟩
   refine ByteArray.ext (Array.toList_inj.1 ?_)
   have hd : d.data.toList = d.data.toList.dropLast ++ [d.data.toList.getLast hn] := (List.dropLast_concat_getLast hn).symm
   have hs : d.size = d.data.toList.length := by rw [Array.length_toList]; rfl
   rw [ByteArray.data_extract, Array.toList_extract, hs]
   generalize d.data.toList.getLast hn = x at *
   have hx : x = 48 := UInt8.toNat_inj.1 hx
   subst hx
   rw [hd]
   simp [List.extract]
   rfl
 ·rw [if_pos (by simp [h2])] at h; omega
abbrev kN (d : ByteArray) (e : Int) : Nat := dv d.data.toList * 10 ^ (e + 400).toNat
def keyN (t : Bool × ByteArray × Int) : Int := if t.1 then -(kN t.2.1 t.2.2 : Int) else kN t.2.1 t.2.2
def numOk (t : Bool × ByteArray × Int) : Prop := numV t.1 t.2.1 t.2.2 = 0
def numC (t u : Bool × ByteArray × Int) : Int := (numcmpV t.1 t.2.1 t.2.2 u.1 u.2.1 u.2.2).1
theorem pow_pos10 (n : Nat) : 0 < 10 ^ n := Nat.pow_pos (by decide)
theorem dv_pos {l : List UInt8} (h : ∃ x r, l = x :: r /\ x.toNat ≠ 48) (hd : Dig l) : 10 ^ (l.length - 1) <= dv l := by
 obtain ⟨x, r, rfl, hx⟩ := h
 have := hd x (List.mem_cons_self ..)
 rw [dv_cons, List.length_cons, Nat.add_sub_cancel]
 have : 1 * 10 ^ r.length <= (x.toNat - 48) * 10 ^ r.length := Nat.mul_le_mul_right _ (by omega)
 omega
theorem dig_one : Dig one.data.toList := by
 intro x hx
 have hall : one.data.toList.all (fun y => decide (48 <= y.toNat /\ y.toNat <= 57)) = true := by decide
 simpa using List.all_eq_true.1 hall x hx
theorem numOk_dig {t : Bool × ByteArray × Int} (h : numOk t) : Dig t.2.1.data.toList := by
 rcases canon h with ⟨_, h, _⟩ | ⟨h, _⟩
 ·rw [h]; exact dig_one
 ·exact h
theorem kN_zero {t : Bool × ByteArray × Int} (h : numOk t) : (kN t.2.1 t.2.2 = 0 -> t = (false, one, 0)) /\ (t.1 = true -> 0 < kN t.2.1 t.2.2) := by
 rcases canon h with ⟨h1, h2, h3⟩ | ⟨h1, h2, h3⟩
 ·exact ⟨fun _ => Prod.ext h1 (Prod.ext h2 h3), fun h => by rw [h1] at h; cases h⟩
 ·have := dv_pos h2 h1
  have p1 := pow_pos10 (t.2.1.data.toList.length - 1)
  have p2 := pow_pos10 (t.2.2 + 400).toNat
  have : 0 < kN t.2.1 t.2.2 := Nat.mul_pos (by omega) p2
  exact ⟨fun h => by omega, fun _ => this⟩
theorem cmpZ_mul {a b T : Nat} (h : 0 < T) : cmpZ ((a * T : Nat) : Int) ((b * T : Nat) : Int) = cmpZ a b := by
 have h1 : a * T < b * T ↔ a < b := Nat.mul_lt_mul_right h
 have h2 : b * T < a * T ↔ b < a := Nat.mul_lt_mul_right h
 unfold cmpZ
 simp only [Int.ofNat_lt, h1, h2]
theorem zer_list (i : Int) : (zer i).data.toList = List.replicate i.toNat 48 := by unfold zer; simp
theorem cat_list (a b : ByteArray) : (a ++ b).data.toList = a.data.toList ++ b.data.toList := by
 rw [ByteArray.data_append, Array.toList_append]
theorem dig_append {a b : List UInt8} (ha : Dig a) (hb : Dig b) : Dig (a ++ b) := fun x hx => by
 rcases List.mem_append.1 hx with h | h
 ·exact ha x h
 ·exact hb x h
theorem dig_zeros (k : Nat) : Dig (List.replicate k 48) := fun x hx => by
 obtain ⟨_, rfl⟩ := List.mem_replicate.1 hx
 decide
theorem lev_cmp {d d' : ByteArray} {e e' : Int} (g : Dig d.data.toList) (g' : Dig d'.data.toList) (p1 : d.size <= 40) (p2 : d'.size <= 40) (p3 : -400 <= e) (p4 : e <= 400) (p5 : -400 <= e') (p6 : e' <= 400) :
  cmpS (levQ (levP d e (levX e e')) (levP d' e' (levX e e'))) (levQ (levP d' e' (levX e e')) (levQ (levP d e (levX e e')) (levP d' e' (levX e e')))) = cmpZ (kN d e) (kN d' e') := by
 obtain ⟨x1, x2, x3⟩ := levX_le e e'
 have k1 : kN d e = dv d.data.toList * 10 ^ (e - levX e e').toNat * 10 ^ (levX e e' + 400).toNat := by
  rw [Nat.mul_assoc, <- Nat.pow_add]
  show _ * 10 ^ (e + 400).toNat = _
  rw [show (e + 400).toNat = (e - levX e e').toNat + (levX e e' + 400).toNat by omega]
 have k2 : kN d' e' = dv d'.data.toList * 10 ^ (e' - levX e e').toNat * 10 ^ (levX e e' + 400).toNat := by
  rw [Nat.mul_assoc, <- Nat.pow_add]
  show _ * 10 ^ (e' + 400).toNat = _
  rw [show (e' + 400).toNat = (e' - levX e e').toNat + (levX e e' + 400).toNat by omega]
 rw [k1, k2, cmpZ_mul (pow_pos10 _)]
 have f2 : levP d e (levX e e') = d ++ zer (IntKind.i64.wrap (e - levX e e')) := rfl
 have f3 : levP d' e' (levX e e') = d' ++ zer (IntKind.i64.wrap (e' - levX e e')) := rfl
 have w1 : IntKind.i64.wrap (e - levX e e') = e - levX e e' := wrap_id (by omega) (by omega)
 have w2 : IntKind.i64.wrap (e' - levX e e') = e' - levX e e' := wrap_id (by omega) (by omega)
 rw [w1] at f2
 rw [w2] at f3
 have hs : ∀ b : ByteArray, b.size = b.data.toList.length := fun b => by rw [Array.length_toList]; rfl
 have v1 : dv (levP d e (levX e e')).data.toList = dv d.data.toList * 10 ^ (e - levX e e').toNat := by
  rw [f2, cat_list, zer_list, dv_append, dv_zeros, List.length_replicate]; omega
 have v2 : dv (levP d' e' (levX e e')).data.toList = dv d'.data.toList * 10 ^ (e' - levX e e').toNat := by
  rw [f3, cat_list, zer_list, dv_append, dv_zeros, List.length_replicate]; omega
 have s1 : (levP d e (levX e e')).size <= 2000 := by rw [f2, cat_size, zer_size]; omega
 have s2 : (levP d' e' (levX e e')).size <= 2000 := by rw [f3, cat_size, zer_size]; omega
 have g1 : Dig (levP d e (levX e e')).data.toList := by rw [f2, cat_list, zer_list]; exact dig_append g (dig_zeros _)
 have g2 : Dig (levP d' e' (levX e e')).data.toList := by rw [f3, cat_list, zer_list]; exact dig_append g' (dig_zeros _)
 rw [<- v1, <- v2]
 generalize levP d e (levX e e') = P at *
 generalize levP d' e' (levX e e') = Q at *
 have wz : ∀ a b : Nat, a <= 10000 -> b <= 10000 -> IntKind.i64.wrap ((a : Int) - b) = (a : Int) - b := fun a b _ _ => wrap_id (by omega) (by omega)
 have lq : ∀ p q : ByteArray, p.size <= 10000 -> q.size <= 10000 -> (levQ p q).data.toList = List.replicate (q.size - p.size) 48 ++ p.data.toList := fun p q hp hq => by
  show (zer (if 0 < IntKind.i64.wrap ((q.size : Int) - p.size) then IntKind.i64.wrap ((q.size : Int) - p.size) else 0) ++ p).data.toList = _
  rw [cat_list, zer_list, wz _ _ hq hp]
  have : (if 0 < (q.size : Int) - p.size then (q.size : Int) - p.size else 0).toNat = q.size - p.size := by split <;> omega
  rw [this]
 have e1 := lq P Q (by omega) (by omega)
 have z1 : (levQ P Q).size = (Q.size - P.size) + P.size := by rw [hs, e1, List.length_append, List.length_replicate, <- hs]
 have e2 := lq Q (levQ P Q) (by omega) (by omega)
 unfold cmpS
 rw [cmp_dv _ _ (by rw [e1, e2, List.length_append, List.length_append, List.length_replicate, List.length_replicate, <- hs, <- hs, z1]; omega) (by rw [e1]; exact dig_append (dig_zeros _) g1) (by rw [e2]; exact dig_append (dig_zeros _) g2)]
 rw [e1, e2, dv_append, dv_append, dv_zeros, dv_zeros, Nat.zero_mul, Nat.zero_mul, Nat.zero_add, Nat.zero_add]
theorem numC_key (t u : Bool × ByteArray × Int) (ht : numOk t) (hu : numOk u) : numC t u = cmpZ (keyN t) (keyN u) := by
 obtain ⟨a, d, e⟩ := t
 obtain ⟨a', d', e'⟩ := u
 have zt := kN_zero ht
 have zu := kN_zero hu
 have k1 : numV a d e = 0 := ht
 have k2 : numV a' d' e' = 0 := hu
 obtain ⟨p1, p3, p4⟩ := numV_num k1
 obtain ⟨p2, p5, p6⟩ := numV_num k2
 have hl := lev_cmp (numOk_dig ht) (numOk_dig hu) p1 p2 p3 p4 p5 p6
 unfold numC keyN
 simp only at zt zu hl ⊢
 unfold numcmpV
 rw [if_neg (by simp [k1]), if_neg (by simp [k2])]
 simp only at hl ⊢
 by_cases he : a = a' /\ d = d' /\ e = e'
 ·obtain ⟨rfl, rfl, rfl⟩ := he
  rw [if_pos ⟨rfl, rfl, rfl⟩]
  exact (cmpZ_eq.2 rfl).symm
 rw [if_neg he]
 cases a with
 | true =>
  cases a' with
  | true =>
   rw [if_neg (by simp), if_neg (by simp), hl]
   simp only [if_true]
   have := cmpZ_anti (kN d e : Int) (kN d' e' : Int)
   have hr := cmpZ_rng (kN d e : Int) (kN d' e' : Int)
   rw [show wrap (-cmpZ (kN d e : Int) (kN d' e' : Int)) = -cmpZ (kN d e : Int) (kN d' e' : Int) from wrap_id (by omega) (by omega)]
   unfold cmpZ
   split <;> split <;> (try split) <;> (try split) <;> omega
  | false =>
   rw [if_pos (by simp)]
   simp only [if_true, Bool.false_eq_true, if_false]
   have := zt.2 rfl
   exact (cmpZ_lt.2 (by omega)).symm
 | false =>
  cases a' with
  | true =>
   rw [if_neg (by simp), if_pos (by simp)]
   simp only [if_true, Bool.false_eq_true, if_false]
   have := zu.2 rfl
   have h := cmpZ_lt (a := -(kN d' e' : Int)) (b := (kN d e : Int))
   have h2 := cmpZ_anti (-(kN d' e' : Int)) (kN d e : Int)
   have := h.2 (by omega)
   omega
  | false =>
   rw [if_neg (by simp), if_neg (by simp), hl]
   simp only [Bool.false_eq_true, if_false]
end Go.Proofs.YtflhikakndanjaaGreatDoor.Vk
/- Plain laws of numbers: digits, what is made of them, sums. -/
namespace Go.Proofs.YtflhikakndanjaaGreatDoor.Vk
open Go Go.Ab Go.RowKit
theorem wrapN {i : Int} (h0 : -4611686018427387904 <= i) (h : i <= 4611686018427387904) : wrap i = i := wrap_id (by omega) (by omega)
theorem digs_zero : digs 0 = [] := by rw [digs]; rfl
theorem digs_pos {n : Nat} (h : n ≠ 0) : digs n = digs (n / 10) ++ [UInt8.ofNat (48 + n % 10)] := by rw [digs, if_neg h]
theorem dig_byte {b : Nat} (h : b < 10) : (UInt8.ofNat (48 + b)).toNat = 48 + b := by
 rw [UInt8.toNat_ofNat']; omega
theorem digs_dig : ∀ n, Dig (digs n) := by
 intro n
 induction n using Nat.strongRecOn with
 | ind n ih =>
  by_cases h : n = 0
  ·rw [h, digs_zero]; intro x hx; cases hx
  ·rw [digs_pos h]
   refine dig_append (ih _ (by omega)) fun x hx => ?_
   rw [List.mem_singleton] at hx
   rw [hx, dig_byte (by omega)]; omega
theorem dv_digs : ∀ n, dv (digs n) = n := by
 intro n
 induction n using Nat.strongRecOn with
 | ind n ih =>
  by_cases h : n = 0
  ·rw [h, digs_zero]; rfl
  ·rw [digs_pos h, dv_append, ih _ (by omega), dv_cons, dig_byte (by omega)]
   show n / 10 * 10 ^ 1 + ((48 + n % 10 - 48) * 10 ^ 0 + 0) = n
   omega
theorem digs_nil {n : Nat} : digs n = [] ↔ n = 0 := by
 constructor
 ·intro h
  have := dv_digs n
  rw [h] at this
  exact this.symm
 ·intro h; rw [h, digs_zero]
theorem isOne (x : UInt8) : one.data.toList.contains x = decide (x = 48) := by
 show [(48 : UInt8)].contains x = _
 rw [Bool.eq_iff_iff]; simp
theorem snoc_ind {α : Type} {p : List α -> Prop} (h0 : p []) (h1 : ∀ l x, p l -> p (l ++ [x])) : ∀ l, p l := by
 have : ∀ l : List α, p l.reverse := by
  intro l
  induction l with
  | nil => exact h0
  | cons x r ih => rw [List.reverse_cons]; exact h1 _ _ ih
 intro l
 have := this l.reverse
 rwa [List.reverse_reverse] at this
theorem drop_snoc {α : Type} {p : α -> Bool} (l : List α) (x : α) : (l ++ [x]).dropWhile p = if l.dropWhile p = [] then [x].dropWhile p else l.dropWhile p ++ [x] := by
 induction l with
 | nil => rfl
 | cons y r ih =>
  rw [List.cons_append, List.dropWhile_cons, List.dropWhile_cons]
  split
  ·exact ih
  ·rw [if_neg (by simp)]; rfl
theorem drop_digs (l : List UInt8) : Dig l -> Lib.trimLeftS l one.data.toList = digs (dv l) := by
 unfold Lib.trimLeftS
 induction l using snoc_ind with
 | h0 => intro _; rw [show dv [] = 0 from rfl, digs_zero]; rfl
 | h1 l x ih =>
  intro hd
  have hl : Dig l := fun y hy => hd y (List.mem_append_left _ hy)
  have hx := hd x (List.mem_append_right _ (List.mem_singleton.2 rfl))
  rw [drop_snoc, ih hl, dv_append, dv_cons]
  have e : dv l * 10 ^ [x].length + ((x.toNat - 48) * 10 ^ ([] : List UInt8).length + dv []) = dv l * 10 + (x.toNat - 48) := by
   show dv l * 10 ^ 1 + ((x.toNat - 48) * 10 ^ 0 + 0) = _
   omega
  rw [e]
  have hb : UInt8.ofNat (48 + (x.toNat - 48)) = x := by
   apply UInt8.toNat_inj.1
   rw [dig_byte (by omega)]; omega
  by_cases h0 : dv l = 0
  ·rw [if_pos (digs_nil.2 h0), h0, List.dropWhile_cons, isOne]
   by_cases c : x = 48
   ·rw [if_pos (by simpa using c), c]
    show [] = digs (0 * 10 + (48 - 48))
    rw [show 0 * 10 + (48 - 48) = 0 from rfl, digs_zero]
   ·rw [if_neg (by simpa using c)]
    have c' : x.toNat ≠ 48 := fun h => c (UInt8.toNat_inj.1 h)
    rw [digs_pos (n := 0 * 10 + (x.toNat - 48)) (by omega), show (0 * 10 + (x.toNat - 48)) / 10 = 0 by omega, digs_zero, show (0 * 10 + (x.toNat - 48)) % 10 = x.toNat - 48 by omega, hb]
    rfl
  ·rw [if_neg (fun h => h0 (digs_nil.1 h)), digs_pos (n := dv l * 10 + (x.toNat - 48)) (by omega), show (dv l * 10 + (x.toNat - 48)) / 10 = dv l by omega, show (dv l * 10 + (x.toNat - 48)) % 10 = x.toNat - 48 by omega, hb]
theorem cutL_digs {s : ByteArray} (h : Dig s.data.toList) : cutLV s one = ⟨(digs (dv s.data.toList)).toArray⟩ := by
 unfold cutLV; rw [drop_digs _ h]
theorem made_dv {ng ng' : Bool} {s : ByteArray} {m : Nat} {e : Int} (h : Dig s.data.toList) (hm : dv s.data.toList = m) (hn : m ≠ 0 -> ng = ng') : madeV ng s e = madeV ng' ⟨(digs m).toArray⟩ e := by
 unfold madeV
 have h1 := cutL_digs h
 have h2 : cutLV ⟨(digs m).toArray⟩ one = ⟨(digs m).toArray⟩ := by
  have := cutL_digs (s := ⟨(digs m).toArray⟩) (by rw [bytes_list]; exact digs_dig m)
  rw [this, bytes_list, dv_digs]
 rw [hm] at h1
 rw [h1, h2]
 by_cases h0 : m = 0
 ·have e0 : (⟨([] : List UInt8).toArray⟩ : ByteArray) = ByteArray.empty := rfl
  rw [h0, digs_zero, if_pos e0, if_pos e0]
 ·rw [hn h0]
theorem digs_mul {m : Nat} (h : m ≠ 0) : ∀ j, digs (m * 10 ^ j) = digs m ++ List.replicate j 48
 | 0 => by simp
 | j + 1 => by
  have hp := pow_pos10 j
  have : m * 10 ^ (j + 1) = m * 10 ^ j * 10 := by rw [Nat.pow_succ, Nat.mul_assoc]
  have h1 : m * 10 ^ j ≠ 0 := Nat.mul_ne_zero h (by omega)
  rw [this, digs_pos (by omega), Nat.mul_div_cancel _ (by decide), Nat.mul_mod_left, digs_mul h j, List.replicate_succ', List.append_assoc]
  rfl
theorem trimR_zeros (l : List UInt8) (j : Nat) : Lib.trimRightS (l ++ List.replicate j 48) one.data.toList = Lib.trimRightS l one.data.toList := by
 unfold Lib.trimRightS
 rw [List.reverse_append, List.reverse_replicate]
 congr 1
 induction j with
 | zero => rfl
 | succ j ih => rw [List.replicate_succ, List.cons_append, List.dropWhile_cons, if_pos (by decide)]; exact ih
theorem digs_ne {m : Nat} (h : m ≠ 0) : (⟨(digs m).toArray⟩ : ByteArray) ≠ ByteArray.empty := fun e => by
 have := congrArg (fun b : ByteArray => b.data.toList) e
 simp only [bytes_list] at this
 exact h (digs_nil.1 this)
theorem cutL_self (m : Nat) : cutLV ⟨(digs m).toArray⟩ one = ⟨(digs m).toArray⟩ := by
 have := cutL_digs (s := ⟨(digs m).toArray⟩) (by rw [bytes_list]; exact digs_dig m)
 rw [this, bytes_list, dv_digs]
theorem made_shift {ng : Bool} {m j : Nat} {e : Int} (h : m ≠ 0) (hj : j <= 100000) (he : -100000 <= e /\ e <= 100000) (hl : (digs m).length <= 100000) : madeV ng ⟨(digs (m * 10 ^ j)).toArray⟩ e = madeV ng ⟨(digs m).toArray⟩ (e + j) := by
 have hp := pow_pos10 j
 have h1 : m * 10 ^ j ≠ 0 := Nat.mul_ne_zero h (by omega)
 unfold madeV
 rw [cutL_self, cutL_self, if_neg (digs_ne h1), if_neg (digs_ne h)]
 have e1 : cutRV ⟨(digs (m * 10 ^ j)).toArray⟩ one = cutRV ⟨(digs m).toArray⟩ one := by
  unfold cutRV
  rw [bytes_list, bytes_list, digs_mul h, trimR_zeros]
 have hr := cutR_size ⟨(digs m).toArray⟩ one
 rw [bytes_len] at hr
 simp only [e1, bytes_len]
 have e2 : (digs (m * 10 ^ j)).length = (digs m).length + j := by rw [digs_mul h, List.length_append, List.length_replicate]
 rw [e2, wrapN (i := e + (((digs m).length + j : Nat) : Int)) (by omega) (by omega), wrapN (i := e + j + ((digs m).length : Int)) (by omega) (by omega)]
 have : e + (((digs m).length + j : Nat) : Int) - ((cutRV ⟨(digs m).toArray⟩ one).size : Int) = e + j + ((digs m).length : Int) - ((cutRV ⟨(digs m).toArray⟩ one).size : Int) := by omega
 rw [this]
def mkN (k : Int) : NumT × Int := madeV (decide (k < 0)) ⟨(digs k.natAbs).toArray⟩ (-400)
theorem digs_len {m k : Nat} (h : m < 10 ^ k) : (digs m).length <= k := by
 by_cases h0 : m = 0
 ·rw [h0, digs_zero]; exact Nat.zero_le _
 ·have h1 : 10 ^ ((digs m).length - 1) <= dv (digs m) := by
   refine dv_pos ?_ (digs_dig m)
   have := drop_digs (digs m) (digs_dig m)
   rw [dv_digs] at this
   cases hd : digs m with
   | nil => exact absurd (digs_nil.1 hd) h0
   | cons x r =>
    refine ⟨x, r, rfl, fun hx => ?_⟩
    rw [hd] at this
    unfold Lib.trimLeftS at this
    have hx : x = 48 := UInt8.toNat_inj.1 hx
    rw [List.dropWhile_cons, if_pos (by rw [isOne]; simpa using hx)] at this
    have h2 := drop_len (p := fun x => one.data.toList.contains x) r
    rw [this, List.length_cons] at h2
    omega
  rw [dv_digs] at h1
  apply Classical.byContradiction
  intro hk
  have : 10 ^ k <= 10 ^ ((digs m).length - 1) := Nat.pow_le_pow_right (by decide) (by omega)
  omega
theorem made_zero (ng : Bool) (e : Int) : madeV ng ⟨(digs 0).toArray⟩ e = (zeroT, 0) := by
 unfold madeV
 rw [cutL_self, if_pos (by show (⟨(digs 0).toArray⟩ : ByteArray) = _; rw [digs_zero]; rfl)]
theorem val_key {t : NumT} {x : Int} (h0 : -400 <= x) (h1 : x <= t.2.2) : keyN t = valX t x * ((10 ^ (x + 400).toNat : Nat) : Int) := by
 have e : (t.2.2 + 400).toNat = (t.2.2 - x).toNat + (x + 400).toNat := by omega
 unfold keyN valX kN
 rw [e, Nat.pow_add, <- Nat.mul_assoc]
 cases t.1 with
 | true => simp only [if_true, Int.neg_mul, Int.natCast_mul]
 | false => simp only [Bool.false_eq_true, if_false, Int.natCast_mul]
/- Exponents that nobody works out. -/
def e40 : Nat := 40
def e800 : Nat := 800
def e840 : Nat := 840
def e2000 : Nat := 2000
theorem key_one (e : Int) : keyN (false, one, e) = 0 := by
 have h : dv one.data.toList = 0 := rfl
 unfold keyN kN
 simp only [Bool.false_eq_true, if_false, h, Nat.zero_mul]
 rfl
theorem key_zero : keyN zeroT = 0 := key_one 0
theorem val_lt {t : NumT} {x : Int} (h : numOk t) (h0 : -400 <= x) (h1 : x <= t.2.2) : (valX t x).natAbs < 10 ^ e840 := by
 obtain ⟨b1, b2, b3⟩ := numV_num h
 have hd := dv_lt _ (numOk_dig h)
 rw [list_len] at hd
 have h2 : dv t.2.1.data.toList < 10 ^ e40 := Nat.lt_of_lt_of_le hd (Nat.pow_le_pow_right (by decide) b1)
 have hx : (t.2.2 - x).toNat <= 800 := by clear hd h2; omega
 have h3 : 10 ^ (t.2.2 - x).toNat <= 10 ^ e800 := Nat.pow_le_pow_right (by decide) hx
 have h4 : dv t.2.1.data.toList * 10 ^ (t.2.2 - x).toNat < 10 ^ e40 * 10 ^ e800 := Nat.lt_of_lt_of_le (Nat.mul_lt_mul_of_pos_right h2 (pow_pos10 _)) (Nat.mul_le_mul_left _ h3)
 have e : (valX t x).natAbs = dv t.2.1.data.toList * 10 ^ (t.2.2 - x).toNat := by
  unfold valX
  cases t.1 with
  | true => rw [if_pos rfl, Int.natAbs_neg, Int.natAbs_natCast]
  | false => rw [if_neg (by simp), Int.natAbs_natCast]
 rw [e, show e840 = e40 + e800 from rfl, Nat.pow_add]
 exact h4
theorem lt_pow {a b k : Nat} (ha : a < 10 ^ k) (hb : b < 10 ^ k) : a + b < 10 ^ (k + 1) := by
 rw [Nat.pow_succ]; omega
theorem add_mk {t u : NumT} (ht : numOk t) (hu : numOk u) : addV t u = mkN (keyN t + keyN u) := by
 obtain ⟨_, b2, b3⟩ := numV_num ht
 obtain ⟨_, c2, c3⟩ := numV_num hu
 obtain ⟨l1, l2, l3⟩ := levX_le t.2.2 u.2.2
 have hx : -400 <= levX t.2.2 u.2.2 /\ levX t.2.2 u.2.2 <= 400 := by omega
 have k1 := val_key hx.1 l1
 have k2 := val_key hx.1 l2
 have v1 := val_lt ht hx.1 l1
 have v2 := val_lt hu hx.1 l2
 unfold addV
 rw [if_neg (show ¬ ¬ formN t = 0 from fun h => h ht), if_neg (show ¬ ¬ formN u = 0 from fun h => h hu)]
 simp only
 rw [k1, k2, <- Int.add_mul]
 generalize valX t (levX t.2.2 u.2.2) = A at *
 generalize valX u (levX t.2.2 u.2.2) = B at *
 generalize levX t.2.2 u.2.2 = x at *
 have hS : (A + B).natAbs < 10 ^ (e840 + 1) := Nat.lt_of_le_of_lt (Int.natAbs_add_le A B) (lt_pow v1 v2)
 clear v1 v2 k1 k2
 generalize A + B = S at *
 have hp := pow_pos10 (x + 400).toNat
 unfold mkN
 have hsg : decide (S * ((10 ^ (x + 400).toNat : Nat) : Int) < 0) = decide (S < 0) := by
  rw [decide_eq_decide]
  constructor
  ·intro h
   apply Classical.byContradiction
   intro hn
   have : 0 <= S * ((10 ^ (x + 400).toNat : Nat) : Int) := Int.mul_nonneg (by omega) (by omega)
   omega
  ·intro h
   exact Int.mul_neg_of_neg_of_pos h (by omega)
 rw [hsg, Int.natAbs_mul, Int.natAbs_natCast]
 by_cases h0 : S = 0
 ·rw [h0]
  show madeV _ ⟨(digs 0).toArray⟩ _ = madeV _ ⟨(digs (0 * _)).toArray⟩ _
  rw [Nat.zero_mul, made_zero, made_zero]
 ·rw [made_shift (by omega) (by omega) (by omega) (Nat.le_trans (digs_len hS) (by decide))]
  rw [show (-400 : Int) + ((x + 400).toNat : Int) = x by omega]
theorem trimR_split (l : List UInt8) : ∃ z, l = Lib.trimRightS l one.data.toList ++ List.replicate z 48 := by
 induction l using snoc_ind with
 | h0 => exact ⟨0, rfl⟩
 | h1 l x ih =>
  by_cases c : x = 48
  ·obtain ⟨z, hz⟩ := ih
   refine ⟨z + 1, ?_⟩
   have h1 : Lib.trimRightS (l ++ [48]) one.data.toList = Lib.trimRightS l one.data.toList := trimR_zeros l 1
   rw [c, h1, List.replicate_succ', <- List.append_assoc, <- hz]
  ·refine ⟨0, ?_⟩
   unfold Lib.trimRightS
   rw [List.reverse_append, List.reverse_singleton, List.singleton_append, List.dropWhile_cons, if_neg (by rw [isOne]; simpa using c), List.reverse_cons, List.reverse_reverse]
   simp
theorem mk_key {k : Int} {t : NumT} (hk : k.natAbs < 10 ^ e2000) (h : mkN k = (t, 0)) : numOk t /\ keyN t = k := by
 unfold mkN at h
 by_cases h0 : k = 0
 ·rw [h0] at h ⊢
  have h : madeV (decide ((0 : Int) < 0)) ⟨(digs 0).toArray⟩ (-400) = (t, 0) := h
  rw [made_zero] at h
  cases h
  exact ⟨rfl, key_zero⟩
 ·have hm : k.natAbs ≠ 0 := by omega
  have hl := digs_len hk
  have hl : (digs k.natAbs).length <= 2000 := hl
  clear hk
  unfold madeV at h
  rw [cutL_self, if_neg (digs_ne hm)] at h
  simp only at h
  split at h
  ·rename_i hf
   cases h
   refine ⟨hf, ?_⟩
   obtain ⟨z, hz⟩ := trimR_split (digs k.natAbs)
   have hr : (cutRV ⟨(digs k.natAbs).toArray⟩ one).data.toList = Lib.trimRightS (digs k.natAbs) one.data.toList := by
    unfold cutRV; rw [bytes_list, bytes_list]
   have hsz : (cutRV ⟨(digs k.natAbs).toArray⟩ one).size = (Lib.trimRightS (digs k.natAbs) one.data.toList).length := by rw [<- list_len, hr]
   have hlen : (digs k.natAbs).length = (Lib.trimRightS (digs k.natAbs) one.data.toList).length + z := by
    have := congrArg List.length hz
    rwa [List.length_append, List.length_replicate] at this
   have hdv : k.natAbs = dv (Lib.trimRightS (digs k.natAbs) one.data.toList) * 10 ^ z := by
    have := congrArg dv hz
    rw [dv_digs, dv_append, dv_zeros, List.length_replicate] at this
    omega
   rw [bytes_len, hsz, wrapN (i := -400 + ((digs k.natAbs).length : Int)) (by omega) (by omega), wrapN (by omega) (by omega)]
   unfold keyN kN
   simp only
   rw [hr, show (-400 + ((digs k.natAbs).length : Int) - ((Lib.trimRightS (digs k.natAbs) one.data.toList).length : Int) + 400).toNat = z by omega, <- hdv]
   by_cases hneg : k < 0
   ·rw [decide_eq_true hneg, if_pos rfl]; omega
   ·rw [decide_eq_false hneg, if_neg (by simp)]; omega
  ·cases h
theorem trimR_last {l r : List UInt8} {x : UInt8} (h : l = r ++ [x]) (hx : x.toNat ≠ 48) : Lib.trimRightS l one.data.toList = l := by
 unfold Lib.trimRightS
 have hc : ¬ (x = 48) := fun e => hx (by rw [e]; rfl)
 rw [h, List.reverse_append, List.reverse_singleton, List.singleton_append, List.dropWhile_cons, if_neg (by rw [isOne]; simpa using hc), List.reverse_cons, List.reverse_reverse]
theorem key_lt {t : NumT} (h : numOk t) : (keyN t).natAbs < 10 ^ e840 := by
 obtain ⟨b1, b2, b3⟩ := numV_num h
 have := val_lt h (x := -400) (by omega) b2
 rw [val_key (x := -400) (by omega) b2]
 simpa using this
theorem add_some {t u r : NumT} (ht : numOk t) (hu : numOk u) (h : addV t u = (r, 0)) : numOk r /\ keyN r = keyN t + keyN u := by
 rw [add_mk ht hu] at h
 refine mk_key ?_ h
 have h1 := key_lt ht
 have h2 := key_lt hu
 have h3 : 10 ^ (e840 + 1) <= 10 ^ e2000 := Nat.pow_le_pow_right (by decide) (by decide)
 exact Nat.lt_of_le_of_lt (Int.natAbs_add_le _ _) (Nat.lt_of_lt_of_le (lt_pow h1 h2) h3)
theorem add_bad {t u : NumT} (h : ¬ (numOk t /\ numOk u)) : addV t u = (noNumT, 10) := by
 unfold addV
 by_cases ht : numOk t
 ·by_cases hu : numOk u
  ·exact absurd ⟨ht, hu⟩ h
  ·rw [if_neg (show ¬ ¬ formN t = 0 from fun h => h ht), if_pos (show ¬ formN u = 0 from hu)]
 ·rw [if_pos (show ¬ formN t = 0 from ht)]
end Go.Proofs.YtflhikakndanjaaGreatDoor.Vk
/- Contract: num.Add. -/
namespace Go.Proofs.YtflhikakndanjaaGreatDoor.Vk
open Go Go.Ab Go.RowKit
theorem wrapI {i : Int} (h0 : -4611686018427387904 <= i) (h : i <= 4611686018427387904) : IntKind.i64.wrap i = i := wrap_id (by omega) (by omega)
theorem bytes_rep (k : Nat) : Prim.rep.den [iD (k : Int), .row [.v (.int .u8 0)]] = bytesD (List.replicate k 0) := by
 show D.lst (List.replicate k _) = _
 unfold bytesD
 rw [List.map_replicate]; rfl
theorem bytes_upd (l : List UInt8) (j : Nat) (v : Int) (h0 : 0 <= v) (h1 : v < 256) : Prim.upd.den [bytesD l, iD (j : Int), .row [.v (.int .u8 v)]] = bytesD (l.set j (UInt8.ofNat v.toNat)) := by
 show D.lst ((l.map _).set j _) = _
 unfold bytesD
 rw [List.map_set, UInt8.toNat_ofNat']
 have : (((v.toNat % 2 ^ 8 : Nat)) : Int) = v := by omega
 rw [this]
theorem bytes_rows (l : List UInt8) : (bytesD l).rows.length = l.length := by
 show (l.map _).length = _; rw [List.length_map]
theorem push_all : ∀ (l : List UInt8) (acc : ByteArray), (l.map fun c => D.row [.v (.int .u8 c.toNat)]).foldl (fun r d => r.push (UInt8.ofNat (d.cells.getD 0 .nil).int.toNat)) acc = acc ++ ⟨l.toArray⟩
 | [], acc => by
  apply ByteArray.ext
  rw [ByteArray.data_append]; simp
 | c :: r, acc => by
  rw [List.map_cons, List.foldl_cons, push_all r]
  have : (UInt8.ofNat (((D.row [.v (.int .u8 c.toNat)]).cells.getD 0 .nil).int.toNat)) = c := by
   show UInt8.ofNat c.toNat = c
   exact UInt8.ofNat_toNat
  rw [this]
  apply ByteArray.ext
  rw [ByteArray.data_append, ByteArray.data_append, ByteArray.data_push]
  apply Array.toList_inj.1
  simp
theorem bytes_text (l : List UInt8) (a : Nat) (b : Int) (h : (l.length : Int) = b) : Prim.sofl.den [Prim.sub.den [bytesD l, iD (a : Int), iD b]] = sD ⟨(l.drop a).toArray⟩ := by
 subst h
 show D.ofStr ((((l.map _).take l.length).drop a).foldl _ .empty) = _
 rw [List.take_of_length_le (by rw [List.length_map]; omega), <- List.map_drop, push_all]
 show D.v (.string _) = D.v (.string _)
 congr 2
theorem set_drop (l : List UInt8) (j : Nat) (c : UInt8) (h : j < l.length) : (l.set j c).drop j = c :: l.drop (j + 1) := by
 rw [List.drop_eq_getElem_cons (by rw [List.length_set]; exact h), List.getElem_set_self, List.drop_set_of_lt (by omega)]
theorem wrap8 {i : Int} (h0 : 0 <= i) (h : i < 256) : IntKind.u8.wrap i = i := by
 unfold IntKind.wrap
 have e : (2 ^ IntKind.u8.bits : Int) = 256 := rfl
 have e3 : IntKind.u8.signed = false := rfl
 simp only [e, e3, Bool.false_and, Bool.false_eq_true, if_false]
 omega
theorem lev_vals {d d' : ByteArray} {e e' : Int} (g : Dig d.data.toList) (g' : Dig d'.data.toList) (p1 : d.size <= 40) (p2 : d'.size <= 40) (p3 : -400 <= e) (p4 : e <= 400) (p5 : -400 <= e') (p6 : e' <= 400) :
  (levQ (levP d e (levX e e')) (levP d' e' (levX e e'))).size = (levQ (levP d' e' (levX e e')) (levQ (levP d e (levX e e')) (levP d' e' (levX e e')))).size /\
  (levQ (levP d e (levX e e')) (levP d' e' (levX e e'))).size <= 840 /\ Dig (levQ (levP d e (levX e e')) (levP d' e' (levX e e'))).data.toList /\ Dig (levQ (levP d' e' (levX e e')) (levQ (levP d e (levX e e')) (levP d' e' (levX e e')))).data.toList /\
  dv (levQ (levP d e (levX e e')) (levP d' e' (levX e e'))).data.toList = dv d.data.toList * 10 ^ (e - levX e e').toNat /\ dv (levQ (levP d' e' (levX e e')) (levQ (levP d e (levX e e')) (levP d' e' (levX e e')))).data.toList = dv d'.data.toList * 10 ^ (e' - levX e e').toNat := by
 obtain ⟨x1, x2, x3⟩ := levX_le e e'
 have f2 : levP d e (levX e e') = d ++ zer (IntKind.i64.wrap (e - levX e e')) := rfl
 have f3 : levP d' e' (levX e e') = d' ++ zer (IntKind.i64.wrap (e' - levX e e')) := rfl
 have w1 : IntKind.i64.wrap (e - levX e e') = e - levX e e' := wrap_id (by omega) (by omega)
 have w2 : IntKind.i64.wrap (e' - levX e e') = e' - levX e e' := wrap_id (by omega) (by omega)
 rw [w1] at f2
 rw [w2] at f3
 have v1 : dv (levP d e (levX e e')).data.toList = dv d.data.toList * 10 ^ (e - levX e e').toNat := by
  rw [f2, cat_list, zer_list, dv_append, dv_zeros, List.length_replicate]; omega
 have v2 : dv (levP d' e' (levX e e')).data.toList = dv d'.data.toList * 10 ^ (e' - levX e e').toNat := by
  rw [f3, cat_list, zer_list, dv_append, dv_zeros, List.length_replicate]; omega
 have s1 : (levP d e (levX e e')).size <= 840 := by rw [f2, cat_size, zer_size]; omega
 have s2 : (levP d' e' (levX e e')).size <= 840 := by rw [f3, cat_size, zer_size]; omega
 have g1 : Dig (levP d e (levX e e')).data.toList := by rw [f2, cat_list, zer_list]; exact dig_append g (dig_zeros _)
 have g2 : Dig (levP d' e' (levX e e')).data.toList := by rw [f3, cat_list, zer_list]; exact dig_append g' (dig_zeros _)
 rw [<- v1, <- v2]
 generalize levP d e (levX e e') = P at *
 generalize levP d' e' (levX e e') = Q at *
 have wz : ∀ a b : Nat, a <= 10000 -> b <= 10000 -> IntKind.i64.wrap ((a : Int) - b) = (a : Int) - b := fun a b _ _ => wrap_id (by omega) (by omega)
 have lq : ∀ p q : ByteArray, p.size <= 10000 -> q.size <= 10000 -> (levQ p q).data.toList = List.replicate (q.size - p.size) 48 ++ p.data.toList := fun p q hp hq => by
  show (zer (if 0 < IntKind.i64.wrap ((q.size : Int) - p.size) then IntKind.i64.wrap ((q.size : Int) - p.size) else 0) ++ p).data.toList = _
  rw [cat_list, zer_list, wz _ _ hq hp]
  have : (if 0 < (q.size : Int) - p.size then (q.size : Int) - p.size else 0).toNat = q.size - p.size := by split <;> omega
  rw [this]
 have e1 := lq P Q (by omega) (by omega)
 have z1 : (levQ P Q).size = (Q.size - P.size) + P.size := by rw [<- list_len, e1, List.length_append, List.length_replicate, list_len]
 have e2 := lq Q (levQ P Q) (by omega) (by omega)
 have z2 : (levQ Q (levQ P Q)).size = ((levQ P Q).size - Q.size) + Q.size := by rw [<- list_len, e2, List.length_append, List.length_replicate, list_len]
 refine ⟨by omega, by omega, by rw [e1]; exact dig_append (dig_zeros _) g1, by rw [e2]; exact dig_append (dig_zeros _) g2, ?_, ?_⟩
 ·rw [e1, dv_append, dv_zeros]; omega
 ·rw [e2, dv_append, dv_zeros]; omega
theorem dv_drop {l : List UInt8} {j k : Nat} {x : UInt8} (hx : l[j]? = some x) (hk : j + 1 + k = l.length) : dv (l.drop j) = (x.toNat - 48) * 10 ^ k + dv (l.drop (j + 1)) := by
 have hj : j < l.length := by omega
 rw [List.drop_eq_getElem_cons hj]
 have : l[j] = x := by rw [List.getElem?_eq_getElem hj] at hx; exact Option.some.inj hx
 rw [this, dv_cons, List.length_drop]
 congr 3
 omega
theorem dig_at {l : List UInt8} (h : Dig l) {j : Nat} {x : UInt8} (hx : l[j]? = some x) : 48 <= x.toNat /\ x.toNat <= 57 := h x (List.mem_of_getElem? hx)
theorem step_sum {T B C p q sg c c' v o : Int} (hsg : sg = 1 \/ sg = -1) (h : o + c * T = B + sg * C) (hv : v = c + (p + sg * q) - 10 * c') : (v * T + o) + c' * (T * 10) = (p * T + B) + sg * (q * T + C) := by
 subst hv
 rcases hsg with rfl | rfl <;> grind
def sumD (ng : Bool) (m : Nat) (x : Int) : D := .row [numD (madeV ng ⟨(digs m).toArray⟩ x).1, iD (madeV ng ⟨(digs m).toArray⟩ x).2]
theorem num_at0 (t : NumT) : cellAt (numD t) 0 = bD t.1 := rfl
theorem num_at1 (t : NumT) : cellAt (numD t) 1 = sD t.2.1 := rfl
theorem num_at2 (t : NumT) : cellAt (numD t) 2 = iD t.2.2 := rfl
theorem num_put (t : NumT) : D.row [bD t.1, sD t.2.1, iD t.2.2] = numD t := rfl
theorem add_sumD {a a' : Bool} {d d' : ByteArray} {e e' : Int} (h : numV a d e = 0) (h' : numV a' d' e' = 0) {P Q : Nat} (hP : P = dv d.data.toList * 10 ^ (e - levX e e').toNat) (hQ : Q = dv d'.data.toList * 10 ^ (e' - levX e e').toNat) {ng : Bool} {m : Nat}
  (hm : m = ((if a then -(P : Int) else P) + (if a' then -(Q : Int) else Q)).natAbs) (hs : m ≠ 0 -> ng = decide ((if a then -(P : Int) else P) + (if a' then -(Q : Int) else Q) < 0)) :
  D.row [numD (addV (a, d, e) (a', d', e')).1, iD (addV (a, d, e) (a', d', e')).2] = sumD ng m (levX e e') := by
 have hv : valX (a, d, e) (levX e e') = if a then -(P : Int) else P := by rw [hP]; rfl
 have hv' : valX (a', d', e') (levX e e') = if a' then -(Q : Int) else Q := by rw [hQ]; rfl
 have e1 : addV (a, d, e) (a', d', e') = madeV ng ⟨(digs m).toArray⟩ (levX e e') := by
  unfold addV
  rw [if_neg (show ¬ ¬ formN (a, d, e) = 0 from fun k => k h), if_neg (show ¬ ¬ formN (a', d', e') = 0 from fun k => k h')]
  simp only [hv, hv', <- hm]
  rw [made_dv (s := ⟨(digs m).toArray⟩) (m := m) (ng' := ng) (by rw [bytes_list]; exact digs_dig m) (by rw [bytes_list, dv_digs]) fun hne => (hs hne).symm]
 rw [e1]; rfl
-- head 0 of loop 0: [t4 .bx 23 103079215104, t6 .sh (.cell (.sc .s)), t7 .sh (.cell (.sc .s)), t8 .sh (.cell (.sc (.i .i64))), t9 .sh (.cell (.sc .b)), t10 .sh (.cell (.sc (.i .i64))), t11 .ap 5 842 158913789952, t12 .sh (.cell (.sc (.i .i64))), t13 .sh (.cell (.sc (.i .i64))), t14 .sh (.cell (.sc (.i .i64)))]
def heads_nadd : List Hd := [⟨0, [.any, .any, .any, .any, .bx 23 103079215104, .any, .sh (.cell (.sc .s)), .sh (.cell (.sc .s)), .sh (.cell (.sc (.i .i64))), .sh (.cell (.sc .b)), .sh (.cell (.sc (.i .i64))), .ap 5 842 158913789952, .sh (.cell (.sc (.i .i64))), .sh (.cell (.sc (.i .i64))), .sh (.cell (.sc (.i .i64))), .any, .any, .any, .any, .any, .any, .any, .any, .any, .any, .any, .any, .any, .any, .any, .any, .any, .any, .any, .any, .any, .any, .any, .any, .any, .any, .any, .any, .any, .any, .any, .any, .any, .any, .any, .any, .any, .any, .any, .any, .any, .any, .any, .any, .any, .any, .any, .any, .any, .any, .any, .any, .any, .any, .any, .any, .any, .any, .any, .any, .any, .any, .any, .any, .any, .any, .any, .any, .any, .any, .any, .any, .any, .any, .any, .any, .any, .any, .any]⟩]
def entry_nadd : Tree :=
 (.giv (.app 1000 [(.r3 .v0)])
 (.ite (.ne (.app 5 [(.r3 .v0)]) (.i 0))
 (.rt (.pr .row [(.pr .row [(.lit (.bool false)), (.lit (.string .empty)), (.i 0)]), (.i 10)]))
 (.giv (.app 1000 [(.r3 .v1)])
 (.ite (.ne (.app 5 [(.r3 .v1)]) (.i 0))
 (.rt (.pr .row [(.pr .row [(.lit (.bool false)), (.lit (.string .empty)), (.i 0)]), (.i 10)]))
 (.giv (.app 1000 [(.r3 .v0), (.r3 .v1)])
 (.giv (.app 2021 [(.r3 .v0), (.r3 .v1)])
 (.ite (.pr (.bcmp .neq) [(.c 0 .v0), (.c 0 .v1)])
 (.ite (.pr (.scmp .lss) [(.c 0 (.app 21 [(.r3 .v0), (.r3 .v1)])), (.c 1 (.app 21 [(.r3 .v0), (.r3 .v1)]))])
 (.g 0 [(.pr .row [(.lit (.bool false)), (.lit (.string .empty)), (.i 0)]), (.c 1 (.app 21 [(.r3 .v0), (.r3 .v1)])), (.c 0 (.app 21 [(.r3 .v0), (.r3 .v1)])), (.c 2 (.app 21 [(.r3 .v0), (.r3 .v1)])), (.c 0 .v1), (.i (-1)), (.pr .rep [(.i 842), (.pr .row [(.lit (.int .u8 0))])]), (.i 842), (.i 0), (.pr (.iop .sub .i64) [(.pr .slen [(.c 1 (.app 21 [(.r3 .v0), (.r3 .v1)]))]), (.i 1)])])
 (.g 0 [(.pr .row [(.lit (.bool false)), (.lit (.string .empty)), (.i 0)]), (.c 0 (.app 21 [(.r3 .v0), (.r3 .v1)])), (.c 1 (.app 21 [(.r3 .v0), (.r3 .v1)])), (.c 2 (.app 21 [(.r3 .v0), (.r3 .v1)])), (.c 0 .v0), (.i (-1)), (.pr .rep [(.i 842), (.pr .row [(.lit (.int .u8 0))])]), (.i 842), (.i 0), (.pr (.iop .sub .i64) [(.pr .slen [(.c 0 (.app 21 [(.r3 .v0), (.r3 .v1)]))]), (.i 1)])]))
 (.g 0 [(.pr .row [(.lit (.bool false)), (.lit (.string .empty)), (.i 0)]), (.c 0 (.app 21 [(.r3 .v0), (.r3 .v1)])), (.c 1 (.app 21 [(.r3 .v0), (.r3 .v1)])), (.c 2 (.app 21 [(.r3 .v0), (.r3 .v1)])), (.c 0 .v0), (.i 1), (.pr .rep [(.i 842), (.pr .row [(.lit (.int .u8 0))])]), (.i 842), (.i 0), (.pr (.iop .sub .i64) [(.pr .slen [(.c 0 (.app 21 [(.r3 .v0), (.r3 .v1)]))]), (.i 1)])]))))))))
def head_nadd_0 : Tree :=
 (.ite (.ge .v9 (.i 0))
 (.giv (.le (.i 0) .v9)
 (.giv (.lt .v9 (.pr .slen [.v1]))
 (.giv (.lt .v9 (.pr .slen [.v2]))
 (.ite (.lt (.pr (.iop .add .i64) [.v8, (.pr (.iop .add .i64) [(.pr (.conv .i64) [(.pr (.iop .sub .u8) [(.pr .sat [.v1, .v9]), (.lit (.int .u8 48))])]), (.pr (.iop .mul .i64) [.v5, (.pr (.conv .i64) [(.pr (.iop .sub .u8) [(.pr .sat [.v2, .v9]), (.lit (.int .u8 48))])])])])]) (.i 0))
 (.giv (.le (.i 0) (.pr (.iop .sub .i64) [.v7, (.i 1)]))
 (.giv (.lt (.pr (.iop .sub .i64) [.v7, (.i 1)]) (.i 842))
 (.giv (.lt (.pr (.iop .sub .i64) [.v7, (.i 1)]) (.n .v6))
 (.giv (.eq (.n .v6) (.i 842))
 (.g 0 [(.r3 .v0), .v1, .v2, .v3, .v4, .v5, (.pr .upd [.v6, (.pr (.iop .sub .i64) [.v7, (.i 1)]), (.pr .row [(.pr (.conv .u8) [(.pr (.iop .add .i64) [(.i 48), (.pr (.iop .add .i64) [(.pr (.iop .add .i64) [.v8, (.pr (.iop .add .i64) [(.pr (.conv .i64) [(.pr (.iop .sub .u8) [(.pr .sat [.v1, .v9]), (.lit (.int .u8 48))])]), (.pr (.iop .mul .i64) [.v5, (.pr (.conv .i64) [(.pr (.iop .sub .u8) [(.pr .sat [.v2, .v9]), (.lit (.int .u8 48))])])])])]), (.i 10)])])])])]), (.pr (.iop .sub .i64) [.v7, (.i 1)]), (.i (-1)), (.pr (.iop .sub .i64) [.v9, (.i 1)])])))))
 (.ite (.gt (.pr (.iop .add .i64) [.v8, (.pr (.iop .add .i64) [(.pr (.conv .i64) [(.pr (.iop .sub .u8) [(.pr .sat [.v1, .v9]), (.lit (.int .u8 48))])]), (.pr (.iop .mul .i64) [.v5, (.pr (.conv .i64) [(.pr (.iop .sub .u8) [(.pr .sat [.v2, .v9]), (.lit (.int .u8 48))])])])])]) (.i 9))
 (.giv (.le (.i 0) (.pr (.iop .sub .i64) [.v7, (.i 1)]))
 (.giv (.lt (.pr (.iop .sub .i64) [.v7, (.i 1)]) (.i 842))
 (.giv (.lt (.pr (.iop .sub .i64) [.v7, (.i 1)]) (.n .v6))
 (.giv (.eq (.n .v6) (.i 842))
 (.g 0 [(.r3 .v0), .v1, .v2, .v3, .v4, .v5, (.pr .upd [.v6, (.pr (.iop .sub .i64) [.v7, (.i 1)]), (.pr .row [(.pr (.conv .u8) [(.pr (.iop .add .i64) [(.i 48), (.pr (.iop .sub .i64) [(.pr (.iop .add .i64) [.v8, (.pr (.iop .add .i64) [(.pr (.conv .i64) [(.pr (.iop .sub .u8) [(.pr .sat [.v1, .v9]), (.lit (.int .u8 48))])]), (.pr (.iop .mul .i64) [.v5, (.pr (.conv .i64) [(.pr (.iop .sub .u8) [(.pr .sat [.v2, .v9]), (.lit (.int .u8 48))])])])])]), (.i 10)])])])])]), (.pr (.iop .sub .i64) [.v7, (.i 1)]), (.i 1), (.pr (.iop .sub .i64) [.v9, (.i 1)])])))))
 (.giv (.le (.i 0) (.pr (.iop .sub .i64) [.v7, (.i 1)]))
 (.giv (.lt (.pr (.iop .sub .i64) [.v7, (.i 1)]) (.i 842))
 (.giv (.lt (.pr (.iop .sub .i64) [.v7, (.i 1)]) (.n .v6))
 (.giv (.eq (.n .v6) (.i 842))
 (.g 0 [(.r3 .v0), .v1, .v2, .v3, .v4, .v5, (.pr .upd [.v6, (.pr (.iop .sub .i64) [.v7, (.i 1)]), (.pr .row [(.pr (.conv .u8) [(.pr (.iop .add .i64) [(.i 48), (.pr (.iop .add .i64) [.v8, (.pr (.iop .add .i64) [(.pr (.conv .i64) [(.pr (.iop .sub .u8) [(.pr .sat [.v1, .v9]), (.lit (.int .u8 48))])]), (.pr (.iop .mul .i64) [.v5, (.pr (.conv .i64) [(.pr (.iop .sub .u8) [(.pr .sat [.v2, .v9]), (.lit (.int .u8 48))])])])])])])])])]), (.pr (.iop .sub .i64) [.v7, (.i 1)]), (.i 0), (.pr (.iop .sub .i64) [.v9, (.i 1)])]))))))))))
 (.ite (.eq .v8 (.i 0))
 (.giv (.le (.i 0) .v7)
 (.giv (.le .v7 (.i 842))
 (.giv (.le (.i 842) (.n .v6))
 (.giv (.app 1000 [.v4, (.pr .sofl [(.pr .sub [.v6, .v7, (.i 842)])]), .v3])
 (.rt (.pr .row [(.r3 (.c 0 (.app 88 [.v4, (.pr .sofl [(.pr .sub [.v6, .v7, (.i 842)])]), .v3]))), (.c 1 (.app 88 [.v4, (.pr .sofl [(.pr .sub [.v6, .v7, (.i 842)])]), .v3]))]))))))
 (.ite (.lt .v8 (.i 0))
 (.giv (.le (.i 0) (.pr (.iop .sub .i64) [.v7, (.i 1)]))
 (.giv (.lt (.pr (.iop .sub .i64) [.v7, (.i 1)]) (.i 842))
 (.giv (.lt (.pr (.iop .sub .i64) [.v7, (.i 1)]) (.n .v6))
 (.giv (.eq (.n .v6) (.i 842))
 (.g 0 [(.r3 .v0), .v1, .v2, .v3, .v4, .v5, (.pr .upd [.v6, (.pr (.iop .sub .i64) [.v7, (.i 1)]), (.pr .row [(.pr (.conv .u8) [(.pr (.iop .add .i64) [(.i 48), (.pr (.iop .add .i64) [.v8, (.i 10)])])])])]), (.pr (.iop .sub .i64) [.v7, (.i 1)]), (.i (-1)), (.pr (.iop .sub .i64) [.v9, (.i 1)])])))))
 (.ite (.gt .v8 (.i 9))
 (.giv (.le (.i 0) (.pr (.iop .sub .i64) [.v7, (.i 1)]))
 (.giv (.lt (.pr (.iop .sub .i64) [.v7, (.i 1)]) (.i 842))
 (.giv (.lt (.pr (.iop .sub .i64) [.v7, (.i 1)]) (.n .v6))
 (.giv (.eq (.n .v6) (.i 842))
 (.g 0 [(.r3 .v0), .v1, .v2, .v3, .v4, .v5, (.pr .upd [.v6, (.pr (.iop .sub .i64) [.v7, (.i 1)]), (.pr .row [(.pr (.conv .u8) [(.pr (.iop .add .i64) [(.i 48), (.pr (.iop .sub .i64) [.v8, (.i 10)])])])])]), (.pr (.iop .sub .i64) [.v7, (.i 1)]), (.i 1), (.pr (.iop .sub .i64) [.v9, (.i 1)])])))))
 (.giv (.le (.i 0) (.pr (.iop .sub .i64) [.v7, (.i 1)]))
 (.giv (.lt (.pr (.iop .sub .i64) [.v7, (.i 1)]) (.i 842))
 (.giv (.lt (.pr (.iop .sub .i64) [.v7, (.i 1)]) (.n .v6))
 (.giv (.eq (.n .v6) (.i 842))
 (.g 0 [(.r3 .v0), .v1, .v2, .v3, .v4, .v5, (.pr .upd [.v6, (.pr (.iop .sub .i64) [.v7, (.i 1)]), (.pr .row [(.pr (.conv .u8) [(.pr (.iop .add .i64) [(.i 48), .v8])])])]), (.pr (.iop .sub .i64) [.v7, (.i 1)]), (.i 0), (.pr (.iop .sub .i64) [.v9, (.i 1)])])))))))))
def trees_nadd : List Tree := [head_nadd_0]
noncomputable def deps_nadd : List Sig := [q_numcheck, q_level, q_nmade]
theorem ok_nadd : check q_nadd deps_nadd heads_nadd entry_nadd trees_nadd = true := by kernel_rfl
def AddInv (n : Nat) (d : D) (ds : List D) : Prop :=
 ∃ (r : D) (P Q : ByteArray) (x : Int) (ng : Bool) (sg : Int) (l : List UInt8) (c : Int) (k : Nat),
  ds = [r, sD P, sD Q, iD x, bD ng, iD sg, bytesD l, iD ((842 - k : Nat) : Int), iD c, iD ((P.size : Int) - 1 - k)] /\ P.size = Q.size /\ P.size <= 840 /\ Dig P.data.toList /\ Dig Q.data.toList /\
  (sg = 1 \/ sg = -1) /\ 0 <= (dv P.data.toList : Int) + sg * dv Q.data.toList /\ l.length = 842 /\ Dig (l.drop (842 - k)) /\ 8 < n /\
  ((k <= P.size /\ -1 <= c /\ c <= 1 /\ (dv (l.drop (842 - k)) : Int) + c * ((10 ^ k : Nat) : Int) = dv (P.data.toList.drop (P.size - k)) + sg * dv (Q.data.toList.drop (P.size - k))) \/
   (k = P.size + 1 /\ c = 0 /\ (dv (l.drop (842 - k)) : Int) = dv P.data.toList + sg * dv Q.data.toList)) /\
  d = sumD ng ((dv P.data.toList : Int) + sg * dv Q.data.toList).toNat x
theorem dig_put {l : List UInt8} {k : Nat} {W : Int} (hl : l.length = 842) (hk : k < 842) (h0 : 0 <= W) (h9 : W <= 9) (hd : Dig (l.drop (842 - k))) :
  Dig ((l.set (842 - (k + 1)) (UInt8.ofNat (48 + W).toNat)).drop (842 - (k + 1))) /\ (dv ((l.set (842 - (k + 1)) (UInt8.ofNat (48 + W).toNat)).drop (842 - (k + 1))) : Int) = W * ((10 ^ k : Nat) : Int) + dv (l.drop (842 - k)) := by
 have e : (UInt8.ofNat (48 + W).toNat).toNat = 48 + W.toNat := by rw [UInt8.toNat_ofNat']; omega
 rw [set_drop _ _ _ (by omega), show 842 - (k + 1) + 1 = 842 - k by omega]
 refine ⟨fun x hx => ?_, ?_⟩
 ·rcases List.mem_cons.1 hx with rfl | hx
  ·rw [e]; omega
  ·exact hd x hx
 ·rw [dv_cons, e, List.length_drop, hl, show 842 - (842 - k) = k by omega, show 48 + W.toNat - 48 = W.toNat by omega, Int.natCast_add, Int.natCast_mul, Int.toNat_of_nonneg h0]
theorem nadd_ok (n : Nat) : @Ok (I n) q_nadd (okD n) := by
 letI := I n
 refine fn_okS (hphi n) ok_nadd (by
  intro q hq
  simp only [deps_nadd, List.mem_cons, List.not_mem_nil, or_false] at hq
  rcases hq with rfl | rfl | rfl
  ·exact okS_of (numcheck_ok n)
  ·exact level_ok n
  ·exact okS_of (nmade_ok n))
  (fun _ d ds => AddInv n d ds) (fun _ ds => ((ds.getD 9 .nil).int + 3).toNat) ?_ ?_
 ·intro ds hf hp
  obtain ⟨a, d, e, a', d', e', rfl⟩ := num_two hf
  have o0 := hp
  rw [okD_two] at hp
  obtain ⟨h1, h2, h3⟩ := hp
  rw [sz_row, sz_row] at h1
  simp only [D.szL, D.sz] at h1
  have o1 : okD n [.row [bD a, sD d, iD e]] := okD_one.2 ⟨by rw [sz_row]; simp only [D.szL, D.sz]; omega, h2⟩
  have o2 : okD n [.row [bD a', sD d', iD e']] := okD_one.2 ⟨by rw [sz_row]; simp only [D.szL, D.sz]; omega, h3⟩
  simp only [entry_nadd, q_nadd, Tree.holds, Out.den, E.den, E.denL, dn, List.getD_cons_zero, List.getD_cons_succ, List.length_map, phi_1000, phi_numcheck, phi_level, pre_level, phi_nadd, row_at0, row_at1, row_at2, o0, o1, o2, lessS_eq, decide_eq_true_eq, decide_eq_false_iff_not, bne_iff_ne, bne_eq_false_iff_eq]
  refine ⟨fun c => ?_, fun c => ⟨fun c' => ?_, fun c' => ?_⟩⟩
  ·rw [add_bad (t := (a, d, e)) (u := (a', d', e')) fun h => c h.1]; rfl
  ·rw [add_bad (t := (a, d, e)) (u := (a', d', e')) fun h => c' h.2]; rfl
  obtain ⟨b1, b2, b3⟩ := numV_num c
  obtain ⟨b4, b5, b6⟩ := numV_num c'
  obtain ⟨v1, v2, v3, v4, v5, v6⟩ := lev_vals (numOk_dig (t := (a, d, e)) c) (numOk_dig (t := (a', d', e')) c') b1 b4 b2 b3 b5 b6
  have hcmp := fun hl => cmp_dv _ _ hl v3 v4
  have hcmp := hcmp (by rw [list_len, list_len]; exact v1)
  have hsum := fun ng m => @add_sumD a a' d d' e e' c c' _ _ v5 v6 ng m
  generalize levQ (levP d e (levX e e')) (levP d' e' (levX e e')) = P at *
  generalize levQ (levP d' e' (levX e e')) P = Q at *
  obtain ⟨l0, hl0, hrep, hdr⟩ : ∃ l0 : List UInt8, l0.length = 842 /\ Prim.rep.den [iD 842, .row [.v (.int .u8 0)]] = bytesD l0 /\ l0.drop (842 - 0) = [] :=
   ⟨List.replicate 842 0, List.length_replicate, bytes_rep 842, List.drop_eq_nil_of_le (by rw [List.length_replicate]; exact Nat.le_refl _)⟩
  have hwr : ∀ s : ByteArray, s.size <= 840 -> IntKind.i64.wrap ((s.size : Int) - 1) = (s.size : Int) - 1 := fun s _ => wrapI (by omega) (by omega)
  have mkI : ∀ (P' Q' : ByteArray) (ng : Bool) (sg : Int) (D0 : D) (dd : D), P'.size = Q'.size -> P'.size <= 840 -> Dig P'.data.toList -> Dig Q'.data.toList -> (sg = 1 \/ sg = -1) -> 0 <= (dv P'.data.toList : Int) + sg * dv Q'.data.toList ->
    dd = sumD ng ((dv P'.data.toList : Int) + sg * dv Q'.data.toList).toNat (levX e e') -> AddInv n dd [D0, sD P', sD Q', iD (levX e e'), bD ng, iD sg, Prim.rep.den [iD 842, .row [.v (.int .u8 0)]], iD 842, iD 0, iD (IntKind.i64.wrap ((P'.size : Int) - 1))] := by
   intro P' Q' ng sg D0 dd g1 g2 g3 g4 g5 g6 g7
   refine ⟨D0, P', Q', levX e e', ng, sg, l0, 0, 0, ?_, g1, g2, g3, g4, g5, g6, hl0, ?_, by omega, .inl ⟨Nat.zero_le _, by omega, by omega, ?_⟩, g7⟩
   ·rw [hwr P' g2, hrep]
    have e1 : ((842 - 0 : Nat) : Int) = 842 := rfl
    have e2 : (P'.size : Int) - 1 - ((0 : Nat) : Int) = (P'.size : Int) - 1 := by omega
    rw [e1, e2]
   ·rw [hdr]; exact fun x hx => (by cases hx)
   ·rw [hdr, List.drop_eq_nil_of_le (by rw [list_len]; omega), List.drop_eq_nil_of_le (by rw [list_len]; omega)]
    have e0 : dv ([] : List UInt8) = 0 := rfl
    rw [e0]
    rcases g5 with rfl | rfl <;> rfl
  refine ⟨⟨b1, b4, b2, b3, b5, b6⟩, fun hne => ⟨fun hlt => mkI Q P a' (-1) _ _ v1.symm (by omega) v4 v3 (.inr rfl) ?_ ?_, fun hge => mkI P Q a (-1) _ _ v1 v2 v3 v4 (.inr rfl) ?_ ?_⟩, fun heq => mkI P Q a 1 _ _ v1 v2 v3 v4 (.inl rfl) (by omega) ?_⟩
  ·have := cmpZ_lt.1 (hcmp.symm.trans hlt); omega
  ·have hlt := cmpZ_lt.1 (hcmp.symm.trans hlt)
   refine hsum a' _ ?_ fun _ => ?_
   ·cases a <;> cases a' <;> simp at hne ⊢ <;> omega
   ·cases a <;> cases a' <;> simp at hne ⊢ <;> omega
  ·have hge : ¬ ((dv P.data.toList : Int) < dv Q.data.toList) := fun h => hge (hcmp.trans (cmpZ_lt.2 h))
   omega
  ·have hge : ¬ ((dv P.data.toList : Int) < dv Q.data.toList) := fun h => hge (hcmp.trans (cmpZ_lt.2 h))
   refine hsum a _ ?_ fun hm => ?_
   ·cases a <;> cases a' <;> simp at hne ⊢ <;> omega
   ·cases a <;> cases a' <;> simp at hne ⊢ <;> omega
  ·subst heq
   refine hsum a _ ?_ fun hm => ?_
   ·cases a <;> simp <;> omega
   ·cases a <;> simp at hm ⊢ <;> omega
 ·rintro j h t dd ds hj ht hf ⟨r, P, Q, x, ng, sg, l, c, k, rfl, hPQ, hm, gP, gQ, hsg, hN, hl, gd, hn, hcase, rfl⟩
  obtain rfl : t = head_nadd_0 := by
   match j, ht with
   | 0, ht => exact (Option.some.inj ht).symm
  have hw9 : IntKind.i64.wrap ((P.size : Int) - 1 - k - 1) = (P.size : Int) - 1 - ((k + 1 : Nat) : Int) := by
   rw [wrapI (by rcases hcase with h | h <;> omega) (by omega)]; omega
  have hw7 : k <= 841 -> IntKind.i64.wrap (((842 - k : Nat) : Int) - 1) = ((842 - (k + 1) : Nat) : Int) := fun _ => by rw [wrapI (by omega) (by omega)]; omega
  have hu : ∀ W : Int, 0 <= W -> W <= 9 -> IntKind.u8.wrap (IntKind.i64.wrap (48 + W)) = 48 + W := fun W _ _ => by rw [wrapI (by omega) (by omega), wrap8 (by omega) (by omega)]
  have hup : ∀ W : Int, 0 <= W -> W <= 9 -> Prim.upd.den [bytesD l, iD ((842 - (k + 1) : Nat) : Int), .row [.v (.int .u8 (48 + W))]] = bytesD (l.set (842 - (k + 1)) (UInt8.ofNat (48 + W).toNat)) := fun W _ _ => bytes_upd l _ _ (by omega) (by omega)
  have hrow : (bytesD l).rows.length = 842 := by rw [bytes_rows, hl]
  by_cases hk : k < P.size
  ·rcases hcase with ⟨hk', hc0, hc1, hval⟩ | ⟨hk', _, _⟩
   case inr => omega
   obtain ⟨p, hp, _, _⟩ := drop_get (l := P.data.toList) (i := P.size - (k + 1)) (by rw [list_len]; omega)
   obtain ⟨q, hq, _, _⟩ := drop_get (l := Q.data.toList) (i := P.size - (k + 1)) (by rw [list_len]; omega)
   have hpd := dig_at gP hp
   have hqd := dig_at gQ hq
   have hti : ((P.size : Int) - 1 - k).toNat = P.size - (k + 1) := by omega
   have hgp : P.data.toList.getD (P.size - (k + 1)) 0 = p := by rw [List.getD_eq_getElem?_getD, hp]; rfl
   have hgq : Q.data.toList.getD (P.size - (k + 1)) 0 = q := by rw [List.getD_eq_getElem?_getD, hq]; rfl
   have hv : IntKind.i64.wrap (c + IntKind.i64.wrap (IntKind.i64.wrap (IntKind.u8.wrap ((p.toNat : Int) - 48)) + IntKind.i64.wrap (sg * IntKind.i64.wrap (IntKind.u8.wrap ((q.toNat : Int) - 48))))) = c + (((p.toNat - 48 : Nat) : Int) + sg * ((q.toNat - 48 : Nat) : Int)) := by
    rw [wrap8 (i := (p.toNat : Int) - 48) (by omega) (by omega), wrap8 (i := (q.toNat : Int) - 48) (by omega) (by omega), wrapI (i := (p.toNat : Int) - 48) (by omega) (by omega), wrapI (i := (q.toNat : Int) - 48) (by omega) (by omega)]
    rcases hsg with rfl | rfl
    ·rw [wrapI (i := 1 * ((q.toNat : Int) - 48)) (by omega) (by omega), wrapI (i := (p.toNat : Int) - 48 + 1 * ((q.toNat : Int) - 48)) (by omega) (by omega), wrapI (by omega) (by omega)]; omega
    ·rw [wrapI (i := -1 * ((q.toNat : Int) - 48)) (by omega) (by omega), wrapI (i := (p.toNat : Int) - 48 + -1 * ((q.toNat : Int) - 48)) (by omega) (by omega), wrapI (by omega) (by omega)]; omega
   have e1 := dv_drop (k := k) hp (by rw [list_len]; omega)
   have e2 := dv_drop (k := k) hq (by rw [list_len]; omega)
   rw [show P.size - (k + 1) + 1 = P.size - k by omega] at e1 e2
   have step : ∀ (W c' : Int) (D0 : D), W = c + (((p.toNat - 48 : Nat) : Int) + sg * ((q.toNat - 48 : Nat) : Int)) - 10 * c' -> 0 <= W -> W <= 9 -> -1 <= c' -> c' <= 1 ->
     AddInv n (sumD ng ((dv P.data.toList : Int) + sg * dv Q.data.toList).toNat x) [D0, sD P, sD Q, iD x, bD ng, iD sg, bytesD (l.set (842 - (k + 1)) (UInt8.ofNat (48 + W).toNat)), iD ((842 - (k + 1) : Nat) : Int), iD c', iD ((P.size : Int) - 1 - ((k + 1 : Nat) : Int))] := by
    intro W c' D0 hW h0 h9 hc0' hc1'
    obtain ⟨g1, g2⟩ := dig_put hl (show k < 842 by omega) h0 h9 gd
    refine ⟨D0, P, Q, x, ng, sg, _, c', k + 1, rfl, hPQ, hm, gP, gQ, hsg, hN, by rw [List.length_set]; exact hl, g1, hn, .inl ⟨hk, hc0', hc1', ?_⟩, rfl⟩
    rw [g2, e1, e2]
    have := step_sum (T := ((10 ^ k : Nat) : Int)) hsg hval hW
    rw [Int.natCast_add, Int.natCast_add, Int.natCast_mul, Int.natCast_mul, Nat.pow_succ, Int.natCast_mul]
    exact this
   have hV : -10 <= c + (((p.toNat - 48 : Nat) : Int) + sg * ((q.toNat - 48 : Nat) : Int)) /\ c + (((p.toNat - 48 : Nat) : Int) + sg * ((q.toNat - 48 : Nat) : Int)) <= 19 := by rcases hsg with rfl | rfl <;> omega
   simp only [head_nadd_0, Tree.holds, Out.den, E.den, E.denL, dn, List.getD_cons_zero, List.getD_cons_succ, List.length_map, phi_1000, hti, hgp, hgq, hv]
   generalize c + (((p.toNat - 48 : Nat) : Int) + sg * ((q.toNat - 48 : Nat) : Int)) = V at *
   rw [hw7 (by omega), hw9, hrow]
   have hwp : IntKind.i64.wrap (V + 10) = V + 10 := wrapI (by omega) (by omega)
   have hwm : IntKind.i64.wrap (V - 10) = V - 10 := wrapI (by omega) (by omega)
   rw [hwp, hwm]
   refine ⟨fun _ => ⟨by omega, by omega, by omega, fun hneg => ⟨by omega, by omega, by omega, by omega, ?_, ?_⟩, fun hneg => ⟨fun hbig => ⟨by omega, by omega, by omega, by omega, ?_, ?_⟩, fun hbig => ⟨by omega, by omega, by omega, by omega, ?_, ?_⟩⟩⟩, fun h => by omega⟩
   ·rw [hu (V + 10) (by omega) (by omega), hup (V + 10) (by omega) (by omega)]
    exact step (V + 10) (-1) _ (by omega) (by omega) (by omega) (by omega) (by omega)
   ·omega
   ·rw [hu (V - 10) (by omega) (by omega), hup (V - 10) (by omega) (by omega)]
    exact step (V - 10) 1 _ (by omega) (by omega) (by omega) (by omega) (by omega)
   ·omega
   ·rw [hu V (by omega) (by omega), hup V (by omega) (by omega)]
    exact step V 0 _ (by omega) (by omega) (by omega) (by omega) (by omega)
   ·omega
  ·have hkk : k = P.size \/ k = P.size + 1 := by rcases hcase with h | h <;> omega
   have htx : Prim.sofl.den [Prim.sub.den [bytesD l, iD ((842 - k : Nat) : Int), iD 842]] = sD ⟨(l.drop (842 - k)).toArray⟩ := bytes_text l _ _ (by rw [hl]; rfl)
   have ok3 : okD n [bD ng, sD ⟨(l.drop (842 - k)).toArray⟩, iD x] := by
    refine ⟨by simp only [D.szL, D.sz]; omega, ?_⟩
    simp only [D.LimL, D.Lim, and_true, true_and]
    rw [bytes_len, List.length_drop, hl]
    show 842 - (842 - k) <= 140737488355328
    omega
   simp only [head_nadd_0, Tree.holds, Out.den, E.den, E.denL, dn, List.getD_cons_zero, List.getD_cons_succ, List.length_map, phi_1000, htx, phi_nmade, row_at0, row_at1, num_at0, num_at1, num_at2, num_put, ok3]
   rw [hrow]
   have hlast : c = 0 -> (dv (l.drop (842 - k)) : Int) = dv P.data.toList + sg * dv Q.data.toList := fun h0 => by
    rcases hcase with ⟨g1, _, _, g2⟩ | ⟨_, _, g2⟩
    ·rw [h0, show P.size - k = 0 by omega, List.drop_zero, List.drop_zero] at g2
     omega
    ·exact g2
   have hone : c ≠ 0 -> c = 1 /\ k = P.size := fun hc => by
    rcases hcase with ⟨g1, g3, g4, g2⟩ | ⟨_, g0, _⟩
    ·refine ⟨?_, by omega⟩
     have hlt := dv_lt _ gd
     rw [List.length_drop, hl, show 842 - (842 - k) = k by omega] at hlt
     rw [show P.size - k = 0 by omega, List.drop_zero, List.drop_zero] at g2
     have : c ≠ -1 := fun hc' => by
      subst hc'
      omega
     omega
    ·exact absurd g0 hc
   refine ⟨fun h => by omega, fun _ => ⟨fun h0 => ⟨by omega, by omega, by omega, ?_⟩, fun h0 => ⟨fun h => by have := hone h0; omega, fun _ => ⟨fun h => by have := hone h0; omega, fun _ => ?_⟩⟩⟩⟩
   ·have hd := hlast h0
    have := made_dv (ng := ng) (ng' := ng) (s := ⟨(l.drop (842 - k)).toArray⟩) (m := ((dv P.data.toList : Int) + sg * dv Q.data.toList).toNat) (e := x) (by rw [bytes_list]; exact gd) (by rw [bytes_list]; omega) fun _ => rfl
    rw [this]; rfl
   ·obtain ⟨rfl, rfl⟩ := hone h0
    rw [hw7 (by omega), hw9]
    refine ⟨by omega, by omega, by omega, by omega, ?_, ?_⟩
    ·rw [hu 1 (by omega) (by omega), hup 1 (by omega) (by omega)]
     obtain ⟨g1, g2⟩ := dig_put (W := 1) hl (show P.size < 842 by omega) (by omega) (by omega) gd
     refine ⟨_, P, Q, x, ng, sg, _, 0, P.size + 1, rfl, hPQ, hm, gP, gQ, hsg, hN, by rw [List.length_set]; exact hl, g1, hn, .inr ⟨rfl, rfl, ?_⟩, rfl⟩
     rw [g2]
     rcases hcase with ⟨_, _, _, g3⟩ | ⟨g0, _, _⟩
     ·rw [Nat.sub_self, List.drop_zero, List.drop_zero] at g3
      omega
     ·omega
    ·omega
end Go.Proofs.YtflhikakndanjaaGreatDoor.Vk
/- The chapter's examples; numbers three by three. -/
namespace Go.Proofs.YtflhikakndanjaaGreatDoor.Vk
open Go Go.Ab Go.RowKit
def heads_nawake : List Hd := []
def entry_nawake : Tree :=.ye
def trees_nawake : List Tree := []
noncomputable def deps_nawake : List Sig := []
theorem ok_nawake : check q_nawake deps_nawake heads_nawake entry_nawake trees_nawake = true := by kernel_rfl
theorem nawake_ok (n : Nat) : @Ok (I n) q_nawake (okD n) := by
 letI := I n
 refine fn_ok (hphi n) ok_nawake (by intro q hq; simp [deps_nawake] at hq) (fun _ _ _ => False) (fun _ _ => 0) ?_ (fun j h t d ds hj => by simp [heads_nawake] at hj)
 intro ds hf hp
 have : ds = [] := by
  match ds, hf with
  | [], _ => rfl
 subst this
 simp only [entry_nawake, q_nawake, Tree.holds, Out.den, E.den, E.denL, dn, List.getD_cons_zero, List.getD_cons_succ, List.length_map, phi_1000, phi_nawake]
theorem phi_add (n : Nat) (t u : NumT) : @Interp.phi (I n) 92 [numD t, numD u] = .row [numD (addV t u).1, iD (addV t u).2] := rfl
theorem phi_cmpN (n : Nat) (t u : NumT) : @Interp.phi (I n) 22 [numD t, numD u] = .row [iD (numcmpV t.1 t.2.1 t.2.2 u.1 u.2.1 u.2.2).1, iD (numcmpV t.1 t.2.1 t.2.2 u.1 u.2.1 u.2.2).2] := rfl
theorem sz_numD (t : NumT) : (numD t).sz = 4 := rfl
theorem lim_numD (t : NumT) : (numD t).Lim ↔ t.2.1.size <= lim := by
 unfold numD
 simp only [D.Lim, D.LimL, and_true, true_and]
theorem okD_nums {n : Nat} {t u : NumT} (hn : 8 < n) (h1 : t.2.1.size <= lim) (h2 : u.2.1.size <= lim) : okD n [numD t, numD u] := okD_two.2 ⟨by rw [sz_numD, sz_numD]; omega, (lim_numD t).2 h1, (lim_numD u).2 h2⟩
theorem add_ok {t u r : NumT} (h : addV t u = (r, 0)) : numOk t /\ numOk u /\ numOk r /\ keyN r = keyN t + keyN u := by
 by_cases hc : numOk t /\ numOk u
 ·obtain ⟨g1, g2⟩ := add_some hc.1 hc.2 h
  exact ⟨hc.1, hc.2, g1, g2⟩
 ·rw [add_bad hc] at h; cases h
theorem add_assoc {a b c x y : NumT} (h1 : addV a b = (x, 0)) (h2 : addV b c = (y, 0)) : addV x c = addV a y := by
 obtain ⟨a1, a2, a3, a4⟩ := add_ok h1
 obtain ⟨b1, b2, b3, b4⟩ := add_ok h2
 rw [add_mk a3 b2, add_mk a1 b3, a4, b4, Int.add_assoc]
theorem add_comm (a b : NumT) : addV a b = addV b a := by
 by_cases h : numOk a /\ numOk b
 ·rw [add_mk h.1 h.2, add_mk h.2 h.1, Int.add_comm]
 ·rw [add_bad h, add_bad fun h' => h ⟨h'.2, h'.1⟩]
end Go.Proofs.YtflhikakndanjaaGreatDoor.Vk
/- Contracts of the reference of chapter 1: all; numbers' form, bit by bit. -/
namespace Go.Proofs.YtflhikakndanjaaGreatDoor.Vk
open Go Go.Ab Go.RowKit
theorem one_str {d : List D} (h : FitL tb [.cell (.sc .s)] d) : ∃ s, d = [sD s] := by
 match d, h with
 | [a], ⟨h1, _⟩ =>
  obtain ⟨l, rfl⟩ := fits_str h1
  exact ⟨l, rfl⟩
theorem ten_at : ∀ k, k < 10 -> (mkS [48, 49, 50, 51, 52, 53, 54, 55, 56, 57]).extract k (k + 1) = ⟨[UInt8.ofNat (48 + k)].toArray⟩ := by decide +kernel
theorem tmod10 (m : Nat) : (m : Int).tmod 10 = ((m % 10 : Nat) : Int) := by
 rw [Int.tmod_eq_emod_of_nonneg (by omega)]; omega
theorem tdiv10 (m : Nat) : (m : Int).tdiv 10 = ((m / 10 : Nat) : Int) := by
 rw [Int.tdiv_eq_ediv_of_nonneg (by omega)]; omega
-- head 0 of loop 0: [t0 .sh (.cell (.sc .s)), t3 .sh (.cell (.sc (.i .i64)))]
def heads_rall : List Hd := [⟨0, [.sh (.cell (.sc .s)), .any, .any, .sh (.cell (.sc (.i .i64))), .any, .any, .any, .any, .any, .any, .any, .any, .any, .any, .any, .any, .any, .any, .any, .any, .any, .any, .any]⟩]
def entry_rall : Tree :=
 (.g 0 [.v0, (.i 0)])
def head_rall_0 : Tree :=
 (.ite (.lt .v1 (.pr .slen [.v0]))
 (.giv (.le (.i 0) .v1)
 (.ite (.lt (.pr .sat [.v0, .v1]) (.lit (.int .u8 48))) .no
 (.ite (.gt (.pr .sat [.v0, .v1]) (.lit (.int .u8 57))) .no
 (.g 0 [.v0, (.pr (.iop .add .i64) [.v1, (.i 1)])]))))
 (.rt (.gt (.pr .slen [.v0]) (.i 0))))
def trees_rall : List Tree := [head_rall_0]
noncomputable def deps_rall : List Sig := []
theorem ok_rall : check q_rall deps_rall heads_rall entry_rall trees_rall = true := by kernel_rfl
def isDig (c : UInt8) : Bool := decide (48 <= c.toNat /\ c.toNat <= 57)
theorem size_len (s : ByteArray) : s.size = s.data.toList.length := by rw [Array.length_toList]; rfl
theorem rall_ok (n : Nat) : @Ok (I n) q_rall (okD n) := by
 letI := I n
 refine fn_ok (hphi n) ok_rall (by intro q hq; simp [deps_rall] at hq)
  (fun j d ds => ∃ (s : ByteArray) (i : Nat), ds = [sD s, iD i] /\ i <= s.size /\ s.size <= lim /\ d = bD ((s.data.toList.drop i).all isDig && decide (s.data.toList ≠ [])))
  (fun j ds => (ds.getD 0 .nil).str.size - (ds.getD 1 .nil).int.toNat) ?_ ?_
 ·intro ds hf hp
  obtain ⟨s, rfl⟩ := one_str hf
  have hl := lim_sD.1 (okD_one.1 hp).2
  simp only [entry_rall, Tree.holds, Out.den, E.den, E.denL, dn, List.getD_cons_zero, List.getD_cons_succ, List.length_map, phi_1000, q_rall, phi_rall]
  exact ⟨s, 0, rfl, Nat.zero_le _, hl, rfl⟩
 ·rintro j h t d ds hj ht hf ⟨s, i, rfl, hi, hl, rfl⟩
  obtain rfl : t = head_rall_0 := by
   match j, ht with
   | 0, ht => exact (Option.some.inj ht).symm
  by_cases hlt : i < s.size
  ·obtain ⟨x, hx, _, hd⟩ := drop_get (show i < s.data.toList.length by rw [<- size_len]; exact hlt)
   have hx' : s.data.toList.getD i 0 = x := by rw [List.getD_eq_getElem?_getD, hx]; rfl
   simp only [head_rall_0, Tree.holds, Out.den, E.den, E.denL, dn, List.getD_cons_zero, List.getD_cons_succ, List.length_map, phi_1000, wrap_succ hlt hl, Int.toNat_natCast, hx']
   rw [hd, List.all_cons]
   refine ⟨fun _ => ⟨by omega, fun hb => ?_, fun hb => ⟨fun hc => ?_, fun hc => ⟨⟨s, i + 1, rfl, hlt, hl, ?_⟩, by omega⟩⟩⟩, fun h => by omega⟩
   ·rw [show isDig x = false from decide_eq_false fun h => by omega]; rfl
   ·rw [show isDig x = false from decide_eq_false fun h => by omega]; rfl
   ·rw [show isDig x = true from decide_eq_true ⟨by omega, by omega⟩]; rfl
  ·simp only [head_rall_0, Tree.holds, Out.den, E.den, E.denL, dn, List.getD_cons_zero, List.getD_cons_succ, List.length_map, phi_1000]
   refine ⟨fun h => by omega, fun _ => ?_⟩
   rw [List.drop_eq_nil_of_le (by rw [<- size_len]; omega)]
   have : ltI 0 s.size = decide (s.data.toList ≠ []) := by
    rw [Bool.eq_iff_iff, ltI_t, decide_eq_true_iff, size_len]
    rw [ne_eq, <- List.length_eq_zero_iff]
    omega
   rw [this]; rfl
theorem dig_all {l : List UInt8} : l.all isDig = true ↔ Dig l := by
 rw [List.all_eq_true]
 constructor
 ·intro h x hx; simpa [isDig] using h x hx
 ·intro h x hx; simpa [isDig] using h x hx
theorem drop_all {p : UInt8 -> Bool} : ∀ (l : List UInt8), (∀ x, x ∈ l -> p x = true) -> l.dropWhile p = []
 | [], _ => rfl
 | a :: r, h => by
  rw [List.dropWhile_cons, if_pos (h a (List.mem_cons_self ..))]
  exact drop_all r fun x hx => h x (List.mem_cons_of_mem _ hx)
theorem trim_dig {d : ByteArray} (h : Dig d.data.toList) : trimV d tenDigits = ByteArray.empty := by
 have h4 : ∀ y : UInt8, 48 <= y.toNat /\ y.toNat <= 57 -> tenDigits.data.toList.contains y = true := by
  intro y hy
  have : ∀ k : Fin 10, tenDigits.data.toList.contains (UInt8.ofNat (48 + k.val)) = true := by decide
  have := this ⟨y.toNat - 48, by omega⟩
  rw [show 48 + (y.toNat - 48) = y.toNat by omega, UInt8.ofNat_toNat] at this
  exact this
 unfold trimV Lib.trimS Lib.trimLeftS Lib.trimRightS
 have e : d.data.toList.reverse.dropWhile (tenDigits.data.toList.contains ·) = [] := drop_all _ fun x hx => h4 x (h x (List.mem_reverse.1 hx))
 rw [e]; rfl
theorem ext_last {d : ByteArray} (h : 0 < d.size) : d.extract (d.size - 1) d.size = one ↔ (d.data.toList.getD (d.size - 1) 0).toNat = 48 := by
 have hl := size_len d
 have e : (d.extract (d.size - 1) d.size).data.toList = [d.data.toList.getD (d.size - 1) 0] := by
  rw [ByteArray.data_extract, Array.toList_extract]
  have hlt : d.size - 1 < d.data.toList.length := by omega
  unfold List.extract
  rw [List.drop_eq_getElem_cons hlt, show d.size - (d.size - 1) = 1 by omega, List.take_succ_cons, List.take_zero, List.getD_eq_getElem?_getD, List.getElem?_eq_getElem hlt]
  rfl
 constructor
 ·intro h1
  rw [h1] at e
  have e : [48] = [d.data.toList.getD (d.size - 1) 0] := e
  rw [<- (List.cons.inj e).1]; rfl
 ·intro h1
  refine ByteArray.ext (Array.toList_inj.1 ?_)
  rw [e, show d.data.toList.getD (d.size - 1) 0 = 48 from UInt8.toNat_inj.1 h1]
  rfl
theorem num_iff (ng : Bool) (d : ByteArray) (e : Int) : numV ng d e = 0 ↔ (if d = one then ng = false /\ e = 0 else digV d = true /\ (d.size : Int) <= 40 /\ (d.data.toList.getD 0 0).toNat ≠ 48 /\ (d.data.toList.getD (d.size - 1) 0).toNat ≠ 48 /\ -400 <= e /\ e <= 400) := by
 have hdig : digV d = true ↔ Dig d.data.toList /\ d ≠ ByteArray.empty := by
  unfold digV
  rw [Bool.and_eq_true, decide_eq_true_iff]
  have : (d.data.toList.all fun c => decide (48 <= c.toNat /\ c.toNat <= 57)) = true ↔ Dig d.data.toList := dig_all
  rw [this]
  have : d.data.toList ≠ [] ↔ d ≠ ByteArray.empty := by
   constructor
   ·intro h1 h2; apply h1; rw [h2]; rfl
   ·intro h1 h2; exact h1 (ByteArray.ext (Array.toList_inj.1 h2))
  rw [this]
 unfold numV
 by_cases h0 : ng = false /\ d = one /\ e = 0
 ·rw [if_pos h0, if_pos h0.2.1]; simp [h0.1, h0.2.2]
 rw [if_neg h0]
 by_cases h1 : d = ByteArray.empty
 ·rw [if_pos h1, if_neg (by rw [h1]; decide)]
  constructor
  ·intro h; omega
  ·intro h; exact absurd h1 (hdig.1 h.1).2
 rw [if_neg h1]
 by_cases h2 : trimV d tenDigits = ByteArray.empty
 ·have hd := dig_trim h2
  rw [if_neg (by simp [h2])]
  have hpos : 0 < d.size := by
   rcases Nat.eq_zero_or_pos d.size with h | h
   ·exact absurd (size_zero.1 h) h1
   ·exact h
  have hx := ext_last hpos
  by_cases ho : d = one
  ·rw [if_pos ho]
   have f0 : (d.data.toList.getD 0 0).toNat = 48 := by rw [ho]; decide
   by_cases h3 : 40 < (d.size : Int)
   ·rw [if_pos h3]
    constructor
    ·intro h; omega
    ·intro h; exact absurd ⟨h.1, ho, h.2⟩ h0
   ·rw [if_neg h3, if_pos f0]
    constructor
    ·intro h; omega
    ·intro h; exact absurd ⟨h.1, ho, h.2⟩ h0
  ·rw [if_neg ho]
   have hdv : digV d = true := hdig.2 ⟨hd, h1⟩
   clear hdig h0
   by_cases h3 : 40 < (d.size : Int)
   ·rw [if_pos h3]; exact ⟨fun h => by omega, fun h => by omega⟩
   rw [if_neg h3]
   by_cases h4 : (d.data.toList.getD 0 0).toNat = 48
   ·rw [if_pos h4]; exact ⟨fun h => by omega, fun h => absurd h4 h.2.2.1⟩
   rw [if_neg h4]
   by_cases h5 : d.extract (d.size - 1) d.size = one
   ·rw [if_pos h5]; exact ⟨fun h => by omega, fun h => absurd (hx.1 h5) h.2.2.2.1⟩
   rw [if_neg h5]
   by_cases h6 : e < -400
   ·rw [if_pos h6]; exact ⟨fun h => by omega, fun h => by omega⟩
   rw [if_neg h6]
   by_cases h7 : 400 < e
   ·rw [if_pos h7]; exact ⟨fun h => by omega, fun h => by omega⟩
   rw [if_neg h7]
   exact ⟨fun _ => ⟨hdv, by omega, h4, fun h => h5 (hx.2 h), by omega, by omega⟩, fun _ => rfl⟩
 ·rw [if_pos h2]
  have hno : ¬ digV d = true := fun h => h2 (trim_dig (hdig.1 h).1)
  by_cases ho : d = one
  ·exact absurd (by rw [ho]; exact trim_dig dig_one) h2
  ·rw [if_neg ho]; exact ⟨fun h => by omega, fun h => absurd h.1 hno⟩
end Go.Proofs.YtflhikakndanjaaGreatDoor.Vk
/- Contracts of the reference of chapter 1: Is, Made, Small, Whole. -/
namespace Go.Proofs.YtflhikakndanjaaGreatDoor.Vk
open Go Go.Ab Go.RowKit
def heads_qis : List Hd := []
def entry_qis : Tree :=
 (.ite (.pr (.scmp .eql) [(.c 1 .v0), (.lit (.string (mkS [48])))])
 (.ite (.c 0 .v0) .no
 (.rt (.eq (.c 2 .v0) (.i 0))))
 (.giv (.app 1000 [(.c 1 .v0)])
 (.ite (.app 36 [(.c 1 .v0)])
 (.ite (.le (.pr .slen [(.c 1 .v0)]) (.i 40))
 (.giv (.lt (.i 0) (.pr .slen [(.c 1 .v0)]))
 (.ite (.ne (.pr .sat [(.c 1 .v0), (.i 0)]) (.lit (.int .u8 48)))
 (.giv (.le (.i 0) (.pr (.iop .sub .i64) [(.pr .slen [(.c 1 .v0)]), (.i 1)]))
 (.giv (.lt (.pr (.iop .sub .i64) [(.pr .slen [(.c 1 .v0)]), (.i 1)]) (.pr .slen [(.c 1 .v0)]))
 (.ite (.ne (.pr .sat [(.c 1 .v0), (.pr (.iop .sub .i64) [(.pr .slen [(.c 1 .v0)]), (.i 1)])]) (.lit (.int .u8 48)))
 (.ite (.ge (.c 2 .v0) (.i (-400)))
 (.rt (.le (.c 2 .v0) (.i 400))) .no) .no))) .no)) .no) .no)))
def trees_qis : List Tree := []
noncomputable def deps_qis : List Sig := [q_rall]
theorem ok_qis : check q_qis deps_qis heads_qis entry_qis trees_qis = true := by kernel_rfl
theorem qis_ok (n : Nat) : @Ok (I n) q_qis (okD n) := by
 letI := I n
 refine fn_ok (hphi n) ok_qis (by
  intro q hq
  simp only [deps_qis, List.mem_singleton] at hq
  subst hq
  exact rall_ok n) (fun _ _ _ => False) (fun _ _ => 0) ?_ (fun j h t d ds hj => by simp [heads_qis] at hj)
 intro ds hf hp
 obtain ⟨a, d, e, rfl⟩ := one_num hf
 have hpn := okD_one.1 hp
 have hd : d.size <= lim := (lim_numD (a, d, e)).1 hpn.2
 have hsz : (numD (a, d, e)).sz < n := hpn.1
 rw [sz_numD] at hsz
 have o1 : okD n [sD d] := okD_one.2 ⟨by rw [sz_sD]; omega, lim_sD.2 hd⟩
 have hw : digV d = true -> 0 < d.size /\ IntKind.i64.wrap ((d.size : Int) - 1) = ((d.size - 1 : Nat) : Int) := fun h => by
  have h : d.data.toList ≠ [] := by
   unfold digV at h
   rw [Bool.and_eq_true, decide_eq_true_iff] at h
   exact h.2
  have : 0 < d.size := by
   rw [size_len]
   exact List.length_pos_iff.2 h
  have hs : d.size <= 140737488355328 := hd
  exact ⟨this, by rw [wrap_id (by omega) (by omega)]; omega⟩
 have h3 := num_iff a d e
 have ho : (mkS [48]) = one := rfl
 have hq : @Interp.phi (I n) q_qis.g [D.row [bD a, sD d, iD e]] = bD (decide (numV a d e = 0)) := rfl
 simp only [entry_qis, Tree.holds, Out.den, E.den, E.denL, dn, List.getD_cons_zero, List.getD_cons_succ, List.length_map, phi_1000, ho, phi_rall, hq, o1, row_at0, row_at1, row_at2]
 have hle : ∀ a b : Int, leI a b = decide (a <= b) := fun _ _ => rfl
 have he : ∀ a b : Int, eqI a b = decide (a = b) := fun _ _ => rfl
 simp only [hle, he]
 clear hq hf hp hpn hsz o1
 have h3 : decide (numV a d e = 0) = true ↔ _ := decide_eq_true_iff.trans h3
 generalize decide (numV a d e = 0) = F at *
 have no : ∀ (p : Prop), (F = true -> p) -> ¬ p -> D.v (.bool false) = bD F := fun p h1 h2 => by
  cases F with
  | false => rfl
  | true => exact absurd (h1 rfl) h2
 have ye : ∀ (b : Bool), (F = true ↔ b = true) -> bD b = bD F := fun b h => by rw [Bool.eq_iff_iff.2 h]
 by_cases e1 : d = one
 ·rw [if_pos e1] at h3
  refine ⟨fun _ => ⟨fun hb => no _ (fun h => (h3.1 h).1) (by rw [hb]; decide), fun hb => ye _ ?_⟩, fun h => absurd e1 h⟩
  rw [h3, decide_eq_true_iff]; exact ⟨fun h => h.2, fun h => ⟨hb, h⟩⟩
 ·rw [if_neg e1] at h3
  refine ⟨fun h => absurd h e1, fun _ => ⟨fun hd => ?_, fun hd => no _ (fun h => (h3.1 h).1) (by rw [hd]; decide)⟩⟩
  obtain ⟨w1, w2⟩ := hw hd
  rw [w2]
  simp only [Int.toNat_natCast, Int.toNat_zero]
  refine ⟨fun c1 => ⟨by omega, fun c2 => ⟨by omega, by omega, fun c3 => ⟨fun c4 => ye _ ?_, fun c4 => no _ (fun h => (h3.1 h).2.2.2.2.1) c4⟩, fun c3 => no _ (fun h => (h3.1 h).2.2.2.1) (by omega)⟩, fun c2 => no _ (fun h => (h3.1 h).2.2.1) (by omega)⟩, fun c1 => no _ (fun h => (h3.1 h).2.1) c1⟩
  rw [h3, decide_eq_true_iff]
  exact ⟨fun h => h.2.2.2.2.2, fun h => ⟨hd, c1, by omega, by omega, c4, h⟩⟩
theorem u48 {c : UInt8} (h : (c.toNat : Int) = 48) : c = 48 := UInt8.toNat_inj.1 (by show c.toNat = 48; omega)
theorem ext_list (d : ByteArray) (a b : Nat) : (d.extract a b).data.toList = (d.data.toList.drop a).take (b - a) := by
 rw [ByteArray.data_extract, Array.toList_extract]
def madeZ (ng : Bool) (d : ByteArray) (e : Int) : NumT × Int :=
 let r := cutRV d one
 let x := wrap (wrap (e + d.size) - r.size)
 if numV ng r x = 0 then ((ng, r, x), 0) else (noNumT, 2)
theorem made_def (ng : Bool) (d : ByteArray) (e : Int) : madeV ng d e = if cutLV d one = ByteArray.empty then (zeroT, 0) else madeZ ng (cutLV d one) e := rfl
def numB (r : NumT × Int) : D := .row [numD r.1, bD (decide (r.2 = 0))]
theorem cutL_cons {d : ByteArray} (h : 0 < d.size) : (d.data.toList.getD 0 0 = 48 -> cutLV d one = cutLV (d.extract 1 d.size) one) /\ (d.data.toList.getD 0 0 ≠ 48 -> cutLV d one = d) := by
 cases hl : d.data.toList with
 | nil =>
  rw [<- list_len, hl] at h
  exact absurd h (by simp)
 | cons x r =>
  have e1 : (d.extract 1 d.size).data.toList = r := by
   rw [ext_list, hl, List.drop_succ_cons, List.drop_zero, <- list_len, hl, List.length_cons, Nat.add_sub_cancel, List.take_length]
  show (x = 48 -> _) /\ (x ≠ 48 -> _)
  unfold cutLV Lib.trimLeftS
  rw [e1, hl, List.dropWhile_cons]
  refine ⟨fun hx => by rw [if_pos (by rw [isOne]; simpa using hx)], fun hx => ?_⟩
  rw [if_neg (by rw [isOne]; simpa using hx), <- hl]
theorem cutL_none {d : ByteArray} (h : d.size = 0) : cutLV d one = ByteArray.empty := by
 have : d.data.toList = [] := List.eq_nil_of_length_eq_zero (by rw [list_len]; exact h)
 unfold cutLV
 rw [this]; rfl
theorem cutR_last {d : ByteArray} (h : 0 < d.size) : (d.data.toList.getD (d.size - 1) 0 = 48 -> cutRV d one = cutRV (d.extract 0 (d.size - 1)) one) /\ (d.data.toList.getD (d.size - 1) 0 ≠ 48 -> cutRV d one = d) := by
 have hne : d.data.toList ≠ [] := fun e => by rw [<- list_len, e] at h; exact absurd h (by simp)
 have hd := (List.dropLast_concat_getLast hne).symm
 have hg : d.data.toList.getD (d.size - 1) 0 = d.data.toList.getLast hne := by
  rw [List.getD_eq_getElem?_getD, <- list_len, List.getElem?_eq_getElem (by rw [list_len]; omega), List.getLast_eq_getElem]; rfl
 have e1 : (d.extract 0 (d.size - 1)).data.toList = d.data.toList.dropLast := by
  rw [ext_list, List.drop_zero, List.dropLast_eq_take, list_len]; rfl
 rw [hg]
 generalize d.data.toList.getLast hne = x at *
 refine ⟨fun hx => ?_, fun hx => ?_⟩
 ·unfold cutRV
  rw [e1]
  have := trimR_zeros d.data.toList.dropLast 1
  rw [hx] at hd
  have hd : d.data.toList = d.data.toList.dropLast ++ List.replicate 1 48 := hd
  rw [<- hd] at this
  rw [this]
 ·unfold cutRV
  rw [trimR_last hd fun h => hx (UInt8.toNat_inj.1 h)]
-- head 0 of loop 0: [t0 .sh (.cell (.sc .b)), t1 .sh (.cell (.sc .s)), t2 .sh (.cell (.sc (.i .i64))), t6 .bx 23 103079215104]
-- head 1 of loop 1: [t0 .sh (.cell (.sc .b)), t1 .sh (.cell (.sc .s)), t2 .sh (.cell (.sc (.i .i64))), t6 .bx 23 103079215104]
def heads_qmade : List Hd := [⟨0, [.sh (.cell (.sc .b)), .sh (.cell (.sc .s)), .sh (.cell (.sc (.i .i64))), .any, .any, .any, .bx 23 103079215104, .any, .any, .any, .any, .any, .any, .any, .any, .any, .any, .any, .any, .any, .any, .any, .any, .any, .any, .any, .any, .any, .any, .any, .any, .any, .any, .any, .any, .any, .any, .any, .any, .any, .any, .any, .any, .any]⟩, ⟨1, [.sh (.cell (.sc .b)), .sh (.cell (.sc .s)), .sh (.cell (.sc (.i .i64))), .any, .any, .any, .bx 23 103079215104, .any, .any, .any, .any, .any, .any, .any, .any, .any, .any, .any, .any, .any, .any, .any, .any, .any, .any, .any, .any, .any, .any, .any, .any, .any, .any, .any, .any, .any, .any, .any, .any, .any, .any, .any, .any, .any]⟩]
def entry_qmade : Tree :=
 (.g 0 [.v0, .v1, .v2, (.pr .row [(.lit (.bool false)), (.lit (.string .empty)), (.i 0)])])
def head_qmade_0 : Tree :=
 (.ite (.gt (.pr .slen [.v1]) (.i 0))
 (.giv (.lt (.i 0) (.pr .slen [.v1]))
 (.ite (.eq (.pr .sat [.v1, (.i 0)]) (.lit (.int .u8 48)))
 (.giv (.le (.i 1) (.pr .slen [.v1]))
 (.g 0 [.v0, (.pr .ssub [.v1, (.i 1), (.pr .slen [.v1])]), .v2, (.r3 .v3)]))
 (.ite (.pr (.scmp .eql) [.v1, (.lit (.string .empty))])
 (.rt (.pr .row [(.pr .row [(.lit (.bool false)), (.lit (.string (mkS [48]))), (.i 0)]), (.lit (.bool true))]))
 (.g 1 [.v0, .v1, .v2, (.r3 .v3)]))))
 (.ite (.pr (.scmp .eql) [.v1, (.lit (.string .empty))])
 (.rt (.pr .row [(.pr .row [(.lit (.bool false)), (.lit (.string (mkS [48]))), (.i 0)]), (.lit (.bool true))]))
 (.g 1 [.v0, .v1, .v2, (.r3 .v3)])))
def head_qmade_1 : Tree :=
 (.giv (.le (.i 0) (.pr (.iop .sub .i64) [(.pr .slen [.v1]), (.i 1)]))
 (.giv (.lt (.pr (.iop .sub .i64) [(.pr .slen [.v1]), (.i 1)]) (.pr .slen [.v1]))
 (.ite (.eq (.pr .sat [.v1, (.pr (.iop .sub .i64) [(.pr .slen [.v1]), (.i 1)])]) (.lit (.int .u8 48)))
 (.giv (.le (.pr (.iop .sub .i64) [(.pr .slen [.v1]), (.i 1)]) (.pr .slen [.v1]))
 (.g 1 [.v0, (.pr .ssub [.v1, (.i 0), (.pr (.iop .sub .i64) [(.pr .slen [.v1]), (.i 1)])]), (.pr (.iop .add .i64) [.v2, (.i 1)]), (.r3 .v3)]))
 (.giv (.app 1000 [(.pr .row [.v0, .v1, .v2])])
 (.ite (.app 96 [(.pr .row [.v0, .v1, .v2])])
 (.rt (.pr .row [(.pr .row [.v0, .v1, .v2]), (.lit (.bool true))]))
 (.rt (.pr .row [(.pr .row [(.lit (.bool false)), (.lit (.string .empty)), (.i 0)]), (.lit (.bool false))])))))))
def trees_qmade : List Tree := [head_qmade_0, head_qmade_1]
noncomputable def deps_qmade : List Sig := [q_qis]
theorem ok_qmade : check q_qmade deps_qmade heads_qmade entry_qmade trees_qmade = true := by kernel_rfl
theorem qmade_more (n : Nat) : @Ok (I n) q_qmade (fun ds => @okS (I n) n q_qmade.g ds /\ 10 < n) := by
 letI := I n
 refine fn_ok (hphi n) ok_qmade (by
  intro q hq
  simp only [deps_qmade, List.mem_singleton] at hq
  subst hq
  exact qis_ok n)
  (fun j dd ds => ∃ (ng : Bool) (d : ByteArray) (e : Int) (r : D), ds = [bD ng, sD d, iD e, r] /\ d.size <= lim /\ 10 < n /\ -1099511627776 <= e /\ e + d.size <= 1099511627776 + 140737488355328 /\
   ((j = 0 /\ dd = numB (madeV ng d e)) \/ (j = 1 /\ 0 < d.size /\ d.data.toList.getD 0 0 ≠ 48 /\ dd = numB (madeZ ng d e))))
  (fun j ds => (ds.getD 1 .nil).str.size + (if j = 0 then 1 else 0)) ?_ ?_
 ·intro ds hf hp
  obtain ⟨a, d, e, rfl⟩ := made_args hf
  obtain ⟨⟨⟨h1, h2⟩, h3⟩, hn⟩ := hp
  obtain ⟨p1, p2⟩ := (pre_qmade n a d e).1 (h3 rfl)
  simp only [D.LimL, and_true] at h2
  have hd : d.size <= lim := lim_sD.1 h2.2.1
  have hd' : d.size <= 140737488355328 := hd
  simp only [entry_qmade, q_qmade, Tree.holds, Out.den, E.den, E.denL, dn, List.getD_cons_zero, List.getD_cons_succ, List.length_map, phi_1000, phi_qmade]
  exact ⟨a, d, e, _, rfl, hd, hn, p1, by omega, .inl rfl⟩
 ·rintro j h t dd ds hj ht hf ⟨ng, d, e, r, rfl, hd, hn, p1, p2, ⟨rfl, rfl⟩ | ⟨rfl, hpos, hfst, rfl⟩⟩
  ·obtain rfl : t = head_qmade_0 := (Option.some.inj ht).symm
   have ho : (mkS [48]) = one := rfl
   simp only [head_qmade_0, Tree.holds, Out.den, E.den, E.denL, dn, List.getD_cons_zero, List.getD_cons_succ, List.length_map, phi_1000, ho, Int.toNat_zero]
   have hsz : d = ByteArray.empty -> d.size = 0 := fun h => by rw [h]; rfl
   by_cases hz : 0 < d.size
   ·obtain ⟨g1, g2⟩ := cutL_cons hz
    have hd' : d.size <= 140737488355328 := hd
    have hs1 : (d.extract (Int.toNat 1) (Int.toNat (d.size : Int))).size = d.size - 1 := by rw [ByteArray.size_extract, Int.toNat_natCast]; show min d.size d.size - 1 = _; omega
    refine ⟨fun _ => ⟨by omega, fun hx => ⟨by omega, ⟨ng, _, e, _, rfl, ?_, hn, p1, ?_, .inl ?_⟩, ?_⟩, fun hx => ⟨fun h => absurd (hsz h) (by omega), fun _ => ⟨⟨ng, d, e, _, rfl, hd, hn, p1, p2, .inr ⟨hz, ?_, ?_⟩⟩, ?_⟩⟩⟩, fun h => by omega⟩
    ·rw [hs1]; omega
    ·rw [hs1]; omega
    ·rw [made_def, made_def, g1 (u48 hx)]; rfl
    ·rw [hs1]; simp only [if_true]; omega
    ·intro hc; rw [hc] at hx; exact hx rfl
    ·have g3 := g2 fun hc => by rw [hc] at hx; exact hx rfl
     rw [made_def, g3, if_neg fun h => absurd (hsz h) (by omega)]
    ·simp only [if_true]; rw [if_neg (by decide)]; omega
   ·have h0 : d.size = 0 := by omega
    refine ⟨fun h => by omega, fun _ => ⟨fun _ => ?_, fun h => absurd (size_zero.1 h0) h⟩⟩
    rw [made_def, if_pos (cutL_none h0)]; rfl
  ·obtain rfl : t = head_qmade_1 := (Option.some.inj ht).symm
   have hd' : d.size <= 140737488355328 := hd
   have hw : IntKind.i64.wrap ((d.size : Int) - 1) = ((d.size - 1 : Nat) : Int) := by rw [wrapI (by omega) (by omega)]; omega
   have hwe : IntKind.i64.wrap (e + 1) = e + 1 := wrapI (by omega) (by omega)
   obtain ⟨g1, g2⟩ := cutR_last hpos
   have hs0 : (d.extract 0 (d.size - 1)).size = d.size - 1 := by rw [ByteArray.size_extract]; omega
   have on : okD n [numD (ng, d, e)] := okD_one.2 ⟨by rw [sz_numD]; omega, (lim_numD _).2 hd⟩
   have hn0 : ∀ (a : Bool) (b : ByteArray) (c : Int), D.row [bD a, sD b, iD c] = numD (a, b, c) := fun _ _ _ => rfl
   simp only [head_qmade_1, Tree.holds, Out.den, E.den, E.denL, dn, List.getD_cons_zero, List.getD_cons_succ, List.length_map, phi_1000, hw, hwe, Int.toNat_natCast, Int.toNat_zero, hn0, phi_qis, on]
   refine ⟨by omega, by omega, fun hx => ⟨by omega, ⟨ng, _, e + 1, _, rfl, ?_, hn, by omega, ?_, .inr ⟨?_, ?_, ?_⟩⟩, ?_⟩, fun hx => ⟨fun hq => ?_, fun hq => ?_⟩⟩
   ·rw [hs0]; omega
   ·rw [hs0]; omega
   ·rw [hs0]
    have : d.size ≠ 1 := fun h1 => by
     rw [h1] at hx
     exact hfst (u48 hx)
    omega
   ·have h2 : d.size ≠ 1 := fun h1 => by
     rw [h1] at hx
     exact hfst (u48 hx)
    rw [ext_list, List.drop_zero, List.getD_eq_getElem?_getD, List.getElem?_take_of_lt (by omega), <- List.getD_eq_getElem?_getD]
    exact hfst
   ·unfold madeZ
    have e1 : wrap (e + (d.size : Int)) = wrap (e + 1 + ((d.size - 1 : Nat) : Int)) := by congr 1; omega
    rw [hs0, <- g1 (u48 hx), e1]
   ·rw [hs0]; omega
   ·have g3 := g2 fun hc => by rw [hc] at hx; exact hx rfl
    unfold madeZ
    have e1 : wrap (wrap (e + (d.size : Int)) - (d.size : Int)) = e := by
     rw [wrapN (i := e + (d.size : Int)) (by omega) (by omega), wrapN (by omega) (by omega)]; omega
    simp only [g3, e1]
    rw [if_pos (show numV ng d e = 0 from of_decide_eq_true hq)]; rfl
   ·have g3 := g2 fun hc => by rw [hc] at hx; exact hx rfl
    unfold madeZ
    have e1 : wrap (wrap (e + (d.size : Int)) - (d.size : Int)) = e := by
     rw [wrapN (i := e + (d.size : Int)) (by omega) (by omega), wrapN (by omega) (by omega)]; omega
    simp only [g3, e1]
    rw [if_neg (show ¬ numV ng d e = 0 from of_decide_eq_false hq)]; rfl
theorem qmade_ok (n : Nat) : @Ok (I n) q_qmade (@okS (I n) n q_qmade.g) :=
 ok_irrel (by decide) (@Ok.less (I (n + 20)) _ _ _ (qmade_more (n + 20)) fun ds h => ⟨⟨⟨by have := h.1.1; omega, h.1.2⟩, h.2⟩, by omega⟩)
end Go.Proofs.YtflhikakndanjaaGreatDoor.Vk
/- Contracts of the reference of chapter 1: Zeros, less, aligned, Less. -/
namespace Go.Proofs.YtflhikakndanjaaGreatDoor.Vk
open Go Go.Ab Go.RowKit
theorem one_int {d : List D} (h : FitL tb [.cell (.sc (.i .i64))] d) : ∃ i, d = [iD i] := by
 match d, h with
 | [a], ⟨h1, _⟩ =>
  obtain ⟨l, rfl⟩ := fits_int h1
  exact ⟨l, rfl⟩
theorem zer_succ (i : Nat) : zer (i : Int) ++ mkS [48] = zer ((i + 1 : Nat) : Int) := by
 refine ByteArray.ext (Array.toList_inj.1 ?_)
 rw [cat_list, zer_list, zer_list, Int.toNat_natCast, Int.toNat_natCast, List.replicate_succ']
 rfl
-- head 0 of loop 0: [t0 .sh (.cell (.sc (.i .i64))), t3 .sh (.cell (.sc .s)), t4 .sh (.cell (.sc (.i .i64)))]
def heads_rzeros : List Hd := [⟨0, [.sh (.cell (.sc (.i .i64))), .any, .any, .sh (.cell (.sc .s)), .sh (.cell (.sc (.i .i64))), .any, .any, .any, .any, .any, .any, .any, .any]⟩]
def entry_rzeros : Tree :=
 (.g 0 [.v0, (.lit (.string .empty)), (.i 0)])
def head_rzeros_0 : Tree :=
 (.ite (.lt .v2 .v0)
 (.giv (.le (.pr .slen [.v1]) (.i 1099511627776))
 (.g 0 [.v0, (.pr .scat [.v1, (.lit (.string (mkS [48])))]), (.pr (.iop .add .i64) [.v2, (.i 1)])]))
 (.rt .v1))
def trees_rzeros : List Tree := [head_rzeros_0]
noncomputable def deps_rzeros : List Sig := []
theorem ok_rzeros : check q_rzeros deps_rzeros heads_rzeros entry_rzeros trees_rzeros = true := by kernel_rfl
theorem rzeros_ok (n : Nat) : @Ok (I n) q_rzeros (@okS (I n) n q_rzeros.g) := by
 letI := I n
 refine fn_okS (hphi n) ok_rzeros (by intro q hq; simp [deps_rzeros] at hq)
  (fun _ d ds => ∃ (m i : Nat), ds = [iD m, sD (zer i), iD i] /\ i <= m /\ m <= 1000000 /\ d = sD (zer m))
  (fun _ ds => (ds.getD 0 .nil).int.toNat - (ds.getD 2 .nil).int.toNat) ?_ ?_
 ·intro ds hf hp
  obtain ⟨i, rfl⟩ := one_int hf
  obtain ⟨p1, p2⟩ := (pre_rzeros n i).1 (hp.2 rfl)
  obtain ⟨m, rfl⟩ : ∃ m : Nat, i = m := ⟨i.toNat, by omega⟩
  simp only [entry_rzeros, q_rzeros, Tree.holds, Out.den, E.den, E.denL, dn, List.getD_cons_zero, List.getD_cons_succ, List.length_map, phi_1000, phi_rzeros]
  exact ⟨m, 0, rfl, Nat.zero_le _, by omega, rfl⟩
 ·rintro j h t d ds hj ht hf ⟨m, i, rfl, hi, hm, rfl⟩
  obtain rfl : t = head_rzeros_0 := by
   match j, ht with
   | 0, ht => exact (Option.some.inj ht).symm
  by_cases hlt : i < m
  ·simp only [head_rzeros_0, Tree.holds, Out.den, E.den, E.denL, dn, List.getD_cons_zero, List.getD_cons_succ, List.length_map, phi_1000, wrap_succ hlt (show m <= lim by have : 1000000 <= lim := (by decide); omega), zer_succ, zer_size]
   exact ⟨fun _ => ⟨by omega, ⟨m, i + 1, rfl, hlt, hm, rfl⟩, by omega⟩, fun h => by omega⟩
  ·obtain rfl : i = m := by omega
   simp only [head_rzeros_0, Tree.holds, Out.den, E.den, E.denL, dn, List.getD_cons_zero, List.getD_cons_succ, List.length_map, phi_1000]
   exact ⟨fun h => by omega, fun _ => trivial⟩
-- head 0 of loop 0: [t0 .sh (.cell (.sc .s)), t1 .sh (.cell (.sc .s)), t5 .sh (.cell (.sc (.i .i64)))]
def heads_rless : List Hd := [⟨0, [.sh (.cell (.sc .s)), .sh (.cell (.sc .s)), .any, .any, .any, .sh (.cell (.sc (.i .i64))), .any, .any, .any, .any, .any, .any, .any, .any, .any, .any, .any, .any, .any, .any, .any, .any, .any, .any, .any, .any]⟩]
def entry_rless : Tree :=
 (.g 0 [.v0, .v1, (.i 0)])
def head_rless_0 : Tree :=
 (.ite (.lt .v2 (.pr .slen [.v0]))
 (.giv (.le (.i 0) .v2)
 (.giv (.lt .v2 (.pr .slen [.v1]))
 (.ite (.ne (.pr .sat [.v0, .v2]) (.pr .sat [.v1, .v2]))
 (.rt (.lt (.pr .sat [.v0, .v2]) (.pr .sat [.v1, .v2])))
 (.g 0 [.v0, .v1, (.pr (.iop .add .i64) [.v2, (.i 1)])])))) .no)
def trees_rless : List Tree := [head_rless_0]
noncomputable def deps_rless : List Sig := []
theorem ok_rless : check q_rless deps_rless heads_rless entry_rless trees_rless = true := by kernel_rfl
theorem rless_ok (n : Nat) : @Ok (I n) q_rless (@okS (I n) n q_rless.g) := by
 letI := I n
 refine fn_okS (hphi n) ok_rless (by intro q hq; simp [deps_rless] at hq)
  (fun _ d ds => ∃ (a b : ByteArray) (i : Nat), ds = [sD a, sD b, iD i] /\ i <= a.size /\ a.size = b.size /\ a.size <= lim /\ d = bD (decide (Lib.compareBytes (a.data.toList.drop i) (b.data.toList.drop i) = -1)))
  (fun _ ds => (ds.getD 0 .nil).str.size - (ds.getD 2 .nil).int.toNat) ?_ ?_
 ·intro ds hf hp
  obtain ⟨a, b, rfl⟩ : ∃ a b, ds = [sD a, sD b] := by
   match ds, hf with
   | [x, y], ⟨h1, h2, _⟩ =>
    obtain ⟨a, rfl⟩ := fits_str h1
    obtain ⟨b, rfl⟩ := fits_str h2
    exact ⟨a, b, rfl⟩
  have hs := (pre_rless n a b).1 (hp.2 rfl)
  have hl := lim_sD.1 (okD_two.1 hp.1).2.1
  simp only [entry_rless, q_rless, Tree.holds, Out.den, E.den, E.denL, dn, List.getD_cons_zero, List.getD_cons_succ, List.length_map, phi_1000, phi_rless]
  exact ⟨a, b, 0, rfl, Nat.zero_le _, hs, hl, rfl⟩
 ·rintro j h t d ds hj ht hf ⟨a, b, i, rfl, hi, hab, hl, rfl⟩
  obtain rfl : t = head_rless_0 := by
   match j, ht with
   | 0, ht => exact (Option.some.inj ht).symm
  by_cases hlt : i < a.size
  ·obtain ⟨x, hx, _, hd⟩ := drop_get (show i < a.data.toList.length by rw [<- size_len]; exact hlt)
   obtain ⟨y, hy, _, hd'⟩ := drop_get (show i < b.data.toList.length by rw [<- size_len]; omega)
   have hx' : a.data.toList.getD i 0 = x := by rw [List.getD_eq_getElem?_getD, hx]; rfl
   have hy' : b.data.toList.getD i 0 = y := by rw [List.getD_eq_getElem?_getD, hy]; rfl
   simp only [head_rless_0, Tree.holds, Out.den, E.den, E.denL, dn, List.getD_cons_zero, List.getD_cons_succ, List.length_map, phi_1000, wrap_succ hlt hl, Int.toNat_natCast, hx', hy']
   rw [hd, hd']
   have step : Lib.compareBytes (x :: a.data.toList.drop (i + 1)) (y :: b.data.toList.drop (i + 1)) = if x < y then -1 else if y < x then 1 else Lib.compareBytes (a.data.toList.drop (i + 1)) (b.data.toList.drop (i + 1)) := rfl
   rw [step]
   simp only [ltb]
   refine ⟨fun _ => ⟨by omega, by omega, fun hb => ?_, fun hb => ⟨⟨a, b, i + 1, rfl, hlt, hab, hl, ?_⟩, by omega⟩⟩, fun h => by omega⟩
   ·have : ltI x.toNat y.toNat = decide ((if x.toNat < y.toNat then (-1 : Int) else if y.toNat < x.toNat then 1 else Lib.compareBytes (a.data.toList.drop (i + 1)) (b.data.toList.drop (i + 1))) = -1) := by
     rw [Bool.eq_iff_iff, ltI_t, decide_eq_true_iff]
     split
     ·exact ⟨fun _ => rfl, fun _ => by omega⟩
     ·split
      ·exact ⟨fun h => by omega, fun h => by omega⟩
      ·omega
    rw [this]
   ·rw [if_neg (by omega), if_neg (by omega)]
  ·simp only [head_rless_0, Tree.holds, Out.den, E.den, E.denL, dn, List.getD_cons_zero, List.getD_cons_succ, List.length_map, phi_1000]
   refine ⟨fun h => by omega, fun _ => ?_⟩
   rw [List.drop_eq_nil_of_le (by rw [<- size_len]; omega), List.drop_eq_nil_of_le (by rw [<- size_len]; omega)]
   rfl
def heads_raligned : List Hd := []
def entry_raligned : Tree :=
 (.giv (.app 1000 [(.pr (.iop .sub .i64) [(.c 2 .v0), (.pr .ite [(.lt (.c 2 .v1) (.c 2 .v0)), (.c 2 .v1), (.c 2 .v0)])])])
 (.giv (.app 2037 [(.pr (.iop .sub .i64) [(.c 2 .v0), (.pr .ite [(.lt (.c 2 .v1) (.c 2 .v0)), (.c 2 .v1), (.c 2 .v0)])])])
 (.giv (.le (.pr .slen [(.c 1 .v0)]) (.i 1099511627776))
 (.giv (.le (.pr .slen [(.app 37 [(.pr (.iop .sub .i64) [(.c 2 .v0), (.pr .ite [(.lt (.c 2 .v1) (.c 2 .v0)), (.c 2 .v1), (.c 2 .v0)])])])]) (.i 1099511627776))
 (.giv (.app 1000 [(.pr (.iop .sub .i64) [(.c 2 .v1), (.pr .ite [(.lt (.c 2 .v1) (.c 2 .v0)), (.c 2 .v1), (.c 2 .v0)])])])
 (.giv (.app 2037 [(.pr (.iop .sub .i64) [(.c 2 .v1), (.pr .ite [(.lt (.c 2 .v1) (.c 2 .v0)), (.c 2 .v1), (.c 2 .v0)])])])
 (.giv (.le (.pr .slen [(.c 1 .v1)]) (.i 1099511627776))
 (.giv (.le (.pr .slen [(.app 37 [(.pr (.iop .sub .i64) [(.c 2 .v1), (.pr .ite [(.lt (.c 2 .v1) (.c 2 .v0)), (.c 2 .v1), (.c 2 .v0)])])])]) (.i 1099511627776))
 (.giv (.app 1000 [(.pr (.iop .sub .i64) [(.pr .ite [(.gt (.pr .slen [(.pr .scat [(.c 1 .v1), (.app 37 [(.pr (.iop .sub .i64) [(.c 2 .v1), (.pr .ite [(.lt (.c 2 .v1) (.c 2 .v0)), (.c 2 .v1), (.c 2 .v0)])])])])]) (.pr .slen [(.pr .scat [(.c 1 .v0), (.app 37 [(.pr (.iop .sub .i64) [(.c 2 .v0), (.pr .ite [(.lt (.c 2 .v1) (.c 2 .v0)), (.c 2 .v1), (.c 2 .v0)])])])])])), (.pr .slen [(.pr .scat [(.c 1 .v1), (.app 37 [(.pr (.iop .sub .i64) [(.c 2 .v1), (.pr .ite [(.lt (.c 2 .v1) (.c 2 .v0)), (.c 2 .v1), (.c 2 .v0)])])])])]), (.pr .slen [(.pr .scat [(.c 1 .v0), (.app 37 [(.pr (.iop .sub .i64) [(.c 2 .v0), (.pr .ite [(.lt (.c 2 .v1) (.c 2 .v0)), (.c 2 .v1), (.c 2 .v0)])])])])])]), (.pr .slen [(.pr .scat [(.c 1 .v0), (.app 37 [(.pr (.iop .sub .i64) [(.c 2 .v0), (.pr .ite [(.lt (.c 2 .v1) (.c 2 .v0)), (.c 2 .v1), (.c 2 .v0)])])])])])])])
 (.giv (.app 2037 [(.pr (.iop .sub .i64) [(.pr .ite [(.gt (.pr .slen [(.pr .scat [(.c 1 .v1), (.app 37 [(.pr (.iop .sub .i64) [(.c 2 .v1), (.pr .ite [(.lt (.c 2 .v1) (.c 2 .v0)), (.c 2 .v1), (.c 2 .v0)])])])])]) (.pr .slen [(.pr .scat [(.c 1 .v0), (.app 37 [(.pr (.iop .sub .i64) [(.c 2 .v0), (.pr .ite [(.lt (.c 2 .v1) (.c 2 .v0)), (.c 2 .v1), (.c 2 .v0)])])])])])), (.pr .slen [(.pr .scat [(.c 1 .v1), (.app 37 [(.pr (.iop .sub .i64) [(.c 2 .v1), (.pr .ite [(.lt (.c 2 .v1) (.c 2 .v0)), (.c 2 .v1), (.c 2 .v0)])])])])]), (.pr .slen [(.pr .scat [(.c 1 .v0), (.app 37 [(.pr (.iop .sub .i64) [(.c 2 .v0), (.pr .ite [(.lt (.c 2 .v1) (.c 2 .v0)), (.c 2 .v1), (.c 2 .v0)])])])])])]), (.pr .slen [(.pr .scat [(.c 1 .v0), (.app 37 [(.pr (.iop .sub .i64) [(.c 2 .v0), (.pr .ite [(.lt (.c 2 .v1) (.c 2 .v0)), (.c 2 .v1), (.c 2 .v0)])])])])])])])
 (.giv (.le (.pr .slen [(.app 37 [(.pr (.iop .sub .i64) [(.pr .ite [(.gt (.pr .slen [(.pr .scat [(.c 1 .v1), (.app 37 [(.pr (.iop .sub .i64) [(.c 2 .v1), (.pr .ite [(.lt (.c 2 .v1) (.c 2 .v0)), (.c 2 .v1), (.c 2 .v0)])])])])]) (.pr .slen [(.pr .scat [(.c 1 .v0), (.app 37 [(.pr (.iop .sub .i64) [(.c 2 .v0), (.pr .ite [(.lt (.c 2 .v1) (.c 2 .v0)), (.c 2 .v1), (.c 2 .v0)])])])])])), (.pr .slen [(.pr .scat [(.c 1 .v1), (.app 37 [(.pr (.iop .sub .i64) [(.c 2 .v1), (.pr .ite [(.lt (.c 2 .v1) (.c 2 .v0)), (.c 2 .v1), (.c 2 .v0)])])])])]), (.pr .slen [(.pr .scat [(.c 1 .v0), (.app 37 [(.pr (.iop .sub .i64) [(.c 2 .v0), (.pr .ite [(.lt (.c 2 .v1) (.c 2 .v0)), (.c 2 .v1), (.c 2 .v0)])])])])])]), (.pr .slen [(.pr .scat [(.c 1 .v0), (.app 37 [(.pr (.iop .sub .i64) [(.c 2 .v0), (.pr .ite [(.lt (.c 2 .v1) (.c 2 .v0)), (.c 2 .v1), (.c 2 .v0)])])])])])])])]) (.i 1099511627776))
 (.giv (.le (.pr .slen [(.pr .scat [(.c 1 .v0), (.app 37 [(.pr (.iop .sub .i64) [(.c 2 .v0), (.pr .ite [(.lt (.c 2 .v1) (.c 2 .v0)), (.c 2 .v1), (.c 2 .v0)])])])])]) (.i 1099511627776))
 (.giv (.app 1000 [(.pr (.iop .sub .i64) [(.pr .ite [(.gt (.pr .slen [(.pr .scat [(.c 1 .v1), (.app 37 [(.pr (.iop .sub .i64) [(.c 2 .v1), (.pr .ite [(.lt (.c 2 .v1) (.c 2 .v0)), (.c 2 .v1), (.c 2 .v0)])])])])]) (.pr .slen [(.pr .scat [(.c 1 .v0), (.app 37 [(.pr (.iop .sub .i64) [(.c 2 .v0), (.pr .ite [(.lt (.c 2 .v1) (.c 2 .v0)), (.c 2 .v1), (.c 2 .v0)])])])])])), (.pr .slen [(.pr .scat [(.c 1 .v1), (.app 37 [(.pr (.iop .sub .i64) [(.c 2 .v1), (.pr .ite [(.lt (.c 2 .v1) (.c 2 .v0)), (.c 2 .v1), (.c 2 .v0)])])])])]), (.pr .slen [(.pr .scat [(.c 1 .v0), (.app 37 [(.pr (.iop .sub .i64) [(.c 2 .v0), (.pr .ite [(.lt (.c 2 .v1) (.c 2 .v0)), (.c 2 .v1), (.c 2 .v0)])])])])])]), (.pr .slen [(.pr .scat [(.c 1 .v1), (.app 37 [(.pr (.iop .sub .i64) [(.c 2 .v1), (.pr .ite [(.lt (.c 2 .v1) (.c 2 .v0)), (.c 2 .v1), (.c 2 .v0)])])])])])])])
 (.giv (.app 2037 [(.pr (.iop .sub .i64) [(.pr .ite [(.gt (.pr .slen [(.pr .scat [(.c 1 .v1), (.app 37 [(.pr (.iop .sub .i64) [(.c 2 .v1), (.pr .ite [(.lt (.c 2 .v1) (.c 2 .v0)), (.c 2 .v1), (.c 2 .v0)])])])])]) (.pr .slen [(.pr .scat [(.c 1 .v0), (.app 37 [(.pr (.iop .sub .i64) [(.c 2 .v0), (.pr .ite [(.lt (.c 2 .v1) (.c 2 .v0)), (.c 2 .v1), (.c 2 .v0)])])])])])), (.pr .slen [(.pr .scat [(.c 1 .v1), (.app 37 [(.pr (.iop .sub .i64) [(.c 2 .v1), (.pr .ite [(.lt (.c 2 .v1) (.c 2 .v0)), (.c 2 .v1), (.c 2 .v0)])])])])]), (.pr .slen [(.pr .scat [(.c 1 .v0), (.app 37 [(.pr (.iop .sub .i64) [(.c 2 .v0), (.pr .ite [(.lt (.c 2 .v1) (.c 2 .v0)), (.c 2 .v1), (.c 2 .v0)])])])])])]), (.pr .slen [(.pr .scat [(.c 1 .v1), (.app 37 [(.pr (.iop .sub .i64) [(.c 2 .v1), (.pr .ite [(.lt (.c 2 .v1) (.c 2 .v0)), (.c 2 .v1), (.c 2 .v0)])])])])])])])
 (.giv (.le (.pr .slen [(.app 37 [(.pr (.iop .sub .i64) [(.pr .ite [(.gt (.pr .slen [(.pr .scat [(.c 1 .v1), (.app 37 [(.pr (.iop .sub .i64) [(.c 2 .v1), (.pr .ite [(.lt (.c 2 .v1) (.c 2 .v0)), (.c 2 .v1), (.c 2 .v0)])])])])]) (.pr .slen [(.pr .scat [(.c 1 .v0), (.app 37 [(.pr (.iop .sub .i64) [(.c 2 .v0), (.pr .ite [(.lt (.c 2 .v1) (.c 2 .v0)), (.c 2 .v1), (.c 2 .v0)])])])])])), (.pr .slen [(.pr .scat [(.c 1 .v1), (.app 37 [(.pr (.iop .sub .i64) [(.c 2 .v1), (.pr .ite [(.lt (.c 2 .v1) (.c 2 .v0)), (.c 2 .v1), (.c 2 .v0)])])])])]), (.pr .slen [(.pr .scat [(.c 1 .v0), (.app 37 [(.pr (.iop .sub .i64) [(.c 2 .v0), (.pr .ite [(.lt (.c 2 .v1) (.c 2 .v0)), (.c 2 .v1), (.c 2 .v0)])])])])])]), (.pr .slen [(.pr .scat [(.c 1 .v1), (.app 37 [(.pr (.iop .sub .i64) [(.c 2 .v1), (.pr .ite [(.lt (.c 2 .v1) (.c 2 .v0)), (.c 2 .v1), (.c 2 .v0)])])])])])])])]) (.i 1099511627776))
 (.giv (.le (.pr .slen [(.pr .scat [(.c 1 .v1), (.app 37 [(.pr (.iop .sub .i64) [(.c 2 .v1), (.pr .ite [(.lt (.c 2 .v1) (.c 2 .v0)), (.c 2 .v1), (.c 2 .v0)])])])])]) (.i 1099511627776))
 (.rt (.pr .row [(.pr .scat [(.app 37 [(.pr (.iop .sub .i64) [(.pr .ite [(.gt (.pr .slen [(.pr .scat [(.c 1 .v1), (.app 37 [(.pr (.iop .sub .i64) [(.c 2 .v1), (.pr .ite [(.lt (.c 2 .v1) (.c 2 .v0)), (.c 2 .v1), (.c 2 .v0)])])])])]) (.pr .slen [(.pr .scat [(.c 1 .v0), (.app 37 [(.pr (.iop .sub .i64) [(.c 2 .v0), (.pr .ite [(.lt (.c 2 .v1) (.c 2 .v0)), (.c 2 .v1), (.c 2 .v0)])])])])])), (.pr .slen [(.pr .scat [(.c 1 .v1), (.app 37 [(.pr (.iop .sub .i64) [(.c 2 .v1), (.pr .ite [(.lt (.c 2 .v1) (.c 2 .v0)), (.c 2 .v1), (.c 2 .v0)])])])])]), (.pr .slen [(.pr .scat [(.c 1 .v0), (.app 37 [(.pr (.iop .sub .i64) [(.c 2 .v0), (.pr .ite [(.lt (.c 2 .v1) (.c 2 .v0)), (.c 2 .v1), (.c 2 .v0)])])])])])]), (.pr .slen [(.pr .scat [(.c 1 .v0), (.app 37 [(.pr (.iop .sub .i64) [(.c 2 .v0), (.pr .ite [(.lt (.c 2 .v1) (.c 2 .v0)), (.c 2 .v1), (.c 2 .v0)])])])])])])]), (.pr .scat [(.c 1 .v0), (.app 37 [(.pr (.iop .sub .i64) [(.c 2 .v0), (.pr .ite [(.lt (.c 2 .v1) (.c 2 .v0)), (.c 2 .v1), (.c 2 .v0)])])])])]), (.pr .scat [(.app 37 [(.pr (.iop .sub .i64) [(.pr .ite [(.gt (.pr .slen [(.pr .scat [(.c 1 .v1), (.app 37 [(.pr (.iop .sub .i64) [(.c 2 .v1), (.pr .ite [(.lt (.c 2 .v1) (.c 2 .v0)), (.c 2 .v1), (.c 2 .v0)])])])])]) (.pr .slen [(.pr .scat [(.c 1 .v0), (.app 37 [(.pr (.iop .sub .i64) [(.c 2 .v0), (.pr .ite [(.lt (.c 2 .v1) (.c 2 .v0)), (.c 2 .v1), (.c 2 .v0)])])])])])), (.pr .slen [(.pr .scat [(.c 1 .v1), (.app 37 [(.pr (.iop .sub .i64) [(.c 2 .v1), (.pr .ite [(.lt (.c 2 .v1) (.c 2 .v0)), (.c 2 .v1), (.c 2 .v0)])])])])]), (.pr .slen [(.pr .scat [(.c 1 .v0), (.app 37 [(.pr (.iop .sub .i64) [(.c 2 .v0), (.pr .ite [(.lt (.c 2 .v1) (.c 2 .v0)), (.c 2 .v1), (.c 2 .v0)])])])])])]), (.pr .slen [(.pr .scat [(.c 1 .v1), (.app 37 [(.pr (.iop .sub .i64) [(.c 2 .v1), (.pr .ite [(.lt (.c 2 .v1) (.c 2 .v0)), (.c 2 .v1), (.c 2 .v0)])])])])])])]), (.pr .scat [(.c 1 .v1), (.app 37 [(.pr (.iop .sub .i64) [(.c 2 .v1), (.pr .ite [(.lt (.c 2 .v1) (.c 2 .v0)), (.c 2 .v1), (.c 2 .v0)])])])])]), (.pr .ite [(.lt (.c 2 .v1) (.c 2 .v0)), (.c 2 .v1), (.c 2 .v0)])]))))))))))))))))))
def trees_raligned : List Tree := []
noncomputable def deps_raligned : List Sig := [q_rzeros]
theorem ok_raligned : check q_raligned deps_raligned heads_raligned entry_raligned trees_raligned = true := by kernel_rfl
theorem levQ_size (p q : ByteArray) (hp : p.size <= 10000) (hq : q.size <= 10000) : (levQ p q).size = max p.size q.size := by
 have wz : IntKind.i64.wrap ((q.size : Int) - p.size) = (q.size : Int) - p.size := wrap_id (by omega) (by omega)
 show (zer (if 0 < IntKind.i64.wrap ((q.size : Int) - p.size) then IntKind.i64.wrap ((q.size : Int) - p.size) else 0) ++ p).size = _
 rw [cat_size, zer_size, wz]
 split <;> omega
theorem levP_size {d : ByteArray} {e x : Int} (h : d.size <= 40) (h1 : x <= e) (h2 : e - x <= 800) : (levP d e x).size = d.size + (e - x).toNat := by
 have w1 : IntKind.i64.wrap (e - x) = e - x := wrap_id (by omega) (by omega)
 show (d ++ zer (IntKind.i64.wrap (e - x))).size = _
 rw [cat_size, zer_size, w1]
theorem raligned_ok (n : Nat) : @Ok (I n) q_raligned (@okS (I n) n q_raligned.g) := by
 letI := I n
 refine fn_okS (hphi n) ok_raligned (by
  intro q hq
  simp only [deps_raligned, List.mem_singleton] at hq
  subst hq
  exact rzeros_ok n) (fun _ _ _ => False) (fun _ _ => 0) ?_ (fun j h t d ds hj => by simp [heads_raligned] at hj)
 intro ds hf hp
 obtain ⟨a, d, e, a', d', e', rfl⟩ := num_two hf
 obtain ⟨p1, p2, p3, p4, p5, p6⟩ := (pre_raligned n _ _ _ _ _ _).1 (hp.2 rfl)
 obtain ⟨h1, h2, h3⟩ := okD_two.1 hp.1
 simp only [D.sz, D.szL] at h1
 obtain ⟨x1, x2, x3⟩ := levX_le e e'
 have hr : ∀ i : Int, okD n [iD i] := fun i => okD_one.2 ⟨by simp only [D.sz]; omega, trivial⟩
 have w1 : IntKind.i64.wrap (e - levX e e') = e - levX e e' := wrap_id (by omega) (by omega)
 have w2 : IntKind.i64.wrap (e' - levX e e') = e' - levX e e' := wrap_id (by omega) (by omega)
 have s1 := levP_size (x := levX e e') p1 x1 (by omega)
 have s2 := levP_size (x := levX e e') p2 x2 (by omega)
 have f1 : (if e' < e then e' else e) = levX e e' := rfl
 have f2 : d ++ zer (IntKind.i64.wrap (e - levX e e')) = levP d e (levX e e') := rfl
 have f3 : d' ++ zer (IntKind.i64.wrap (e' - levX e e')) = levP d' e' (levX e e') := rfl
 simp only [entry_raligned, q_raligned, Tree.holds, Out.den, E.den, E.denL, dn, List.getD_cons_zero, List.getD_cons_succ, List.length_map, phi_1000, phi_rzeros, phi_raligned, pre_rzeros, row_at0, row_at1, row_at2, bif_iD, f1, f2, f3]
 have u1 : ((e - levX e e').toNat : Int) = e - levX e e' := Int.toNat_of_nonneg (by omega)
 have u2 : ((e' - levX e e').toNat : Int) = e' - levX e e' := Int.toNat_of_nonneg (by omega)
 rw [w1, w2]
 generalize levX e e' = x at *
 have q1 : (levP d e x).size <= 1000 := by omega
 have q2 : (levP d' e' x).size <= 1000 := by omega
 have q3 : (levQ (levP d e x) (levP d' e' x)).size <= 1000 := by rw [levQ_size _ _ (by omega) (by omega)]; omega
 have wz : ∀ a b : Nat, a <= 10000 -> b <= 10000 -> IntKind.i64.wrap ((a : Int) - b) = (a : Int) - b := fun a b _ _ => wrap_id (by omega) (by omega)
 have hm : (if (levP d e x).size < (levP d' e' x).size then ((levP d' e' x).size : Int) else (levP d e x).size) = ((max (levP d e x).size (levP d' e' x).size : Nat) : Int) := by split <;> omega
 have lq : ∀ p q : ByteArray, p.size <= 1000 -> q.size <= 1000 -> zer (((max p.size q.size : Nat) : Int) - p.size) ++ p = levQ p q := fun p q hp hq => by
  show _ = zer (if 0 < IntKind.i64.wrap ((q.size : Int) - p.size) then IntKind.i64.wrap ((q.size : Int) - p.size) else 0) ++ p
  rw [wz _ _ (by omega) (by omega)]
  have : ((max p.size q.size : Nat) : Int) - p.size = (if 0 < (q.size : Int) - p.size then (q.size : Int) - p.size else 0) := by split <;> omega
  rw [this]
 have e1 := lq _ _ q1 q2
 have e2 : zer (((max (levP d e x).size (levP d' e' x).size : Nat) : Int) - (levP d' e' x).size) ++ levP d' e' x = levQ (levP d' e' x) (levQ (levP d e x) (levP d' e' x)) := by
  rw [<- lq _ _ q2 q3, levQ_size _ _ (by omega) (by omega)]
  have : max (levP d' e' x).size (max (levP d e x).size (levP d' e' x).size) = max (levP d e x).size (levP d' e' x).size := by omega
  rw [this]
 have hc : ∀ a b : Nat, ((b : Int) < (a : Int)) ↔ b < a := fun a b => by omega
 simp only [hc, hm]
 generalize hM : max (levP d e x).size (levP d' e' x).size = M at *
 rw [wz M _ (by omega) (by omega), wz M _ (by omega) (by omega), e1, e2]
 simp only [zer_size]
 exact ⟨hr _, ⟨by omega, by omega⟩, by omega, by omega, hr _, ⟨by omega, by omega⟩, by omega, by omega,
  hr _, ⟨by omega, by omega⟩, by omega, by omega, hr _, ⟨by omega, by omega⟩, by omega, by omega, trivial⟩
def heads_rnumless : List Hd := []
def entry_rnumless : Tree :=
 (.ite (.pr (.bcmp .neq) [(.c 0 .v0), (.c 0 .v1)])
 (.rt (.c 0 .v0))
 (.giv (.app 1000 [(.r3 .v0), (.r3 .v1)])
 (.giv (.app 2056 [(.r3 .v0), (.r3 .v1)])
 (.ite (.c 0 .v0)
 (.ite (.pr (.bcmp .neq) [(.lit (.bool true)), (.c 0 .v1)]) .ye
 (.giv (.app 1000 [(.c 1 (.app 56 [(.r3 .v0), (.r3 .v1)])), (.c 0 (.app 56 [(.r3 .v0), (.r3 .v1)]))])
 (.giv (.app 2038 [(.c 1 (.app 56 [(.r3 .v0), (.r3 .v1)])), (.c 0 (.app 56 [(.r3 .v0), (.r3 .v1)]))])
 (.rt (.app 38 [(.c 1 (.app 56 [(.r3 .v0), (.r3 .v1)])), (.c 0 (.app 56 [(.r3 .v0), (.r3 .v1)]))])))))
 (.ite (.pr (.bcmp .neq) [(.lit (.bool false)), (.c 0 .v1)]) .no
 (.giv (.app 1000 [(.c 0 (.app 56 [(.r3 .v0), (.r3 .v1)])), (.c 1 (.app 56 [(.r3 .v0), (.r3 .v1)]))])
 (.giv (.app 2038 [(.c 0 (.app 56 [(.r3 .v0), (.r3 .v1)])), (.c 1 (.app 56 [(.r3 .v0), (.r3 .v1)]))])
 (.rt (.app 38 [(.c 0 (.app 56 [(.r3 .v0), (.r3 .v1)])), (.c 1 (.app 56 [(.r3 .v0), (.r3 .v1)]))])))))))))
def trees_rnumless : List Tree := []
noncomputable def deps_rnumless : List Sig := [q_raligned, q_rless]
theorem ok_rnumless : check q_rnumless deps_rnumless heads_rnumless entry_rnumless trees_rnumless = true := by kernel_rfl
theorem rnumless_ok (n : Nat) : @Ok (I n) q_rnumless (@okS (I n) n q_rnumless.g) := by
 letI := I n
 refine fn_okS (hphi n) ok_rnumless (by
  intro q hq
  simp only [deps_rnumless, List.mem_cons, List.not_mem_nil, or_false] at hq
  rcases hq with rfl | rfl
  ·exact raligned_ok n
  ·exact rless_ok n) (fun _ _ _ => False) (fun _ _ => 0) ?_ (fun j h t d ds hj => by simp [heads_rnumless] at hj)
 intro ds hf hp
 obtain ⟨a, d, e, a', d', e', rfl⟩ := num_two hf
 obtain ⟨k1, k2⟩ := (pre_rnumless n _ _ _ _ _ _).1 (hp.2 rfl)
 obtain ⟨p1, p3, p4⟩ := numV_num k1
 obtain ⟨p2, p5, p6⟩ := numV_num k2
 obtain ⟨x1, x2, x3⟩ := levX_le e e'
 have s1 := levP_size (x := levX e e') p1 x1 (by omega)
 have s2 := levP_size (x := levX e e') p2 x2 (by omega)
 have z1 := levQ_size (levP d e (levX e e')) (levP d' e' (levX e e')) (by omega) (by omega)
 have z2 := levQ_size (levP d' e' (levX e e')) (levQ (levP d e (levX e e')) (levP d' e' (levX e e'))) (by omega) (by omega)
 have h0 := (okD_two.1 hp.1).1
 simp only [D.sz, D.szL] at h0
 have hk := numC_key (a, d, e) (a', d', e') k1 k2
 have hl := lev_cmp (numOk_dig (t := (a, d, e)) k1) (numOk_dig (t := (a', d', e')) k2) p1 p2 p3 p4 p5 p6
 have ha := (ord_cmpS (levQ (levP d e (levX e e')) (levP d' e' (levX e e')))).anti (levQ (levP d' e' (levX e e')) (levQ (levP d e (levX e e')) (levP d' e' (levX e e')))) trivial
 have hn : numC (a, d, e) (a', d', e') = (numcmpV a d e a' d' e').1 := rfl
 have zt := kN_zero (t := (a, d, e)) k1
 have zu := kN_zero (t := (a', d', e')) k2
 unfold keyN at hk
 simp only at zt zu hl hk
 rw [hn] at hk
 simp only [entry_rnumless, q_rnumless, Tree.holds, Out.den, E.den, E.denL, dn, List.getD_cons_zero, List.getD_cons_succ, List.length_map, phi_1000, phi_raligned, phi_rless, phi_rnumless, pre_raligned, pre_rless, row_at0, row_at1, row_at2]
 have o3 : ∀ p q : ByteArray, p.size <= 10000 -> q.size <= 10000 -> okD n [sD p, sD q] := fun p q hp hq =>
  okD_two.2 ⟨by rw [sz_sD, sz_sD]; omega, lim_sD.2 (by have : 10000 <= lim := (by decide); omega), lim_sD.2 (by have : 10000 <= lim := (by decide); omega)⟩
 generalize levQ (levP d e (levX e e')) (levP d' e' (levX e e')) = P at *
 generalize levQ (levP d' e' (levX e e')) P = Q at *
 have l1 : P.size <= 10000 := by omega
 have l2 : Q.size <= 10000 := by omega
 have l3 : P.size = Q.size := by omega
 clear s1 s2 z1 z2 h0 x1 x2 x3
 have hcl := cmpZ_lt (a := (kN d e : Int)) (b := kN d' e')
 have hcl' := cmpZ_lt (a := -(kN d e : Int)) (b := -(kN d' e' : Int))
 have hcl2 := cmpZ_lt (a := -(kN d e : Int)) (b := (kN d' e' : Int))
 have hcl3 := cmpZ_lt (a := (kN d e : Int)) (b := -(kN d' e' : Int))
 have hr := cmpZ_rng (kN d e : Int) (kN d' e' : Int)
 have hcg := cmpZ_anti (kN d e : Int) (kN d' e' : Int)
 have hcg' := cmpZ_lt (a := (kN d' e' : Int)) (b := kN d e)
 rw [hk]
 have key : ∀ b c : Bool, (b = true ↔ c = true) -> bD b = bD c := fun b c h => by rw [Bool.eq_iff_iff.2 h]
 cases a <;> cases a'
 ·simp only [bne_self_eq_false, Bool.false_eq_true, false_implies, true_implies, true_and, and_true, if_false]
  refine ⟨hp.1, ⟨p1, p2, p3, p4, p5, p6⟩, o3 _ _ l1 l2, l3, ?_⟩
  rw [hl]
 ·simp only [Bool.false_eq_true, false_implies, true_implies, true_and, and_true, if_false, if_true, bne, Bool.not_eq_true']
  have := zu.2 rfl
  simp only [Bool.false_beq, Bool.not_true, Bool.not_false, true_implies, Bool.true_eq_false, false_implies, and_true]
  apply key
  rw [decide_eq_true_iff]
  constructor
  ·intro h; cases h
  ·intro h; omega
 ·have := zt.2 rfl
  simp only [Bool.false_eq_true, false_implies, true_implies, true_and, and_true, if_false, if_true, bne, Bool.not_eq_true', Bool.true_beq, Bool.not_false, Bool.not_true, Bool.true_eq_false]
  apply key
  rw [decide_eq_true_iff]
  constructor
  ·intro _; omega
  ·intro h; rfl
 ·simp only [bne_self_eq_false, Bool.false_eq_true, Bool.true_eq_false, false_implies, true_implies, true_and, and_true, if_false, if_true]
  refine ⟨hp.1, ⟨p1, p2, p3, p4, p5, p6⟩, o3 _ _ l2 l1, l3.symm, ?_⟩
  apply key
  rw [decide_eq_true_iff, decide_eq_true_iff, ha, hl]
  omega
end Go.Proofs.YtflhikakndanjaaGreatDoor.Vk
