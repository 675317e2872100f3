/- Merged own texts, without what this claim does not use. -/
import Derived.Test.YtaeeblcdggjokaaGreatDoorMf
import Derived.Test.YtaeeblcdggjokaaGreatDoorMd
import Derived.Test.YtaeeblcdggjokaaGreatDoorCards
import Derived.Test.YtaeeblcdggjokaaGreatDoorTie
import Derived.KernelRfl
import Derived.ProofKit
import Derived.Deep.DeepHandedRow
import Derived.Lay
import Derived.SevenTiedAt
set_option maxRecDepth 100000
set_option linter.unusedVariables false
set_option linter.unusedSimpArgs false
set_option linter.unusedSectionVars false
set_option linter.constructorNameAsVariable false
/- Types that are looked at are small; laws of what chapter 11's reference says. -/
namespace Go.Proofs.YtaeeblcdggjokaaGreatDoor.Vk
open Go Go.Ab Go.RowKit
mutual
def cntT : Typ -> Nat
 | .mk _ _ l => 1 + cntTs l
def cntTs : List Typ -> Nat
 | [] => 0
 | v :: r => cntT v + cntTs r
end
theorem cntT_eq (v : Typ) : cntT v = 1 + cntTs v.list := by cases v; rw [cntT]; rfl
theorem cntTs_len : ∀ (l : List Typ), l.length <= cntTs l
 | [] => Nat.zero_le _
 | v :: r => by
  rw [cntTs, List.length_cons, cntT_eq]
  have := cntTs_len r
  omega
theorem cntTs_mem : ∀ {l : List Typ} {x : Typ}, x ∈ l -> cntT x <= cntTs l
 | v :: r, x, h => by
  rw [cntTs]
  rcases List.mem_cons.1 h with rfl | h
  ·omega
  ·have := cntTs_mem h; omega
theorem partsN_T : ∀ (l : List ByteArray) (n : Int), (∀ x, x ∈ l -> x.size <= lim) -> 0 <= n -> n <= 4611686018427387 -> n <= partsN 32768 n l /\ partsN 32768 n l <= 4611686018427387
 | [], n, _, _, h1 => by rw [partsN]; exact ⟨Int.le_refl _, h1⟩
 | s :: r, n, h, h0, h1 => by
  rw [partsN]
  split
  ·rename_i hn
   have hs := h s (List.mem_cons_self ..)
   have hs : s.size <= 140737488355328 := hs
   rw [wrapi (by omega) (by omega)]
   obtain ⟨k1, k2⟩ := partsN_T r (n + s.size) (fun x hx => h x (List.mem_cons_of_mem _ hx)) (by omega) (by omega)
   exact ⟨by omega, k2⟩
  ·exact ⟨Int.le_refl _, h1⟩
theorem partsT_of : ∀ v : Typ, ∀ n w : Int, v.toD.Lim -> 0 <= n -> n <= 32768 -> 0 <= w -> w <= 301 -> n <= partsT 32768 n w v /\ partsT 32768 n w v <= 4611686018427387 /\ (partsT 32768 n w v <= 32768 -> n + cntT v <= partsT 32768 n w v) := by
 intro v
 induction v using typ_ind with
 | h v ih =>
 intro n w hl h0 h1 hw0 hw1
 rw [lim_toDT] at hl
 obtain ⟨l3, l4⟩ := hl
 obtain ⟨l3, l5⟩ := lim_strs.1 l3
 obtain ⟨_, l6⟩ := lim_typs.1 l4
 have l3 : v.names.length <= 140737488355328 := l3
 have hlist : ∀ (l : List Typ), (∀ x, x ∈ l -> ∀ n w : Int, x.toD.Lim -> 0 <= n -> n <= 32768 -> 0 <= w -> w <= 301 -> n <= partsT 32768 n w x /\ partsT 32768 n w x <= 4611686018427387 /\ (partsT 32768 n w x <= 32768 -> n + cntT x <= partsT 32768 n w x)) -> (∀ x, x ∈ l -> x.toD.Lim) -> ∀ m w : Int, 0 <= m -> m <= 4611686018427387 -> 0 <= w -> w <= 300 ->
   m <= partsTL 32768 w m l /\ partsTL 32768 w m l <= 4611686018427387 /\ (partsTL 32768 w m l <= 32768 -> m + cntTs l <= partsTL 32768 w m l) := by
  intro l
  induction l with
  | nil => intro _ _ m w g0 g1 _ _; rw [partsTL, cntTs]; exact ⟨Int.le_refl _, g1, fun _ => by omega⟩
  | cons x r ihl =>
   intro h hx m w g0 g1 g2 g3
   rw [partsTL, cntTs]
   split
   ·rename_i hm
    obtain ⟨k1, k2, k3⟩ := h x (List.mem_cons_self ..) m (w + 1) (hx x (List.mem_cons_self ..)) g0 hm (by omega) (by omega)
    rw [wrapi (by omega) (by omega)]
    obtain ⟨j1, j2, j3⟩ := ihl (fun y hy => h y (List.mem_cons_of_mem _ hy)) (fun y hy => hx y (List.mem_cons_of_mem _ hy)) (partsT 32768 m (w + 1) x) w (by omega) k2 g2 g3
    refine ⟨by omega, j2, fun hr => ?_⟩
    have := j3 hr
    have := k3 (by omega)
    omega
   ·rename_i hm
    exact ⟨Int.le_refl _, g1, fun hr => absurd hr hm⟩
 have e : partsT 32768 n w v = if w > 300 then wrap (32768 + 1) else partsTL 32768 w (partsN 32768 (wrap (wrap (n + 1) + v.names.length)) v.names) v.list := by cases v; rw [partsT]; rfl
 rw [e, cntT_eq]
 split
 ·rw [wrapi (by omega) (by omega)]
  exact ⟨by omega, by omega, fun h => by omega⟩
 ·rw [wrapi (i := n + 1) (by omega) (by omega), wrapi (by omega) (by omega)]
  obtain ⟨k1, k2⟩ := partsN_T v.names (n + 1 + v.names.length) l5 (by omega) (by omega)
  obtain ⟨j1, j2, j3⟩ := hlist v.list ih l6 _ w (by omega) k2 hw0 (by omega)
  exact ⟨by omega, j2, fun h => by have := j3 h; omega⟩
theorem smallTL_all : ∀ (l : List Typ), smallTL l = true ↔ ∀ x, x ∈ l -> smallT x = true
 | [] => by unfold smallTL; simp
 | v :: r => by
  unfold smallTL
  rw [Bool.and_eq_true, smallTL_all r]
  simp
theorem smallT_iff (v : Typ) : smallT v = true ↔ v.names.length <= 1000000 /\ v.list.length <= 1000000 /\ ∀ x, x ∈ v.list -> smallT x = true := by
 cases v with
 | mk k ns l =>
  show smallT _ = true ↔ ns.length <= 1000000 /\ l.length <= 1000000 /\ ∀ x, x ∈ l -> smallT x = true
  rw [smallT, Bool.and_eq_true, Bool.and_eq_true, decide_eq_true_iff, decide_eq_true_iff, smallTL_all, and_assoc]
theorem wideTL_all : ∀ (l : List Typ), wideTL l = false -> ∀ x, x ∈ l -> wideT x = false
 | [], _, x, hx => by cases hx
 | v :: r, h, x, hx => by
  unfold wideTL at h
  cases hv : wideT v with
  | true => rw [hv] at h; cases h
  | false =>
   rw [hv] at h
   rcases List.mem_cons.1 hx with rfl | hx
   ·exact hv
   ·exact wideTL_all r h x hx
theorem small_wide : ∀ v : Typ, wideT v = false -> cntT v <= 65536 -> smallT v = true := by
 intro v
 induction v using typ_ind with
 | h v ih =>
  intro hm hz
  rw [smallT_iff]
  rw [cntT_eq] at hz
  have hl := cntTs_len v.list
  have hn : v.names.length <= 1000 /\ wideTL v.list = false := by
   cases v with
   | mk k ns l =>
    show ns.length <= 1000 /\ wideTL l = false
    unfold wideT at hm
    split at hm
    ·cases hm
    ·exact ⟨by omega, hm⟩
  refine ⟨by omega, by omega, fun x hx => ih x hx (wideTL_all _ hn.2 x hx) ?_⟩
  have := cntTs_mem hx
  omega
theorem small_ofT {v : Typ} (hl : v.toD.Lim) (h : ¬ 32768 < partsT 32768 0 0 v) (hw : wideT v = false) : smallT v = true := by
 obtain ⟨_, _, h3⟩ := partsT_of v 0 0 hl (by omega) (by omega) (by omega) (by omega)
 have := h3 (by omega)
 exact small_wide v hw (by omega)
theorem eqT_self (v : Typ) : eqT v v = true := @decide_eq_true _ (Classical.propDecidable _) rfl
theorem typ_eta (a b : Typ) : a = b ↔ a.kind = b.kind /\ a.names = b.names /\ a.list = b.list := by
 cases a; cases b
 simp [Typ.kind, Typ.names, Typ.list]
theorem eqT_iff (a b : Typ) : eqT a b = true ↔ a.kind = b.kind /\ a.names = b.names /\ a.list = b.list := by
 unfold eqT
 rw [@decide_eq_true_iff _ (Classical.propDecidable _), typ_eta]
theorem idxI_iff (s : ByteArray) : ∀ (l : List ByteArray) (i : Nat), 0 <= idxI s l i ↔ s ∈ l
 | [], i => by rw [idxI]; simp
 | x :: r, i => by
  rw [idxI]
  split
  ·rename_i e; rw [e]; simp
  ·rename_i e
   rw [idxI_iff s r (i + 1), List.mem_cons]
   exact ⟨.inr, fun h => h.resolve_left e⟩
theorem formedTL_iff : ∀ (l : List Typ) (i : Nat), formedTL l i < 0 ↔ l.all formedT = true
 | [], i => by rw [formedTL]; simp
 | v :: r, i => by
  rw [formedTL, List.all_cons]
  cases formedT v with
  | false => simp
  | true => simp only [if_true, Bool.true_and]; exact formedTL_iff r (i + 1)
def headT (v : Typ) : Bool :=
 if v.kind = 9 then decide (v.names.length = 0) && decide (v.list.length = 1)
 else if v.kind = 10 \/ v.kind = 11 then decide (v.names.length = v.list.length) && (v.names.all validV && decide v.names.Nodup)
 else decide (1 <= v.kind /\ v.kind <= 8) && (decide (v.names.length = 0) && decide (v.list.length = 0))
theorem formedT_split (v : Typ) : formedT v = (headT v && v.list.all formedT) := by
 cases v with
 | mk k ns l =>
  obtain ⟨f1, f2, f3⟩ := formedT_iff k ns l
  show formedT (Typ.mk k ns l) = ((if k = 9 then decide (ns.length = 0) && decide (l.length = 1)
 else if k = 10 \/ k = 11 then decide (ns.length = l.length) && (ns.all validV && decide ns.Nodup)
 else decide (1 <= k /\ k <= 8) && (decide (ns.length = 0) && decide (l.length = 0))) && l.all formedT)
  have hv : ixL (fun s => !validV s) ns 0 < 0 ↔ ns.all validV = true := by
   have := ixL_iff (fun s => !validV s) ns 0
   rw [Int.not_le] at this
   rw [this, List.any_eq_false, List.all_eq_true]
   simp
  rw [formedTL_iff, hv] at f2
  rw [formedTL_iff] at f1
  rw [Bool.eq_iff_iff]
  by_cases k9 : k = 9
  ·rw [f1 k9, if_pos k9]; simp [and_assoc]
  rw [if_neg k9]
  by_cases k10 : k = 10 \/ k = 11
  ·rw [f2 k10, if_pos k10]
   simp only [Bool.and_eq_true, decide_eq_true_eq]
   exact ⟨fun h => ⟨⟨h.1, h.2.2.1, h.2.1⟩, h.2.2.2⟩, fun h => ⟨h.1.1, h.1.2.2, h.1.2.1, h.2⟩⟩
  ·rw [if_neg k10, f3 k9 (fun h => k10 (.inl h)) (fun h => k10 (.inr h))]
   simp only [Bool.and_eq_true, decide_eq_true_eq]
   refine ⟨fun h => ⟨⟨⟨h.1, h.2.1⟩, h.2.2.1, h.2.2.2⟩, ?_⟩, fun h => ⟨h.1.1.1, h.1.1.2, h.1.2.1, h.1.2.2⟩⟩
   rw [List.length_eq_zero_iff.1 h.2.2.2]; rfl
def shortT (v : Typ) : Bool := (spanT v).2.2
theorem spanTL_short : ∀ (l : List Typ) (a b : Int) (o : Bool), (spanTL l (a, b, o)).2.2 = (o && l.all shortT)
 | [], a, b, o => by rw [spanTL]; simp
 | x :: r, a, b, o => by
  rw [spanTL, spanTL_short r, List.all_cons, Bool.and_assoc]
  rfl
theorem shortT_iff (v : Typ) : shortT v = true ↔ ¬ (v.list.length : Int) > 256 /\ v.names.any longS = false /\ v.list.all shortT = true := by
 show (spanT v).2.2 = true ↔ _
 rw [spanT_eq]
 simp only
 rw [spanTL_short, Bool.and_eq_true]
 have h2 := ixL_iff longS v.names 0
 have e : ixL (fun s : ByteArray => decide ((s.size : Int) > 64)) v.names 0 = ixL longS v.names 0 := rfl
 rw [e]
 by_cases c : (v.list.length : Int) <= 256
 ·rw [if_pos c, Bool.not_eq_true', decide_eq_false_iff_not, h2]
  exact ⟨fun h => ⟨by omega, h.1, h.2⟩, fun h => ⟨h.2.1, h.2.2⟩⟩
 ·rw [if_neg c]
  exact ⟨fun h => (by cases h.1), fun h => absurd h.1 (by omega)⟩
end Go.Proofs.YtaeeblcdggjokaaGreatDoor.Vk
/- The chapter's examples. -/
namespace Go.Proofs.YtaeeblcdggjokaaGreatDoor.Vk
open Go Go.Ab Go.RowKit
def muA (f : Nat) : Bool := match f with | 125 => true | _ => false
theorem awake_run : isTrue (evFn Tryz.prog (tabsG tabs) muA (evDrawnX Tryz.prog (tabsG tabs)) 100000 noOrc 200 (.func 17) [] none0) = true := by kernel_rfl
theorem awake {W : World} (h : TabsMet tabs W) : Calls Tryz.prog 17 #[] W fun e W' => e = .returned (.bool true) /\ Below W.heap.size W W' := by
 haveI : Interp := ⟨fun _ _ => .nil⟩
 exact calls_of_true noOrc_ok noNum Tryz.checked.mixed (glob_of_tabs h) (fun _ => VRl_nil) awake_run
end Go.Proofs.YtaeeblcdggjokaaGreatDoor.Vk
/- Contract: value.Cmp; the law's functions. -/
namespace Go.Proofs.YtaeeblcdggjokaaGreatDoor.Vk
open Go Go.Ab Go.RowKit
-- head 0 of loop 0: [t2 .rf 33, t3 .rf 33, t11 .sh (.cell (.sl 33)), t12 .sh (.cell (.sc (.i .i64))), t13 .sh (.cell (.sc (.i .i64)))]
end Go.Proofs.YtaeeblcdggjokaaGreatDoor.Vk
/- The order of values is one: plain Lean. -/
namespace Go.Proofs.YtaeeblcdggjokaaGreatDoor.Vk
open Go Go.Ab Go.RowKit
structure OrdAt {α : Type} (c : α -> α -> Int) (S : α -> Prop) (x : α) : Prop where
 rng : ∀ y, S y -> c x y = -1 \/ c x y = 0 \/ c x y = 1
 anti : ∀ y, S y -> c y x = - c x y
 zero : ∀ y, S y -> c x y = 0 -> x = y
 trans : ∀ y z, S y -> S z -> c x y = -1 -> c y z <= 0 -> c x z = -1
theorem OrdAt.less {α : Type} {c : α -> α -> Int} {S T : α -> Prop} {x : α} (h : OrdAt c S x) (hs : ∀ y, T y -> S y) : OrdAt c T x where
 rng y hy := h.rng y (hs y hy)
 anti y hy := h.anti y (hs y hy)
 zero y hy := h.zero y (hs y hy)
 trans y z hy hz := h.trans y z (hs y hy) (hs z hz)
def dvA : Nat -> List UInt8 -> Nat
 | acc, [] => acc
 | acc, x :: r => dvA (acc * 10 + (x.toNat - 48)) r
abbrev dv (l : List UInt8) : Nat := dvA 0 l
def Dig (l : List UInt8) : Prop := ∀ x, x ∈ l -> 48 <= x.toNat /\ x.toNat <= 57
end Go.Proofs.YtaeeblcdggjokaaGreatDoor.Vk
/- The order of values is one: numbers, values; ValueThree. -/
namespace Go.Proofs.YtaeeblcdggjokaaGreatDoor.Vk
open Go Go.Ab Go.RowKit
theorem all_drop {p : UInt8 -> Bool} : ∀ (l : List UInt8), (∀ x, x ∈ l.dropWhile p -> p x = true) -> ∀ x, x ∈ l -> p x = true
 | [], _, x, hx => by cases hx
 | a :: r, h, x, hx => by
  rw [List.dropWhile_cons] at h
  cases ha : p a with
  | true =>
   rw [ha, if_pos rfl] at h
   rcases List.mem_cons.1 hx with rfl | hx
   ·exact ha
   ·exact all_drop r h x hx
  | false =>
   rw [ha, if_neg (by decide)] at h
   exact h x hx
theorem dig_trim {d : ByteArray} (h : trimV d tenDigits = ByteArray.empty) : Dig d.data.toList := by
 have h1 : Lib.trimS d.data.toList tenDigits.data.toList = [] := by
  unfold trimV at h
  have := congrArg (fun b : ByteArray => b.data.toList) h
  simpa using this
 unfold Lib.trimS Lib.trimLeftS at h1
 have h2 : ∀ x, x ∈ Lib.trimRightS d.data.toList tenDigits.data.toList -> tenDigits.data.toList.contains x = true := fun x hx => by
  have := all_drop (p := (tenDigits.data.toList.contains ·)) _ (by rw [h1]; intro x hx; cases hx) x hx
  exact this
 unfold Lib.trimRightS at h2
 intro x hx
 have h3 := all_drop (p := (tenDigits.data.toList.contains ·)) d.data.toList.reverse (fun y hy => h2 y (List.mem_reverse.2 hy)) x (List.mem_reverse.2 hx)
 have h4 : ∀ y, tenDigits.data.toList.contains y = true -> 48 <= y.toNat /\ y.toNat <= 57 := by
  intro y hy
  have hy : y ∈ tenDigits.data.toList := by simpa using hy
  have hall : tenDigits.data.toList.all (fun y => decide (48 <= y.toNat /\ y.toNat <= 57)) = true := by decide
  simpa using List.all_eq_true.1 hall y hy
 exact h4 x h3
theorem dig_one : Dig one.data.toList := by
 intro x hx
 have hall : one.data.toList.all (fun y => decide (48 <= y.toNat /\ y.toNat <= 57)) = true := by decide
 simpa using List.all_eq_true.1 hall x hx
theorem cat_list (a b : ByteArray) : (a ++ b).data.toList = a.data.toList ++ b.data.toList := by
 rw [ByteArray.data_append, Array.toList_append]
end Go.Proofs.YtaeeblcdggjokaaGreatDoor.Vk
/- Contracts of the reference: what is formed. -/
namespace Go.Proofs.YtaeeblcdggjokaaGreatDoor.Vk
open Go Go.Ab Go.RowKit
theorem dig_all {l : List UInt8} : l.all isDig = true ↔ Dig l := by
 rw [List.all_eq_true]
 constructor
 ·intro h x hx; simpa [isDig] using h x hx
 ·intro h x hx; simpa [isDig] using h x hx
theorem drop_all {p : UInt8 -> Bool} : ∀ (l : List UInt8), (∀ x, x ∈ l -> p x = true) -> l.dropWhile p = []
 | [], _ => rfl
 | a :: r, h => by
  rw [List.dropWhile_cons, if_pos (h a (List.mem_cons_self ..))]
  exact drop_all r fun x hx => h x (List.mem_cons_of_mem _ hx)
theorem trim_dig {d : ByteArray} (h : Dig d.data.toList) : trimV d tenDigits = ByteArray.empty := by
 have h4 : ∀ y : UInt8, 48 <= y.toNat /\ y.toNat <= 57 -> tenDigits.data.toList.contains y = true := by
  intro y hy
  have : ∀ k : Fin 10, tenDigits.data.toList.contains (UInt8.ofNat (48 + k.val)) = true := by decide
  have := this ⟨y.toNat - 48, by omega⟩
  rw [show 48 + (y.toNat - 48) = y.toNat by omega, UInt8.ofNat_toNat] at this
  exact this
 unfold trimV Lib.trimS Lib.trimLeftS Lib.trimRightS
 have e : d.data.toList.reverse.dropWhile (tenDigits.data.toList.contains ·) = [] := drop_all _ fun x hx => h4 x (h x (List.mem_reverse.1 hx))
 rw [e]; rfl
theorem ext_last {d : ByteArray} (h : 0 < d.size) : d.extract (d.size - 1) d.size = one ↔ (d.data.toList.getD (d.size - 1) 0).toNat = 48 := by
 have hl := size_len d
 have e : (d.extract (d.size - 1) d.size).data.toList = [d.data.toList.getD (d.size - 1) 0] := by
  rw [ByteArray.data_extract, Array.toList_extract]
  have hlt : d.size - 1 < d.data.toList.length := by omega
  unfold List.extract
  rw [List.drop_eq_getElem_cons hlt, show d.size - (d.size - 1) = 1 by omega, List.take_succ_cons, List.take_zero, List.getD_eq_getElem?_getD, List.getElem?_eq_getElem hlt]
  rfl
 constructor
 ·intro h1
  rw [h1] at e
  have e : [48] = [d.data.toList.getD (d.size - 1) 0] := e
  rw [<- (List.cons.inj e).1]; rfl
 ·intro h1
  refine ByteArray.ext (Array.toList_inj.1 ?_)
  rw [e, show d.data.toList.getD (d.size - 1) 0 = 48 from UInt8.toNat_inj.1 h1]
  rfl
theorem num_iff (ng : Bool) (d : ByteArray) (e : Int) : numV ng d e = 0 ↔ (if d = one then ng = false /\ e = 0 else digV d = true /\ (d.size : Int) <= 40 /\ (d.data.toList.getD 0 0).toNat ≠ 48 /\ (d.data.toList.getD (d.size - 1) 0).toNat ≠ 48 /\ -400 <= e /\ e <= 400) := by
 have hdig : digV d = true ↔ Dig d.data.toList /\ d ≠ ByteArray.empty := by
  unfold digV
  rw [Bool.and_eq_true, decide_eq_true_iff]
  have : (d.data.toList.all fun c => decide (48 <= c.toNat /\ c.toNat <= 57)) = true ↔ Dig d.data.toList := dig_all
  rw [this]
  have : d.data.toList ≠ [] ↔ d ≠ ByteArray.empty := by
   constructor
   ·intro h1 h2; apply h1; rw [h2]; rfl
   ·intro h1 h2; exact h1 (ByteArray.ext (Array.toList_inj.1 h2))
  rw [this]
 unfold numV
 by_cases h0 : ng = false /\ d = one /\ e = 0
 ·rw [if_pos h0, if_pos h0.2.1]; simp [h0.1, h0.2.2]
 rw [if_neg h0]
 by_cases h1 : d = ByteArray.empty
 ·rw [if_pos h1, if_neg (by rw [h1]; decide)]
  constructor
  ·intro h; omega
  ·intro h; exact absurd h1 (hdig.1 h.1).2
 rw [if_neg h1]
 by_cases h2 : trimV d tenDigits = ByteArray.empty
 ·have hd := dig_trim h2
  rw [if_neg (by simp [h2])]
  have hpos : 0 < d.size := by
   rcases Nat.eq_zero_or_pos d.size with h | h
   ·exact absurd (size_zero.1 h) h1
   ·exact h
  have hx := ext_last hpos
  by_cases ho : d = one
  ·rw [if_pos ho]
   have f0 : (d.data.toList.getD 0 0).toNat = 48 := by rw [ho]; decide
   by_cases h3 : 40 < (d.size : Int)
   ·rw [if_pos h3]
    constructor
    ·intro h; omega
    ·intro h; exact absurd ⟨h.1, ho, h.2⟩ h0
   ·rw [if_neg h3, if_pos f0]
    constructor
    ·intro h; omega
    ·intro h; exact absurd ⟨h.1, ho, h.2⟩ h0
  ·rw [if_neg ho]
   have hdv : digV d = true := hdig.2 ⟨hd, h1⟩
   clear hdig h0
   by_cases h3 : 40 < (d.size : Int)
   ·rw [if_pos h3]; exact ⟨fun h => by omega, fun h => by omega⟩
   rw [if_neg h3]
   by_cases h4 : (d.data.toList.getD 0 0).toNat = 48
   ·rw [if_pos h4]; exact ⟨fun h => by omega, fun h => absurd h4 h.2.2.1⟩
   rw [if_neg h4]
   by_cases h5 : d.extract (d.size - 1) d.size = one
   ·rw [if_pos h5]; exact ⟨fun h => by omega, fun h => absurd (hx.1 h5) h.2.2.2.1⟩
   rw [if_neg h5]
   by_cases h6 : e < -400
   ·rw [if_pos h6]; exact ⟨fun h => by omega, fun h => by omega⟩
   rw [if_neg h6]
   by_cases h7 : 400 < e
   ·rw [if_pos h7]; exact ⟨fun h => by omega, fun h => by omega⟩
   rw [if_neg h7]
   exact ⟨fun _ => ⟨hdv, by omega, h4, fun h => h5 (hx.2 h), by omega, by omega⟩, fun _ => rfl⟩
 ·rw [if_pos h2]
  have hno : ¬ digV d = true := fun h => h2 (trim_dig (hdig.1 h).1)
  by_cases ho : d = one
  ·exact absurd (by rw [ho]; exact trim_dig dig_one) h2
  ·rw [if_neg ho]; exact ⟨fun h => by omega, fun h => absurd h.1 hno⟩
abbrev seenD (R : List ByteArray) : List D := R.map fun s => D.row [sD s, bD true]
theorem seen_in {s : ByteArray} : ∀ {R : List ByteArray}, s ∈ R -> mfind (sD s) (seenD R) = some (bD true)
 | t :: R, h => by
  show (bif decide (s = t) then some (bD true) else mfind (sD s) (seenD R)) = _
  by_cases e : s = t
  ·rw [decide_eq_true e]; rfl
  ·rw [decide_eq_false e]
   rcases List.mem_cons.1 h with h | h
   ·exact absurd h e
   ·exact seen_in h
theorem seen_out {s : ByteArray} : ∀ {R : List ByteArray}, s ∉ R -> mfind (sD s) (seenD R) = none
 | [], _ => rfl
 | t :: R, h => by
  show (bif decide (s = t) then some (bD true) else mfind (sD s) (seenD R)) = _
  have e : ¬ s = t := fun e => h (e ▸ List.mem_cons_self ..)
  rw [decide_eq_false e]
  exact seen_out fun hm => h (List.mem_cons_of_mem _ hm)
theorem seen_put (s : ByteArray) : ∀ R : List ByteArray, s ∉ R -> mput (sD s) (bD true) (seenD R) = seenD (R ++ [s])
 | [], _ => rfl
 | t :: R, h => by
  have h1 : ¬ s = t := fun e => h (e ▸ List.mem_cons_self ..)
  show (bif decide (s = t) then D.row [sD s, bD true] :: seenD R else D.row [sD t, bD true] :: mput (sD s) (bD true) (seenD R)) = _
  rw [decide_eq_false h1, seen_put s R fun hm => h (List.mem_cons_of_mem _ hm)]
  rfl
theorem namesV_iff : ∀ (l R : List ByteArray), namesV (.lst (seenD R)) l = true ↔ (∀ s, s ∈ l -> validV s = true) /\ l.Nodup /\ ∀ s, s ∈ l -> s ∉ R
 | [], R => by rw [namesV]; simp
 | s :: r, R => by
  rw [namesV]
  show (if ((mfind (sD s) (seenD R)).getD (bD false)).bool = true then false else if validV s = true then namesV (.lst (mput (sD s) (bD true) (seenD R))) r else false) = true ↔ _
  by_cases h : s ∈ R
  ·rw [seen_in h]
   show (if true = true then false else _) = true ↔ _
   rw [if_pos rfl]
   constructor
   ·intro h'; cases h'
   ·intro h'; exact absurd h (h'.2.2 s (List.mem_cons_self ..))
  ·rw [seen_out h, seen_put s R h]
   show (if false = true then false else if validV s = true then namesV (.lst (seenD (R ++ [s]))) r else false) = true ↔ _
   rw [if_neg (by decide)]
   by_cases hv : validV s = true
   ·rw [if_pos hv, namesV_iff r (R ++ [s])]
    constructor
    ·rintro ⟨h1, h2, h3⟩
     refine ⟨fun t ht => ?_, List.nodup_cons.2 ⟨fun hm => h3 s hm (List.mem_append_right _ (List.mem_singleton.2 rfl)), h2⟩, fun t ht => ?_⟩
     ·rcases List.mem_cons.1 ht with rfl | ht
      ·exact hv
      ·exact h1 t ht
     ·rcases List.mem_cons.1 ht with rfl | ht
      ·exact h
      ·exact fun hm => h3 t ht (List.mem_append_left _ hm)
    ·rintro ⟨h1, h2, h3⟩
     refine ⟨fun t ht => h1 t (List.mem_cons_of_mem _ ht), (List.nodup_cons.1 h2).2, fun t ht hm => ?_⟩
     rcases List.mem_append.1 hm with hm | hm
     ·exact h3 t (List.mem_cons_of_mem _ ht) hm
     ·obtain rfl := List.mem_singleton.1 hm
      exact (List.nodup_cons.1 h2).1 ht
   ·rw [if_neg hv]
    constructor
    ·intro h'; cases h'
    ·intro h'; exact absurd (h'.1 s (List.mem_cons_self ..)) hv
theorem namesV_eq (l : List ByteArray) : namesV (.lst []) l = (l.all validV && decide l.Nodup) := by
 have := namesV_iff l []
 rw [Bool.eq_iff_iff, Bool.and_eq_true, List.all_eq_true, decide_eq_true_iff]
 rw [show (D.lst []) = .lst (seenD []) from rfl, this]
 simp
theorem formedL_iff : ∀ (l : List Val) (i : Nat), formedL l i < 0 ↔ l.all formedV = true
 | [], i => by rw [formedL]; simp
 | v :: r, i => by
  rw [formedL, List.all_cons]
  cases formedV v with
  | false => simp
  | true => simp only [if_true, Bool.true_and]; exact formedL_iff r (i + 1)
theorem plainV_iff (v : Val) : plainV v = true ↔ (1 <= v.kind /\ v.kind <= 9 /\ (v.kind ≠ 2 -> v.flag = false) /\ (v.kind ≠ 3 -> v.neg = false /\ v.dig = .empty /\ v.exp = 0) /\ (v.kind ≠ 4 -> v.bits = 0) /\ (v.kind ≠ 5 -> v.kind ≠ 6 -> v.kind ≠ 9 -> v.text = .empty) /\ (v.kind ≠ 8 -> v.names.length = 0) /\ (v.kind < 7 -> v.list.length = 0)) := by
 unfold plainV; exact decide_eq_true_iff
theorem ownV_iff (v : Val) : ownV v = true ↔ (v.kind = 3 -> numV v.neg v.dig v.exp = 0) /\ (v.kind = 5 -> validV v.text = true) /\ (v.kind = 9 -> validV v.text = true /\ v.list.length = 1) /\ (v.kind = 8 -> v.names.all validV = true /\ v.names.length = v.list.length /\ v.names.Nodup) := by
 unfold ownV
 by_cases e3 : v.kind = 3
 ·rw [if_pos e3, decide_eq_true_iff]
  exact ⟨fun h => ⟨fun _ => h, fun h => by omega, fun h => by omega, fun h => by omega⟩, fun h => h.1 e3⟩
 rw [if_neg e3]
 by_cases e5 : v.kind = 5
 ·rw [if_pos e5]
  exact ⟨fun h => ⟨fun h => by omega, fun _ => h, fun h => by omega, fun h => by omega⟩, fun h => h.2.1 e5⟩
 rw [if_neg e5]
 by_cases e9 : v.kind = 9
 ·rw [if_pos e9, Bool.and_eq_true, decide_eq_true_iff]
  exact ⟨fun h => ⟨fun h => by omega, fun h => by omega, fun _ => h, fun h => by omega⟩, fun h => h.2.2.1 e9⟩
 rw [if_neg e9]
 by_cases e8 : v.kind = 8
 ·rw [if_pos e8, Bool.and_eq_true, Bool.and_eq_true, decide_eq_true_iff, decide_eq_true_iff]
  exact ⟨fun h => ⟨fun h => by omega, fun h => by omega, fun h => by omega, fun _ => ⟨h.1.1, h.1.2, h.2⟩⟩, fun h => ⟨⟨(h.2.2.2 e8).1, (h.2.2.2 e8).2.1⟩, (h.2.2.2 e8).2.2⟩⟩
 ·rw [if_neg e8]
  exact ⟨fun _ => ⟨fun h => absurd h e3, fun h => absurd h e5, fun h => absurd h e9, fun h => absurd h e8⟩, fun _ => rfl⟩
theorem formed_split (v : Val) : formedV v = (plainV v && (ownV v && v.list.all formedV)) := by
 cases v with
 | mk k f ng d e b t ns l =>
  obtain ⟨k1, k2, k3, k4, k5, k6, k7, k8, k9, k0⟩ := formedV_iff k f ng d e b t ns l
  have hl := formedL_iff l 0
  rw [hl] at k7 k8 k9
  have hn : namesV (.lst []) ns = true ↔ ns.all validV = true /\ ns.Nodup := by rw [namesV_eq, Bool.and_eq_true, decide_eq_true_iff]
  rw [hn] at k8
  have hz : l.length = 0 -> l.all formedV = true := fun h => by rw [List.length_eq_zero_iff.1 h]; rfl
  rw [Bool.eq_iff_iff, Bool.and_eq_true, Bool.and_eq_true, plainV_iff, ownV_iff]
  simp only [Val.list, Val.names, Val.kind, Val.neg, Val.dig, Val.exp, Val.flag, Val.bits, Val.text]
  generalize l.all formedV = L at *
  generalize ns.all validV = NV at *
  generalize validV t = VT at *
  generalize numV ng d e = NN at *
  generalize formedV (.mk k f ng d e b t ns l) = F at *
  clear hl hn
  by_cases e1 : k = 1
  ·have := k1 e1; subst e1; clear k1 k2 k3 k4 k5 k6 k7 k8 k9 k0; grind
  by_cases e2 : k = 2
  ·have := k2 e2; subst e2; clear k1 k2 k3 k4 k5 k6 k7 k8 k9 k0; grind
  by_cases e3 : k = 3
  ·have := k3 e3; subst e3; clear k1 k2 k3 k4 k5 k6 k7 k8 k9 k0; grind
  by_cases e4 : k = 4
  ·have := k4 e4; subst e4; clear k1 k2 k3 k4 k5 k6 k7 k8 k9 k0; grind
  by_cases e5 : k = 5
  ·have := k5 e5; subst e5; clear k1 k2 k3 k4 k5 k6 k7 k8 k9 k0; grind
  by_cases e6 : k = 6
  ·have := k6 e6; subst e6; clear k1 k2 k3 k4 k5 k6 k7 k8 k9 k0; grind
  by_cases e7 : k = 7
  ·have := k7 e7; subst e7; clear k1 k2 k3 k4 k5 k6 k7 k8 k9 k0; grind
  by_cases e8 : k = 8
  ·have := k8 e8; subst e8; clear k1 k2 k3 k4 k5 k6 k7 k8 k9 k0; grind
  by_cases e9 : k = 9
  ·have := k9 e9; subst e9; clear k1 k2 k3 k4 k5 k6 k7 k8 k9 k0; grind
  ·rw [k0 e1 e2 e3 e4 e5 e6 e7 e8 e9]
   constructor
   ·intro h; cases h
   ·intro h; omega
end Go.Proofs.YtaeeblcdggjokaaGreatDoor.Vk
/- Contracts of the reference: plain, own, Formed, Check; given that of Valid. -/
namespace Go.Proofs.YtaeeblcdggjokaaGreatDoor.Vk
open Go Go.Ab Go.RowKit
def heads_rplain : List Hd := []
def entry_rplain : Tree :=
 (.ite (.lt (.c 0 .v0) (.i 1)) .no
 (.ite (.gt (.c 0 .v0) (.i 9)) .no
 (.ite (.ne (.c 0 .v0) (.i 2))
 (.ite (.c 1 .v0) .no
 (.ite (.ne (.c 0 .v0) (.i 3))
 (.ite (.pr .and [(.pr (.bcmp .eql) [(.c 2 .v0), (.lit (.bool false))]), (.pr (.scmp .eql) [(.c 3 .v0), (.lit (.string .empty))]), (.eq (.c 4 .v0) (.i 0))])
 (.ite (.ne (.c 0 .v0) (.i 4))
 (.ite (.ne (.c 5 .v0) (.lit (.int .u64 0))) .no
 (.ite (.ne (.c 0 .v0) (.i 5))
 (.ite (.ne (.c 0 .v0) (.i 6))
 (.ite (.ne (.c 0 .v0) (.i 9))
 (.ite (.pr (.scmp .neq) [(.c 6 .v0), (.lit (.string .empty))]) .no
 (.ite (.ne (.c 0 .v0) (.i 8))
 (.ite (.gt (.n (.c 7 .v0)) (.i 0)) .no
 (.ite (.ge (.c 0 .v0) (.i 7)) .ye
 (.rt (.eq (.n (.c 8 .v0)) (.i 0)))))
 (.ite (.ge (.c 0 .v0) (.i 7)) .ye
 (.rt (.eq (.n (.c 8 .v0)) (.i 0))))))
 (.ite (.ne (.c 0 .v0) (.i 8))
 (.ite (.gt (.n (.c 7 .v0)) (.i 0)) .no
 (.ite (.ge (.c 0 .v0) (.i 7)) .ye
 (.rt (.eq (.n (.c 8 .v0)) (.i 0)))))
 (.ite (.ge (.c 0 .v0) (.i 7)) .ye
 (.rt (.eq (.n (.c 8 .v0)) (.i 0))))))
 (.ite (.ne (.c 0 .v0) (.i 8))
 (.ite (.gt (.n (.c 7 .v0)) (.i 0)) .no
 (.ite (.ge (.c 0 .v0) (.i 7)) .ye
 (.rt (.eq (.n (.c 8 .v0)) (.i 0)))))
 (.ite (.ge (.c 0 .v0) (.i 7)) .ye
 (.rt (.eq (.n (.c 8 .v0)) (.i 0))))))
 (.ite (.ne (.c 0 .v0) (.i 8))
 (.ite (.gt (.n (.c 7 .v0)) (.i 0)) .no
 (.ite (.ge (.c 0 .v0) (.i 7)) .ye
 (.rt (.eq (.n (.c 8 .v0)) (.i 0)))))
 (.ite (.ge (.c 0 .v0) (.i 7)) .ye
 (.rt (.eq (.n (.c 8 .v0)) (.i 0)))))))
 (.ite (.ne (.c 0 .v0) (.i 5))
 (.ite (.ne (.c 0 .v0) (.i 6))
 (.ite (.ne (.c 0 .v0) (.i 9))
 (.ite (.pr (.scmp .neq) [(.c 6 .v0), (.lit (.string .empty))]) .no
 (.ite (.ne (.c 0 .v0) (.i 8))
 (.ite (.gt (.n (.c 7 .v0)) (.i 0)) .no
 (.ite (.ge (.c 0 .v0) (.i 7)) .ye
 (.rt (.eq (.n (.c 8 .v0)) (.i 0)))))
 (.ite (.ge (.c 0 .v0) (.i 7)) .ye
 (.rt (.eq (.n (.c 8 .v0)) (.i 0))))))
 (.ite (.ne (.c 0 .v0) (.i 8))
 (.ite (.gt (.n (.c 7 .v0)) (.i 0)) .no
 (.ite (.ge (.c 0 .v0) (.i 7)) .ye
 (.rt (.eq (.n (.c 8 .v0)) (.i 0)))))
 (.ite (.ge (.c 0 .v0) (.i 7)) .ye
 (.rt (.eq (.n (.c 8 .v0)) (.i 0))))))
 (.ite (.ne (.c 0 .v0) (.i 8))
 (.ite (.gt (.n (.c 7 .v0)) (.i 0)) .no
 (.ite (.ge (.c 0 .v0) (.i 7)) .ye
 (.rt (.eq (.n (.c 8 .v0)) (.i 0)))))
 (.ite (.ge (.c 0 .v0) (.i 7)) .ye
 (.rt (.eq (.n (.c 8 .v0)) (.i 0))))))
 (.ite (.ne (.c 0 .v0) (.i 8))
 (.ite (.gt (.n (.c 7 .v0)) (.i 0)) .no
 (.ite (.ge (.c 0 .v0) (.i 7)) .ye
 (.rt (.eq (.n (.c 8 .v0)) (.i 0)))))
 (.ite (.ge (.c 0 .v0) (.i 7)) .ye
 (.rt (.eq (.n (.c 8 .v0)) (.i 0))))))) .no)
 (.ite (.ne (.c 0 .v0) (.i 4))
 (.ite (.ne (.c 5 .v0) (.lit (.int .u64 0))) .no
 (.ite (.ne (.c 0 .v0) (.i 5))
 (.ite (.ne (.c 0 .v0) (.i 6))
 (.ite (.ne (.c 0 .v0) (.i 9))
 (.ite (.pr (.scmp .neq) [(.c 6 .v0), (.lit (.string .empty))]) .no
 (.ite (.ne (.c 0 .v0) (.i 8))
 (.ite (.gt (.n (.c 7 .v0)) (.i 0)) .no
 (.ite (.ge (.c 0 .v0) (.i 7)) .ye
 (.rt (.eq (.n (.c 8 .v0)) (.i 0)))))
 (.ite (.ge (.c 0 .v0) (.i 7)) .ye
 (.rt (.eq (.n (.c 8 .v0)) (.i 0))))))
 (.ite (.ne (.c 0 .v0) (.i 8))
 (.ite (.gt (.n (.c 7 .v0)) (.i 0)) .no
 (.ite (.ge (.c 0 .v0) (.i 7)) .ye
 (.rt (.eq (.n (.c 8 .v0)) (.i 0)))))
 (.ite (.ge (.c 0 .v0) (.i 7)) .ye
 (.rt (.eq (.n (.c 8 .v0)) (.i 0))))))
 (.ite (.ne (.c 0 .v0) (.i 8))
 (.ite (.gt (.n (.c 7 .v0)) (.i 0)) .no
 (.ite (.ge (.c 0 .v0) (.i 7)) .ye
 (.rt (.eq (.n (.c 8 .v0)) (.i 0)))))
 (.ite (.ge (.c 0 .v0) (.i 7)) .ye
 (.rt (.eq (.n (.c 8 .v0)) (.i 0))))))
 (.ite (.ne (.c 0 .v0) (.i 8))
 (.ite (.gt (.n (.c 7 .v0)) (.i 0)) .no
 (.ite (.ge (.c 0 .v0) (.i 7)) .ye
 (.rt (.eq (.n (.c 8 .v0)) (.i 0)))))
 (.ite (.ge (.c 0 .v0) (.i 7)) .ye
 (.rt (.eq (.n (.c 8 .v0)) (.i 0)))))))
 (.ite (.ne (.c 0 .v0) (.i 5))
 (.ite (.ne (.c 0 .v0) (.i 6))
 (.ite (.ne (.c 0 .v0) (.i 9))
 (.ite (.pr (.scmp .neq) [(.c 6 .v0), (.lit (.string .empty))]) .no
 (.ite (.ne (.c 0 .v0) (.i 8))
 (.ite (.gt (.n (.c 7 .v0)) (.i 0)) .no
 (.ite (.ge (.c 0 .v0) (.i 7)) .ye
 (.rt (.eq (.n (.c 8 .v0)) (.i 0)))))
 (.ite (.ge (.c 0 .v0) (.i 7)) .ye
 (.rt (.eq (.n (.c 8 .v0)) (.i 0))))))
 (.ite (.ne (.c 0 .v0) (.i 8))
 (.ite (.gt (.n (.c 7 .v0)) (.i 0)) .no
 (.ite (.ge (.c 0 .v0) (.i 7)) .ye
 (.rt (.eq (.n (.c 8 .v0)) (.i 0)))))
 (.ite (.ge (.c 0 .v0) (.i 7)) .ye
 (.rt (.eq (.n (.c 8 .v0)) (.i 0))))))
 (.ite (.ne (.c 0 .v0) (.i 8))
 (.ite (.gt (.n (.c 7 .v0)) (.i 0)) .no
 (.ite (.ge (.c 0 .v0) (.i 7)) .ye
 (.rt (.eq (.n (.c 8 .v0)) (.i 0)))))
 (.ite (.ge (.c 0 .v0) (.i 7)) .ye
 (.rt (.eq (.n (.c 8 .v0)) (.i 0))))))
 (.ite (.ne (.c 0 .v0) (.i 8))
 (.ite (.gt (.n (.c 7 .v0)) (.i 0)) .no
 (.ite (.ge (.c 0 .v0) (.i 7)) .ye
 (.rt (.eq (.n (.c 8 .v0)) (.i 0)))))
 (.ite (.ge (.c 0 .v0) (.i 7)) .ye
 (.rt (.eq (.n (.c 8 .v0)) (.i 0)))))))))
 (.ite (.ne (.c 0 .v0) (.i 3))
 (.ite (.pr .and [(.pr (.bcmp .eql) [(.c 2 .v0), (.lit (.bool false))]), (.pr (.scmp .eql) [(.c 3 .v0), (.lit (.string .empty))]), (.eq (.c 4 .v0) (.i 0))])
 (.ite (.ne (.c 0 .v0) (.i 4))
 (.ite (.ne (.c 5 .v0) (.lit (.int .u64 0))) .no
 (.ite (.ne (.c 0 .v0) (.i 5))
 (.ite (.ne (.c 0 .v0) (.i 6))
 (.ite (.ne (.c 0 .v0) (.i 9))
 (.ite (.pr (.scmp .neq) [(.c 6 .v0), (.lit (.string .empty))]) .no
 (.ite (.ne (.c 0 .v0) (.i 8))
 (.ite (.gt (.n (.c 7 .v0)) (.i 0)) .no
 (.ite (.ge (.c 0 .v0) (.i 7)) .ye
 (.rt (.eq (.n (.c 8 .v0)) (.i 0)))))
 (.ite (.ge (.c 0 .v0) (.i 7)) .ye
 (.rt (.eq (.n (.c 8 .v0)) (.i 0))))))
 (.ite (.ne (.c 0 .v0) (.i 8))
 (.ite (.gt (.n (.c 7 .v0)) (.i 0)) .no
 (.ite (.ge (.c 0 .v0) (.i 7)) .ye
 (.rt (.eq (.n (.c 8 .v0)) (.i 0)))))
 (.ite (.ge (.c 0 .v0) (.i 7)) .ye
 (.rt (.eq (.n (.c 8 .v0)) (.i 0))))))
 (.ite (.ne (.c 0 .v0) (.i 8))
 (.ite (.gt (.n (.c 7 .v0)) (.i 0)) .no
 (.ite (.ge (.c 0 .v0) (.i 7)) .ye
 (.rt (.eq (.n (.c 8 .v0)) (.i 0)))))
 (.ite (.ge (.c 0 .v0) (.i 7)) .ye
 (.rt (.eq (.n (.c 8 .v0)) (.i 0))))))
 (.ite (.ne (.c 0 .v0) (.i 8))
 (.ite (.gt (.n (.c 7 .v0)) (.i 0)) .no
 (.ite (.ge (.c 0 .v0) (.i 7)) .ye
 (.rt (.eq (.n (.c 8 .v0)) (.i 0)))))
 (.ite (.ge (.c 0 .v0) (.i 7)) .ye
 (.rt (.eq (.n (.c 8 .v0)) (.i 0)))))))
 (.ite (.ne (.c 0 .v0) (.i 5))
 (.ite (.ne (.c 0 .v0) (.i 6))
 (.ite (.ne (.c 0 .v0) (.i 9))
 (.ite (.pr (.scmp .neq) [(.c 6 .v0), (.lit (.string .empty))]) .no
 (.ite (.ne (.c 0 .v0) (.i 8))
 (.ite (.gt (.n (.c 7 .v0)) (.i 0)) .no
 (.ite (.ge (.c 0 .v0) (.i 7)) .ye
 (.rt (.eq (.n (.c 8 .v0)) (.i 0)))))
 (.ite (.ge (.c 0 .v0) (.i 7)) .ye
 (.rt (.eq (.n (.c 8 .v0)) (.i 0))))))
 (.ite (.ne (.c 0 .v0) (.i 8))
 (.ite (.gt (.n (.c 7 .v0)) (.i 0)) .no
 (.ite (.ge (.c 0 .v0) (.i 7)) .ye
 (.rt (.eq (.n (.c 8 .v0)) (.i 0)))))
 (.ite (.ge (.c 0 .v0) (.i 7)) .ye
 (.rt (.eq (.n (.c 8 .v0)) (.i 0))))))
 (.ite (.ne (.c 0 .v0) (.i 8))
 (.ite (.gt (.n (.c 7 .v0)) (.i 0)) .no
 (.ite (.ge (.c 0 .v0) (.i 7)) .ye
 (.rt (.eq (.n (.c 8 .v0)) (.i 0)))))
 (.ite (.ge (.c 0 .v0) (.i 7)) .ye
 (.rt (.eq (.n (.c 8 .v0)) (.i 0))))))
 (.ite (.ne (.c 0 .v0) (.i 8))
 (.ite (.gt (.n (.c 7 .v0)) (.i 0)) .no
 (.ite (.ge (.c 0 .v0) (.i 7)) .ye
 (.rt (.eq (.n (.c 8 .v0)) (.i 0)))))
 (.ite (.ge (.c 0 .v0) (.i 7)) .ye
 (.rt (.eq (.n (.c 8 .v0)) (.i 0))))))) .no)
 (.ite (.ne (.c 0 .v0) (.i 4))
 (.ite (.ne (.c 5 .v0) (.lit (.int .u64 0))) .no
 (.ite (.ne (.c 0 .v0) (.i 5))
 (.ite (.ne (.c 0 .v0) (.i 6))
 (.ite (.ne (.c 0 .v0) (.i 9))
 (.ite (.pr (.scmp .neq) [(.c 6 .v0), (.lit (.string .empty))]) .no
 (.ite (.ne (.c 0 .v0) (.i 8))
 (.ite (.gt (.n (.c 7 .v0)) (.i 0)) .no
 (.ite (.ge (.c 0 .v0) (.i 7)) .ye
 (.rt (.eq (.n (.c 8 .v0)) (.i 0)))))
 (.ite (.ge (.c 0 .v0) (.i 7)) .ye
 (.rt (.eq (.n (.c 8 .v0)) (.i 0))))))
 (.ite (.ne (.c 0 .v0) (.i 8))
 (.ite (.gt (.n (.c 7 .v0)) (.i 0)) .no
 (.ite (.ge (.c 0 .v0) (.i 7)) .ye
 (.rt (.eq (.n (.c 8 .v0)) (.i 0)))))
 (.ite (.ge (.c 0 .v0) (.i 7)) .ye
 (.rt (.eq (.n (.c 8 .v0)) (.i 0))))))
 (.ite (.ne (.c 0 .v0) (.i 8))
 (.ite (.gt (.n (.c 7 .v0)) (.i 0)) .no
 (.ite (.ge (.c 0 .v0) (.i 7)) .ye
 (.rt (.eq (.n (.c 8 .v0)) (.i 0)))))
 (.ite (.ge (.c 0 .v0) (.i 7)) .ye
 (.rt (.eq (.n (.c 8 .v0)) (.i 0))))))
 (.ite (.ne (.c 0 .v0) (.i 8))
 (.ite (.gt (.n (.c 7 .v0)) (.i 0)) .no
 (.ite (.ge (.c 0 .v0) (.i 7)) .ye
 (.rt (.eq (.n (.c 8 .v0)) (.i 0)))))
 (.ite (.ge (.c 0 .v0) (.i 7)) .ye
 (.rt (.eq (.n (.c 8 .v0)) (.i 0)))))))
 (.ite (.ne (.c 0 .v0) (.i 5))
 (.ite (.ne (.c 0 .v0) (.i 6))
 (.ite (.ne (.c 0 .v0) (.i 9))
 (.ite (.pr (.scmp .neq) [(.c 6 .v0), (.lit (.string .empty))]) .no
 (.ite (.ne (.c 0 .v0) (.i 8))
 (.ite (.gt (.n (.c 7 .v0)) (.i 0)) .no
 (.ite (.ge (.c 0 .v0) (.i 7)) .ye
 (.rt (.eq (.n (.c 8 .v0)) (.i 0)))))
 (.ite (.ge (.c 0 .v0) (.i 7)) .ye
 (.rt (.eq (.n (.c 8 .v0)) (.i 0))))))
 (.ite (.ne (.c 0 .v0) (.i 8))
 (.ite (.gt (.n (.c 7 .v0)) (.i 0)) .no
 (.ite (.ge (.c 0 .v0) (.i 7)) .ye
 (.rt (.eq (.n (.c 8 .v0)) (.i 0)))))
 (.ite (.ge (.c 0 .v0) (.i 7)) .ye
 (.rt (.eq (.n (.c 8 .v0)) (.i 0))))))
 (.ite (.ne (.c 0 .v0) (.i 8))
 (.ite (.gt (.n (.c 7 .v0)) (.i 0)) .no
 (.ite (.ge (.c 0 .v0) (.i 7)) .ye
 (.rt (.eq (.n (.c 8 .v0)) (.i 0)))))
 (.ite (.ge (.c 0 .v0) (.i 7)) .ye
 (.rt (.eq (.n (.c 8 .v0)) (.i 0))))))
 (.ite (.ne (.c 0 .v0) (.i 8))
 (.ite (.gt (.n (.c 7 .v0)) (.i 0)) .no
 (.ite (.ge (.c 0 .v0) (.i 7)) .ye
 (.rt (.eq (.n (.c 8 .v0)) (.i 0)))))
 (.ite (.ge (.c 0 .v0) (.i 7)) .ye
 (.rt (.eq (.n (.c 8 .v0)) (.i 0)))))))))))
def trees_rplain : List Tree := []
noncomputable def deps_rplain : List Sig := []
theorem ok_rplain : check q_rplain deps_rplain heads_rplain entry_rplain trees_rplain = true := by kernel_rfl
theorem rplain_ok (n : Nat) : @Ok (I n) q_rplain (okD n) := by
 letI := I n
 refine fn_ok (hphi n) ok_rplain (by intro q hq; simp [deps_rplain] at hq) (fun _ _ _ => False) (fun _ _ => 0) ?_ (fun j h t d ds hj => by simp [heads_rplain] at hj)
 intro ds hf hp
 obtain ⟨v, rfl⟩ := one_val hf
 simp only [entry_rplain, q_rplain, Tree.holds, Out.den, E.den, E.denL, dn, List.getD_cons_zero, List.getD_cons_succ, List.length_map, phi_1000, phi_rplain, List.all_cons, List.all_nil, Bool.and_true, Bool.and_eq_true, Bool.and_eq_false_iff, beq_iff_eq, bne_iff_ne, ne_eq, bD_inj]
 have hv := plainV_iff v
 generalize plainV v = F at *
 clear hf hp
 cases v with
 | mk k f ng d e b t ns l =>
  simp only [Val.list, Val.names, Val.kind, Val.neg, Val.dig, Val.exp, Val.flag, Val.bits, Val.text] at *
  generalize ns.length = a at *
  generalize l.length = c at *
  have hl : ∀ a b : Int, ltI a b = decide (a < b) := fun _ _ => rfl
  have he : ∀ a b : Int, eqI a b = decide (a = b) := fun _ _ => rfl
  simp only [hl, he]
  by_cases e1 : k = 1
  ·subst e1; grind
  by_cases e2 : k = 2
  ·subst e2; grind
  by_cases e3 : k = 3
  ·subst e3; grind
  by_cases e4 : k = 4
  ·subst e4; grind
  by_cases e5 : k = 5
  ·subst e5; grind
  by_cases e6 : k = 6
  ·subst e6; grind
  by_cases e7 : k = 7
  ·subst e7; grind
  by_cases e8 : k = 8
  ·subst e8; grind
  by_cases e9 : k = 9
  ·subst e9; grind
  ·have : F = false := by
    cases F with
    | false => rfl
    | true => have := hv.1 rfl; omega
   subst this
   refine ⟨fun _ => rfl, fun h => ⟨fun _ => rfl, fun h' => by omega⟩⟩
-- head 0 of loop 0: [t1 .rf 33, t3 .sh (.cell (.sc (.i .i64)))]
def heads_rown : List Hd := [⟨0, [.any, .rf 33, .any, .sh (.cell (.sc (.i .i64))), .any, .any, .any, .any, .any, .any, .any, .any, .any, .any, .any, .any, .any, .any, .any, .any, .any, .any, .any, .any, .any, .any, .any, .any, .any, .any, .any, .any, .any, .any, .any, .any, .any, .any, .any, .any, .any, .any, .any, .any, .any, .any, .any, .any, .any, .any, .any, .any, .any, .any, .any]⟩]
def entry_rown : Tree :=
 (.ite (.eq (.c 0 .v0) (.i 3))
 (.ite (.pr (.scmp .eql) [(.c 3 .v0), (.lit (.string (mkS [48])))])
 (.ite (.c 2 .v0) .no
 (.rt (.eq (.c 4 .v0) (.i 0))))
 (.giv (.app 1000 [(.c 3 .v0)])
 (.ite (.app 36 [(.c 3 .v0)])
 (.ite (.le (.pr .slen [(.c 3 .v0)]) (.i 40))
 (.giv (.lt (.i 0) (.pr .slen [(.c 3 .v0)]))
 (.ite (.ne (.pr .sat [(.c 3 .v0), (.i 0)]) (.lit (.int .u8 48)))
 (.giv (.le (.i 0) (.pr (.iop .sub .i64) [(.pr .slen [(.c 3 .v0)]), (.i 1)]))
 (.giv (.lt (.pr (.iop .sub .i64) [(.pr .slen [(.c 3 .v0)]), (.i 1)]) (.pr .slen [(.c 3 .v0)]))
 (.ite (.ne (.pr .sat [(.c 3 .v0), (.pr (.iop .sub .i64) [(.pr .slen [(.c 3 .v0)]), (.i 1)])]) (.lit (.int .u8 48)))
 (.ite (.ge (.c 4 .v0) (.i (-400)))
 (.rt (.le (.c 4 .v0) (.i 400))) .no) .no))) .no)) .no) .no)))
 (.ite (.eq (.c 0 .v0) (.i 5))
 (.giv (.app 1000 [(.c 6 .v0)])
 (.rt (.app 30 [(.c 6 .v0)])))
 (.ite (.eq (.c 0 .v0) (.i 9))
 (.giv (.app 1000 [(.c 6 .v0)])
 (.ite (.app 30 [(.c 6 .v0)])
 (.rt (.eq (.n (.c 8 .v0)) (.i 1))) .no))
 (.ite (.eq (.c 0 .v0) (.i 8))
 (.g 0 [(.r9 .v0), (.i 0)]) .ye))))
def head_rown_0 : Tree :=
 (.ite (.lt .v1 (.n (.c 7 .v0)))
 (.giv (.le (.i 0) .v1)
 (.giv (.app 1000 [(.c 0 (.a (.c 7 .v0) .v1))])
 (.ite (.app 30 [(.c 0 (.a (.c 7 .v0) .v1))])
 (.g 0 [.v0, (.pr (.iop .add .i64) [.v1, (.i 1)])]) .no)))
 (.ite (.eq (.n (.c 7 .v0)) (.n (.c 8 .v0)))
 (.giv (.app 1000 [(.c 7 .v0)])
 (.rt (.app 40 [(.c 7 .v0)]))) .no))
def trees_rown : List Tree := [head_rown_0]
noncomputable def deps_rown : List Sig := [q_rvalid, q_runlike, q_rall]
theorem ok_rown : check q_rown deps_rown heads_rown entry_rown trees_rown = true := by kernel_rfl
theorem rown_ok (n : Nat) (hval : @Ok (I n) q_rvalid (okD n)) : @Ok (I n) q_rown (okD n) := by
 letI := I n
 refine fn_ok (hphi n) ok_rown (by
  intro q hq
  simp only [deps_rown, List.mem_cons, List.not_mem_nil, or_false] at hq
  rcases hq with rfl | rfl | rfl
  ·exact hval
  ·exact runlike_ok n
  ·exact rall_ok n)
  (fun _ d ds => ∃ (v : Val) (i : Nat), ds = [v.toD, iD i] /\ i <= v.names.length /\ v.names.length <= lim /\ (∀ s, s ∈ v.names -> okD n [sD s]) /\ okD n [strsD v.names] /\ d = bD ((v.names.drop i).all validV && (decide (v.names.length = v.list.length) && decide v.names.Nodup)))
  (fun _ ds => (ds.getD 0 .nil).val1.names.length - (ds.getD 1 .nil).int.toNat) ?_ ?_
 ·intro ds hf hp
  obtain ⟨v, rfl⟩ := one_val hf
  obtain ⟨h1, h2⟩ := okD_one.1 hp
  rw [sz_toD] at h1
  obtain ⟨l1, l2, l3, l4⟩ := (lim_toD v).1 h2
  have o1 : okD n [sD v.dig] := okD_one.2 ⟨by rw [sz_sD]; omega, lim_sD.2 l1⟩
  have o2 : okD n [sD v.text] := okD_one.2 ⟨by rw [sz_sD]; omega, lim_sD.2 l2⟩
  have o3 : okD n [strsD v.names] := okD_one.2 ⟨by omega, l3⟩
  obtain ⟨o4, o5⟩ := okD_strs o3
  have hw : digV v.dig = true -> 0 < v.dig.size /\ IntKind.i64.wrap ((v.dig.size : Int) - 1) = ((v.dig.size - 1 : Nat) : Int) := fun h => by
   have h : v.dig.data.toList ≠ [] := by
    unfold digV at h
    rw [Bool.and_eq_true, decide_eq_true_iff] at h
    exact h.2
   have : 0 < v.dig.size := by
    rw [size_len]
    exact List.length_pos_iff.2 h
   have hs : v.dig.size <= 140737488355328 := l1
   exact ⟨this, by rw [wrap_id (by omega) (by omega)]; omega⟩
  have hn := num_iff v.neg v.dig v.exp
  have hv := ownV_iff v
  have ho : (mkS [48]) = one := rfl
  simp only [entry_rown, q_rown, Tree.holds, Out.den, E.den, E.denL, dn, List.getD_cons_zero, List.getD_cons_succ, List.length_map, phi_1000, phi_rvalid, phi_rall, phi_rown, o1, o2, ho, Int.toNat_natCast, Int.toNat_zero]
  refine ⟨fun k3 => ?_, fun k3 => ⟨fun k5 => ?_, fun k5 => ⟨fun k9 => ?_, fun k9 => ⟨fun k8 => ?_, fun k8 => ?_⟩⟩⟩⟩
  ·have h3 : ownV v = true ↔ _ := hv.trans ⟨fun h => h.1 k3, fun h => ⟨fun _ => h, fun h => by omega, fun h => by omega, fun h => by omega⟩⟩
   rw [hn] at h3
   have hle : ∀ a b : Int, leI a b = decide (a <= b) := fun _ _ => rfl
   have he : ∀ a b : Int, eqI a b = decide (a = b) := fun _ _ => rfl
   simp only [hle, he]
   clear hv hn o1 o2 o3 o4 o5 l1 l2 l3 l4 h1 h2 hf hp
   generalize ownV v = F at *
   have no : ∀ (p : Prop), (F = true -> p) -> ¬ p -> D.v (.bool false) = bD F := fun p h1 h2 => by
    cases F with
    | false => rfl
    | true => exact absurd (h1 rfl) h2
   have ye : ∀ (b : Bool), (F = true ↔ b = true) -> bD b = bD F := fun b h => by rw [Bool.eq_iff_iff.2 h]
   by_cases e : v.dig = one
   ·rw [if_pos e] at h3
    refine ⟨fun _ => ⟨fun hb => no _ (fun h => (h3.1 h).1) (by rw [hb]; decide), fun hb => ye _ ?_⟩, fun h => absurd e h⟩
    rw [h3, decide_eq_true_iff]; exact ⟨fun h => h.2, fun h => ⟨hb, h⟩⟩
   ·rw [if_neg e] at h3
    refine ⟨fun h => absurd h e, fun _ => ⟨fun hd => ?_, fun hd => no _ (fun h => (h3.1 h).1) (by rw [hd]; decide)⟩⟩
    obtain ⟨w1, w2⟩ := hw hd
    rw [w2]
    simp only [Int.toNat_natCast]
    refine ⟨fun c1 => ⟨by omega, fun c2 => ⟨by omega, by omega, fun c3 => ⟨fun c4 => ye _ ?_, fun c4 => no _ (fun h => (h3.1 h).2.2.2.2.1) c4⟩, fun c3 => no _ (fun h => (h3.1 h).2.2.2.1) (by omega)⟩, fun c2 => no _ (fun h => (h3.1 h).2.2.1) (by omega)⟩, fun c1 => no _ (fun h => (h3.1 h).2.1) c1⟩
    rw [h3, decide_eq_true_iff]
    exact ⟨fun h => h.2.2.2.2.2, fun h => ⟨hd, c1, by omega, by omega, c4, h⟩⟩
  ·have h3 : ownV v = true ↔ validV v.text = true := hv.trans ⟨fun h => h.2.1 k5, fun h => ⟨fun h => by omega, fun _ => h, fun h => by omega, fun h => by omega⟩⟩
   rw [Bool.eq_iff_iff.2 h3]
  ·have h3 : ownV v = true ↔ validV v.text = true /\ v.list.length = 1 := hv.trans ⟨fun h => h.2.2.1 k9, fun h => ⟨fun h => by omega, fun h => by omega, fun _ => h, fun h => by omega⟩⟩
   refine ⟨fun ht => ?_, fun ht => ?_⟩
   ·have : eqI v.list.length 1 = ownV v := by
     rw [Bool.eq_iff_iff, eqI_t, h3]; exact ⟨fun h => ⟨ht, by omega⟩, fun h => by omega⟩
    rw [this]
   ·have : ownV v = false := by
     cases hF : ownV v with
     | false => rfl
     | true => rw [(h3.1 hF).1] at ht; cases ht
    rw [this]
  ·have h3 : ownV v = true ↔ v.names.all validV = true /\ v.names.length = v.list.length /\ v.names.Nodup := hv.trans ⟨fun h => h.2.2.2 k8, fun h => ⟨fun h => by omega, fun h => by omega, fun h => by omega, fun _ => h⟩⟩
   refine ⟨v, 0, rfl, Nat.zero_le _, o4, o5, o3, ?_⟩
   have : ownV v = ((v.names.drop 0).all validV && (decide (v.names.length = v.list.length) && decide v.names.Nodup)) := by
    rw [Bool.eq_iff_iff, h3, List.drop_zero, Bool.and_eq_true, Bool.and_eq_true, decide_eq_true_iff, decide_eq_true_iff]
   rw [this]
  ·rw [hv.2 ⟨fun h => absurd h k3, fun h => absurd h k5, fun h => absurd h k9, fun h => absurd h k8⟩]
 ·rintro j h t d ds hj ht hf ⟨v, i, rfl, hi, hl, hs, ho, rfl⟩
  obtain rfl : t = head_rown_0 := by
   match j, ht with
   | 0, ht => exact (Option.some.inj ht).symm
  by_cases hlt : i < v.names.length
  ·obtain ⟨x, hx, hxm, hd⟩ := drop_get hlt
   simp only [head_rown_0, Tree.holds, Out.den, E.den, E.denL, dn, List.getD_cons_zero, List.getD_cons_succ, List.length_map, phi_1000, rowAt_map hx, wrap_succ hlt hl, val1_toD, phi_rvalid]
   rw [hd, List.all_cons]
   refine ⟨fun _ => ⟨by omega, hs x hxm, fun hb => ⟨⟨v, i + 1, rfl, hlt, hl, hs, ho, ?_⟩, by omega⟩, fun hb => ?_⟩, fun h => by omega⟩
   ·rw [hb]; rfl
   ·rw [hb]; rfl
  ·simp only [head_rown_0, Tree.holds, Out.den, E.den, E.denL, dn, List.getD_cons_zero, List.getD_cons_succ, List.length_map, phi_1000, phi_runlike, ho]
   rw [List.drop_eq_nil_of_le (by omega)]
   refine ⟨fun h => by omega, fun _ => ⟨fun he => ?_, fun he => ?_⟩⟩
   ·rw [decide_eq_true (show v.names.length = v.list.length by omega)]; rfl
   ·rw [decide_eq_false (show ¬ v.names.length = v.list.length by omega)]; rfl
-- head 0 of loop 0: [t1 .rf 33, t3 .sh (.cell (.sc (.i .i64)))]
def heads_rformed : List Hd := [⟨0, [.any, .rf 33, .any, .sh (.cell (.sc (.i .i64))), .any, .any, .any, .any, .any, .any, .any, .any, .any, .any, .any, .any, .any, .any, .any, .any, .any, .any, .any, .any, .any, .any]⟩]
def entry_rformed : Tree :=
 (.giv (.app 1000 [(.r9 .v0)])
 (.ite (.app 41 [(.r9 .v0)])
 (.ite (.app 42 [(.r9 .v0)])
 (.g 0 [(.r9 .v0), (.i 0)]) .no) .no))
def head_rformed_0 : Tree :=
 (.ite (.lt .v1 (.n (.c 8 .v0)))
 (.giv (.le (.i 0) .v1)
 (.giv (.app 1000 [(.r9 (.a (.c 8 .v0) .v1))])
 (.giv (.app 2043 [(.r9 (.a (.c 8 .v0) .v1))])
 (.ite (.app 43 [(.r9 (.a (.c 8 .v0) .v1))])
 (.g 0 [.v0, (.pr (.iop .add .i64) [.v1, (.i 1)])]) .no)))) .ye)
def trees_rformed : List Tree := [head_rformed_0]
noncomputable def deps_rformed : List Sig := [q_rplain, q_rown, q_rformed]
theorem ok_rformed : check q_rformed deps_rformed heads_rformed entry_rformed trees_rformed = true := by kernel_rfl
theorem rformed_step (n : Nat) (hval : @Ok (I n) q_rvalid (okD n)) (ih : @Ok (I n) q_rformed (@okS (I n) n q_rformed.g)) : @Ok (I n) q_rformed (@okS (I (n + 2)) (n + 2) q_rformed.g) := by
 have hpre := fun ds => pre_rformed (n + 2) ds
 letI := I n
 refine fn_okS (hphi n) ok_rformed (by
  intro q hq
  simp only [deps_rformed, List.mem_cons, List.not_mem_nil, or_false] at hq
  rcases hq with rfl | rfl | rfl
  ·exact okS_of (rplain_ok n)
  ·exact okS_of (rown_ok n hval)
  ·exact ih)
  (fun _ d ds => ∃ (v : Val) (i : Nat), ds = [v.toD, iD i] /\ i <= v.list.length /\ v.list.length <= lim /\ (∀ x, x ∈ v.list -> okD n [x.toD] /\ D.szL [x.toD] + 2 < n) /\ d = bD ((v.list.drop i).all formedV))
  (fun _ ds => (ds.getD 0 .nil).val1.list.length - (ds.getD 1 .nil).int.toNat) ?_ ?_
 ·intro ds hf hp
  obtain ⟨v, rfl⟩ := one_val hf
  have hz := (hpre _).1 (hp.2 rfl)
  simp only [D.szL] at hz
  have hlim := (okD_one.1 hp.1).2
  have o1 : okD n [v.toD] := okD_one.2 ⟨by omega, hlim⟩
  have hl := lim_vals.1 ((lim_toD v).1 hlim).2.2.2
  have hs := sz_toD v
  have hf := formed_split v
  simp only [entry_rformed, q_rformed, Tree.holds, Out.den, E.den, E.denL, dn, List.getD_cons_zero, List.getD_cons_succ, List.length_map, phi_1000, phi_rplain, phi_rown, phi_rformed, o1]
  rw [hf]
  refine ⟨fun h1 => ⟨fun h2 => ⟨v, 0, rfl, Nat.zero_le _, hl.1, fun x hx => ?_, ?_⟩, fun h2 => ?_⟩, fun h1 => ?_⟩
  ·have := sz_vals_mem hx
   refine ⟨okD_one.2 ⟨by omega, hl.2 x hx⟩, ?_⟩
   simp only [D.szL]; omega
  ·rw [h1, h2, List.drop_zero]; rfl
  ·rw [h1, h2]; rfl
  ·rw [h1]; rfl
 ·rintro j h t d ds hj ht hf ⟨v, i, rfl, hi, hl, hs, rfl⟩
  obtain rfl : t = head_rformed_0 := by
   match j, ht with
   | 0, ht => exact (Option.some.inj ht).symm
  by_cases hlt : i < v.list.length
  ·obtain ⟨x, hx, hxm, hd⟩ := drop_get hlt
   simp only [head_rformed_0, Tree.holds, Out.den, E.den, E.denL, dn, List.getD_cons_zero, List.getD_cons_succ, List.length_map, phi_1000, rowAt_map hx, wrap_succ hlt hl, val1_toD, phi_rformed, pre_rformed]
   rw [hd, List.all_cons]
   refine ⟨fun _ => ⟨by omega, (hs x hxm).1, (hs x hxm).2, fun hb => ⟨⟨v, i + 1, rfl, hlt, hl, hs, ?_⟩, by omega⟩, fun hb => ?_⟩, fun h => by omega⟩
   ·rw [hb]; rfl
   ·rw [hb]; rfl
  ·simp only [head_rformed_0, Tree.holds, Out.den, E.den, E.denL, dn, List.getD_cons_zero, List.getD_cons_succ, List.length_map, phi_1000]
   refine ⟨fun h => by omega, fun _ => ?_⟩
   rw [List.drop_eq_nil_of_le (by omega)]; rfl
theorem rformed_ok (hval : ∀ n, @Ok (I n) q_rvalid (okD n)) : ∀ (n : Nat), @Ok (I n) q_rformed (@okS (I n) n q_rformed.g)
 | 0 => fun W J vs ds hL hI ha hp => absurd ((pre_rformed 0 ds).1 (hp.2 rfl)) (by omega)
 | 1 => fun W J vs ds hL hI ha hp => absurd ((pre_rformed 1 ds).1 (hp.2 rfl)) (by omega)
 | n + 2 => ok_irrel (by decide) (rformed_step n (hval n) (rformed_ok hval n))
def heads_rcheck : List Hd := []
def entry_rcheck : Tree :=
 (.giv (.app 1000 [(.r9 .v0)])
 (.giv (.app 2043 [(.r9 .v0)])
 (.ite (.app 43 [(.r9 .v0)])
 (.ite (.app 46 [(.r9 .v0)])
 (.ite (.le (.app 44 [(.r9 .v0)]) (.i 16))
 (.ite (.le (.app 45 [(.r9 .v0)]) (.i 4096))
 (.rt (.i 0))
 (.rt (.i 2)))
 (.rt (.i 2)))
 (.rt (.i 2)))
 (.rt (.i 40)))))
def trees_rcheck : List Tree := []
noncomputable def deps_rcheck : List Sig := [q_rformed, q_rshort, q_rdepth, q_rsize]
theorem ok_rcheck : check q_rcheck deps_rcheck heads_rcheck entry_rcheck trees_rcheck = true := by kernel_rfl
theorem rcheck_ok (hval : ∀ n, @Ok (I n) q_rvalid (okD n)) (n : Nat) : @Ok (I n) q_rcheck (@okS (I n) n q_rcheck.g) := by
 letI := I n
 refine fn_okS (hphi n) ok_rcheck (by
  intro q hq
  simp only [deps_rcheck, List.mem_cons, List.not_mem_nil, or_false] at hq
  rcases hq with rfl | rfl | rfl | rfl
  ·exact rformed_ok hval n
  ·exact okS_of (rshort_ok n)
  ·exact okS_of (rdepth_ok n)
  ·exact okS_of (rsize_ok n)) (fun _ _ _ => False) (fun _ _ => 0) ?_ (fun j h t d ds hj => by simp [heads_rcheck] at hj)
 intro ds hf hp
 obtain ⟨v, rfl⟩ := one_val hf
 have hz := (pre_rcheck n _).1 (hp.2 rfl)
 have o1 := hp.1
 have o2 : D.szL [v.toD] + 2 < n := by omega
 simp only [entry_rcheck, q_rcheck, Tree.holds, Out.den, E.den, E.denL, dn, List.getD_cons_zero, List.getD_cons_succ, List.length_map, phi_1000, phi_rformed, phi_rshort, phi_rdepth, phi_rsize, phi_rcheck, pre_rformed, o1, o2]
 unfold checkV
 generalize formedV v = F
 generalize shortV v = S
 generalize depV v = d
 generalize sizV v = s
 clear hf hp hz o1 o2
 cases F <;> cases S <;> simp
 grind
end Go.Proofs.YtaeeblcdggjokaaGreatDoor.Vk
/- Contracts of the reference: UTF-8, bytes and numbers. -/
namespace Go.Proofs.YtaeeblcdggjokaaGreatDoor.Vk
open Go Go.Ab Go.RowKit
theorem one_int {d : List D} (h : FitL tb [.cell (.sc (.i .i64))] d) : ∃ i, d = [iD i] := by
 match d, h with
 | [a], ⟨h1, _⟩ =>
  obtain ⟨l, rfl⟩ := fits_int h1
  exact ⟨l, rfl⟩
theorem str_int {d : List D} (h : FitL tb [.cell (.sc .s), .cell (.sc (.i .i64))] d) : ∃ s i, d = [sD s, iD i] := by
 match d, h with
 | [a, b], ⟨h1, h2, _⟩ =>
  obtain ⟨l, rfl⟩ := fits_str h1
  obtain ⟨i, rfl⟩ := fits_int h2
  exact ⟨l, i, rfl⟩
theorem den_sofb (l : List D) : Prim.den .sofb l = sD (l.foldl (fun r d => r.push (UInt8.ofNat d.int.toNat)) .empty) := by cases l <;> rfl
def heads_rbytes : List Hd := []
def entry_rbytes : Tree :=
 (.ite (.lt .v0 (.i 128))
 (.rt (.pr .sofb [(.pr (.conv .u8) [.v0])]))
 (.ite (.lt .v0 (.i 2048))
 (.rt (.pr .sofb [(.pr (.conv .u8) [(.pr (.iop .add .i64) [(.i 192), (.pr (.iop .quo .i64) [.v0, (.i 64)])])]), (.pr (.conv .u8) [(.pr (.iop .add .i64) [(.i 128), (.pr (.iop .rem .i64) [.v0, (.i 64)])])])]))
 (.ite (.lt .v0 (.i 65536))
 (.rt (.pr .sofb [(.pr (.conv .u8) [(.pr (.iop .add .i64) [(.i 224), (.pr (.iop .quo .i64) [.v0, (.i 4096)])])]), (.pr (.conv .u8) [(.pr (.iop .add .i64) [(.i 128), (.pr (.iop .rem .i64) [(.pr (.iop .quo .i64) [.v0, (.i 64)]), (.i 64)])])]), (.pr (.conv .u8) [(.pr (.iop .add .i64) [(.i 128), (.pr (.iop .rem .i64) [.v0, (.i 64)])])])]))
 (.rt (.pr .sofb [(.pr (.conv .u8) [(.pr (.iop .add .i64) [(.i 240), (.pr (.iop .quo .i64) [.v0, (.i 262144)])])]), (.pr (.conv .u8) [(.pr (.iop .add .i64) [(.i 128), (.pr (.iop .rem .i64) [(.pr (.iop .quo .i64) [.v0, (.i 4096)]), (.i 64)])])]), (.pr (.conv .u8) [(.pr (.iop .add .i64) [(.i 128), (.pr (.iop .rem .i64) [(.pr (.iop .quo .i64) [.v0, (.i 64)]), (.i 64)])])]), (.pr (.conv .u8) [(.pr (.iop .add .i64) [(.i 128), (.pr (.iop .rem .i64) [.v0, (.i 64)])])])])))))
def trees_rbytes : List Tree := []
noncomputable def deps_rbytes : List Sig := []
theorem ok_rbytes : check q_rbytes deps_rbytes heads_rbytes entry_rbytes trees_rbytes = true := by kernel_rfl
theorem rbytes_ok (n : Nat) : @Ok (I n) q_rbytes (okD n) := by
 letI := I n
 refine fn_ok (hphi n) ok_rbytes (by intro q hq; simp [deps_rbytes] at hq) (fun _ _ _ => False) (fun _ _ => 0) ?_ (fun j h t d ds hj => by simp [heads_rbytes] at hj)
 intro ds hf hp
 obtain ⟨i, rfl⟩ := one_int hf
 simp only [entry_rbytes, q_rbytes, Tree.holds, Out.den, E.den, E.denL, dn, List.getD_cons_zero, List.getD_cons_succ, List.length_map, phi_1000, phi_rbytes, den_sofb]
 unfold encV
 refine ⟨fun h1 => ?_, fun h1 => ⟨fun h2 => ?_, fun h2 => ⟨fun h3 => ?_, fun h3 => ?_⟩⟩⟩
 ·rw [if_pos h1]; rfl
 ·rw [if_neg h1, if_pos h2]; rfl
 ·rw [if_neg h1, if_neg h2, if_pos h3]; rfl
 ·rw [if_neg h1, if_neg h2, if_neg h3]; rfl
-- head 0 of loop 0: [t0 .sh (.cell (.sc .s)), t1 .sh (.cell (.sc (.i .i64))), t5 .sh (.cell (.sc (.i .i64))), t6 .sh (.cell (.sc (.i .i64)))]
def heads_rnumber : List Hd := [⟨0, [.sh (.cell (.sc .s)), .sh (.cell (.sc (.i .i64))), .any, .any, .any, .sh (.cell (.sc (.i .i64))), .sh (.cell (.sc (.i .i64))), .any, .any, .any, .any, .any, .any, .any, .any, .any, .any, .any, .any, .any, .any, .any, .any, .any, .any, .any, .any, .any, .any, .any, .any, .any]⟩]
def entry_rnumber : Tree :=
 (.ite (.eq .v1 (.i 1))
 (.giv (.lt (.i 0) (.pr .slen [.v0]))
 (.rt (.pr (.conv .i64) [(.pr .sat [.v0, (.i 0)])])))
 (.giv (.lt (.i 0) (.pr .slen [.v0]))
 (.giv (.le (.i 0) .v1)
 (.giv (.ne (.pr (.iop .shr .i64) [(.i 128), .v1]) (.i 0))
 (.g 0 [.v0, .v1, (.pr (.iop .rem .i64) [(.pr (.conv .i64) [(.pr .sat [.v0, (.i 0)])]), (.pr (.iop .shr .i64) [(.i 128), .v1])]), (.i 1)])))))
def head_rnumber_0 : Tree :=
 (.ite (.lt .v3 .v1)
 (.giv (.le (.i 0) .v3)
 (.giv (.lt .v3 (.pr .slen [.v0]))
 (.g 0 [.v0, .v1, (.pr (.iop .add .i64) [(.pr (.iop .mul .i64) [(.i 64), .v2]), (.pr (.iop .rem .i64) [(.pr (.conv .i64) [(.pr .sat [.v0, .v3])]), (.i 64)])]), (.pr (.iop .add .i64) [.v3, (.i 1)])])))
 (.rt .v2))
def trees_rnumber : List Tree := [head_rnumber_0]
noncomputable def deps_rnumber : List Sig := []
theorem ok_rnumber : check q_rnumber deps_rnumber heads_rnumber entry_rnumber trees_rnumber = true := by kernel_rfl
theorem rnumber_ok (n : Nat) : @Ok (I n) q_rnumber (@okS (I n) n q_rnumber.g) := by
 letI := I n
 refine fn_okS (hphi n) ok_rnumber (by intro q hq; simp [deps_rnumber] at hq)
  (fun _ d ds => ∃ (s : ByteArray) (m i : Nat) (acc : Int), ds = [sD s, iD m, iD acc, iD i] /\ i <= m /\ m <= 4 /\ m <= s.size /\ d = iD (((s.data.toList.take m).drop i).foldl (fun a c => wrap (wrap (64 * a) + (c.toNat : Int).tmod 64)) acc))
  (fun _ ds => (ds.getD 1 .nil).int.toNat - (ds.getD 3 .nil).int.toNat) ?_ ?_
 ·intro ds hf hp
  obtain ⟨s, i, rfl⟩ := str_int hf
  obtain ⟨p1, p2, p3⟩ := (pre_rnumber n s i).1 (hp.2 rfl)
  obtain ⟨m, rfl⟩ : ∃ m : Nat, i = m := ⟨i.toNat, by omega⟩
  have hd : iopV .shr .i64 128 m = 64 \/ iopV .shr .i64 128 m = 32 \/ iopV .shr .i64 128 m = 16 \/ iopV .shr .i64 128 m = 8 := by
   have : m = 1 \/ m = 2 \/ m = 3 \/ m = 4 := by omega
   rcases this with rfl | rfl | rfl | rfl <;> decide
  have hw : ∀ c : UInt8, IntKind.i64.wrap (c.toNat : Int) = c.toNat := fun c => wrap_id (by omega) (by have := c.toNat_lt; omega)
  have hsh : (Prim.iop .shr .i64).den [D.v (.int .i64 128), iD m] = iD (iopV .shr .i64 128 m) := rfl
  simp only [entry_rnumber, q_rnumber, Tree.holds, Out.den, E.den, E.denL, dn, List.getD_cons_zero, List.getD_cons_succ, List.length_map, phi_1000, phi_rnumber, hsh, hw, Int.toNat_zero]
  refine ⟨fun h1 => ⟨by omega, ?_⟩, fun h1 => ⟨by omega, by omega, by omega, s, m, 1, _, rfl, by omega, by omega, by omega, ?_⟩⟩
  ·unfold numbV; rw [if_pos h1]
  ·unfold numbV; rw [if_neg h1]; rfl
 ·rintro j h t d ds hj ht hf ⟨s, m, i, acc, rfl, hi, hm, hs, rfl⟩
  obtain rfl : t = head_rnumber_0 := by
   match j, ht with
   | 0, ht => exact (Option.some.inj ht).symm
  by_cases hlt : i < m
  ·obtain ⟨x, hx, _, hd⟩ := drop_get (show i < (s.data.toList.take m).length by rw [List.length_take, <- size_len]; omega)
   have hx' : s.data.toList.getD i 0 = x := by
    rw [List.getElem?_take, if_pos hlt] at hx
    rw [List.getD_eq_getElem?_getD, hx]; rfl
   simp only [head_rnumber_0, Tree.holds, Out.den, E.den, E.denL, dn, List.getD_cons_zero, List.getD_cons_succ, List.length_map, phi_1000, wrap_succ hlt (show m <= lim by have : 4 <= lim := (by decide); omega), Int.toNat_natCast, hx']
   have hw : IntKind.i64.wrap (x.toNat : Int) = x.toNat := wrap_id (by omega) (by have := x.toNat_lt; omega)
   rw [hd, List.foldl_cons, hw]
   exact ⟨fun _ => ⟨by omega, by omega, ⟨s, m, i + 1, _, rfl, hlt, hm, hs, rfl⟩, by omega⟩, fun h => by omega⟩
  ·simp only [head_rnumber_0, Tree.holds, Out.den, E.den, E.denL, dn, List.getD_cons_zero, List.getD_cons_succ, List.length_map, phi_1000]
   refine ⟨fun h => by omega, fun _ => ?_⟩
   rw [List.drop_eq_nil_of_le (by rw [List.length_take]; omega)]; rfl
end Go.Proofs.YtaeeblcdggjokaaGreatDoor.Vk
/- The order of values is one; ValueThree. -/
namespace Go.Proofs.YtaeeblcdggjokaaGreatDoor.Vk
open Go Go.Ab Go.RowKit
def Same (k : Int) (v : Val) : Prop := good v = true /\ v.kind = k
end Go.Proofs.YtaeeblcdggjokaaGreatDoor.Vk
/- Contracts of the reference: zeros, texts of one length. -/
namespace Go.Proofs.YtaeeblcdggjokaaGreatDoor.Vk
open Go Go.Ab Go.RowKit
-- head 0 of loop 0: [t0 .sh (.cell (.sc (.i .i64))), t3 .sh (.cell (.sc .s)), t4 .sh (.cell (.sc (.i .i64)))]
-- head 0 of loop 0: [t0 .sh (.cell (.sc .s)), t1 .sh (.cell (.sc .s)), t5 .sh (.cell (.sc (.i .i64)))]
end Go.Proofs.YtaeeblcdggjokaaGreatDoor.Vk
/- Contracts of the reference: Count, Valid; given that of Decode. -/
namespace Go.Proofs.YtaeeblcdggjokaaGreatDoor.Vk
open Go Go.Ab Go.RowKit
theorem ext_size (s : ByteArray) (i : Nat) (h : i <= s.size) : (s.extract i s.size).size = s.size - i := by
 rw [ByteArray.size_extract]; omega
theorem decV_next {s : ByteArray} {i : Nat} (h : (decV s i).2.2 = 0) : ∃ m : Nat, (decV s i).2.1 = m /\ 1 <= m /\ i + m <= s.size := by
 unfold decV at h ⊢
 by_cases h1 : (i : Int) < 0
 ·rw [if_pos h1] at h; cases h
 rw [if_neg h1] at h ⊢
 by_cases h2 : (s.size : Int) <= i
 ·rw [if_pos h2] at h; cases h
 rw [if_neg h2] at h ⊢
 have hs := ext_size s i (by omega)
 simp only [Int.toNat_natCast] at h ⊢
 split at h
 ·rename_i h3
  rw [if_pos h3]
  have h4 := h3.2.1
  rw [hs] at h4
  have h5 := h3.1
  refine ⟨(longV ((s.extract i s.size).data.toList.getD 0 0).toNat).toNat, ?_, by omega, by omega⟩
  show longV ((s.extract i s.size).data.toList.getD 0 0).toNat = _
  omega
 ·split at h <;> cases h
-- head 0 of loop 0: [t0 .sh (.cell (.sc .s)), t4 .sh (.cell (.sc (.i .i64))), t5 .sh (.cell (.sc (.i .i64)))]
def heads_rcount : List Hd := [⟨0, [.sh (.cell (.sc .s)), .any, .any, .any, .sh (.cell (.sc (.i .i64))), .sh (.cell (.sc (.i .i64))), .any, .any, .any, .any, .any, .any, .any, .any, .any, .any, .any, .any, .any, .any, .any, .any, .any, .any, .any, .any, .any, .any, .any]⟩]
def entry_rcount : Tree :=
 (.g 0 [.v0, (.i 0), (.i 0)])
def head_rcount_0 : Tree :=
 (.ite (.lt .v2 (.pr .slen [.v0]))
 (.giv (.app 1000 [.v0, .v2])
 (.ite (.ne (.c 2 (.app 32 [.v0, .v2])) (.i 0))
 (.rt (.pr .row [(.i 0), (.c 2 (.app 32 [.v0, .v2]))]))
 (.g 0 [.v0, (.pr (.iop .add .i64) [.v1, (.i 1)]), (.pr (.iop .add .i64) [.v2, (.c 1 (.app 32 [.v0, .v2]))])])))
 (.rt (.pr .row [.v1, (.i 0)])))
def trees_rcount : List Tree := [head_rcount_0]
noncomputable def deps_rcount : List Sig := [q_rdecode]
theorem ok_rcount : check q_rcount deps_rcount heads_rcount entry_rcount trees_rcount = true := by kernel_rfl
theorem rcount_at (n : Nat) (hdec : @Ok (I n) q_rdecode (okD n)) : @Ok (I n) q_rcount (fun ds => D.szL ds + 4 < n /\ D.LimL ds) := by
 letI := I n
 refine fn_ok (hphi n) ok_rcount (by intro q hq; simp only [deps_rcount, List.mem_singleton] at hq; subst hq; exact hdec)
  (fun _ d ds => ∃ (s : ByteArray) (c : Int) (i k : Nat), ds = [sD s, iD c, iD i] /\ i <= s.size /\ s.size < k + i /\ s.size <= lim /\ okD n [sD s, iD 0] /\ d = .row [iD (countF k s c i).1, iD (countF k s c i).2])
  (fun _ ds => (ds.getD 0 .nil).str.size - (ds.getD 2 .nil).int.toNat) ?_ ?_
 ·intro ds hf hp
  obtain ⟨s, rfl⟩ := one_str hf
  obtain ⟨p1, p2⟩ := hp
  simp only [D.szL, D.sz, D.LimL, and_true] at p1 p2
  have hl := lim_sD.1 p2
  simp only [entry_rcount, q_rcount, Tree.holds, Out.den, E.den, E.denL, dn, List.getD_cons_zero, List.getD_cons_succ, List.length_map, phi_1000, phi_rcount]
  exact ⟨s, 0, 0, s.size + 1, rfl, Nat.zero_le _, by omega, hl, okD_two.2 ⟨by simp only [D.sz]; omega, p2, trivial⟩, rfl⟩
 ·rintro j h t d ds hj ht hf ⟨s, c, i, k, rfl, hi, hk, hl, ho, rfl⟩
  obtain rfl : t = head_rcount_0 := by
   match j, ht with
   | 0, ht => exact (Option.some.inj ht).symm
  have ho' : okD n [sD s, iD i] := okD_two.2 ⟨by have := (okD_two.1 ho).1; simp only [D.sz] at this ⊢; omega, (okD_two.1 ho).2.1, trivial⟩
  obtain ⟨k, rfl⟩ : ∃ k', k = k' + 1 := ⟨k - 1, by omega⟩
  have hc : countF (k + 1) s c i = if (i : Int) < s.size then (if (decV s i).2.2 = 0 then countF k s (wrap (c + 1)) (wrap (i + (decV s i).2.1)) else (0, (decV s i).2.2)) else (c, 0) := rfl
  by_cases hlt : i < s.size
  ·simp only [head_rcount_0, Tree.holds, Out.den, E.den, E.denL, dn, List.getD_cons_zero, List.getD_cons_succ, List.length_map, phi_1000, phi_rdecode, row_at0, row_at1, row_at2, ho']
   rw [hc, if_pos (by omega)]
   refine ⟨fun _ => ⟨fun he => ?_, fun he => ?_⟩, fun h => by omega⟩
   ·rw [if_neg he]
   ·rw [if_pos he]
    obtain ⟨m, hm, h1, h2⟩ := decV_next he
    have hs : s.size <= 140737488355328 := hl
    have hw : IntKind.i64.wrap ((i : Int) + (decV s i).2.1) = ((i + m : Nat) : Int) := by rw [hm, wrap_id (by omega) (by omega)]; omega
    rw [hw]
    refine ⟨⟨s, wrap (c + 1), i + m, k, rfl, h2, by omega, hl, ho, ?_⟩, ?_⟩
    ·show _ = D.row [iD (countF k s (wrap (c + 1)) ((i + m : Nat) : Int)).1, _]
     rw [show wrap ((i : Int) + (decV s i).2.1) = ((i + m : Nat) : Int) from hw]
    ·simp only [Int.toNat_natCast]; omega
  ·simp only [head_rcount_0, Tree.holds, Out.den, E.den, E.denL, dn, List.getD_cons_zero, List.getD_cons_succ, List.length_map, phi_1000]
   rw [hc, if_neg (by omega)]
   exact ⟨fun h => by omega, fun _ => rfl⟩
theorem rcount_ok (hdec : ∀ n, @Ok (I n) q_rdecode (okD n)) (n : Nat) : @Ok (I n) q_rcount (okD n) := by
 have h : @Ok (I n) q_rcount (fun ds => D.szL ds + 4 < n + 10 /\ D.LimL ds) := ok_irrel (by decide) (rcount_at (n + 10) (hdec (n + 10)))
 letI := I n
 exact h.less fun ds k => ⟨by have := k.1; omega, k.2⟩
end Go.Proofs.YtaeeblcdggjokaaGreatDoor.Vk
/- What is a text: the reference's decoder answers as the library's. Plain Lean. -/
namespace Go.Proofs.YtaeeblcdggjokaaGreatDoor.Vk
open Go Go.Ab Go.RowKit
theorem ofNat_eq (k : Nat) (b : UInt8) : UInt8.ofNat k = b ↔ k % 256 = b.toNat := by
 constructor
 ·intro h; rw [<- h, UInt8.toNat_ofNat']
 ·intro h; apply UInt8.toNat_inj.1; rw [UInt8.toNat_ofNat']; exact h
theorem c8_nat (k : Nat) (h : k < 4194304) : c8 (k : Int) = UInt8.ofNat k := by
 unfold c8
 have e : IntKind.u8.wrap (k : Int) = ((k % 256 : Nat) : Int) := by
  unfold IntKind.wrap
  have e : (2 ^ IntKind.u8.bits : Int) = 256 := rfl
  have e3 : IntKind.u8.signed = false := rfl
  simp only [e, e3, Bool.false_and, Bool.false_eq_true, if_false]
  omega
 rw [e, Int.toNat_natCast]
 apply UInt8.toNat_inj.1
 rw [UInt8.toNat_ofNat', UInt8.toNat_ofNat']
 omega
def encN (r : Nat) : List UInt8 :=
 if r < 128 then [UInt8.ofNat r] else
 if r < 2048 then [UInt8.ofNat (192 + r / 64), UInt8.ofNat (128 + r % 64)] else
 if r < 65536 then [UInt8.ofNat (224 + r / 4096), UInt8.ofNat (128 + r / 64 % 64), UInt8.ofNat (128 + r % 64)] else
 [UInt8.ofNat (240 + r / 262144), UInt8.ofNat (128 + r / 4096 % 64), UInt8.ofNat (128 + r / 64 % 64), UInt8.ofNat (128 + r % 64)]
theorem wrap_nat {k : Nat} (h : k < 4194304) : wrap (k : Int) = (k : Int) := wrap_id (by omega) (by omega)
theorem enc_nat (r : Nat) (h : r < 4194304) : (encV (r : Int)).data.toList = encN r := by
 have q : ∀ m : Nat, 0 < m -> ((r : Int).tdiv (m : Int)) = ((r / m : Nat) : Int) := fun m _ => (Int.ofNat_tdiv r m).symm
 have q64 : (r : Int).tdiv 64 = ((r / 64 : Nat) : Int) := q 64 (by decide)
 have q4096 : (r : Int).tdiv 4096 = ((r / 4096 : Nat) : Int) := q 4096 (by decide)
 have q262144 : (r : Int).tdiv 262144 = ((r / 262144 : Nat) : Int) := q 262144 (by decide)
 have m64 : ∀ k : Nat, (k : Int).tmod 64 = ((k % 64 : Nat) : Int) := fun k => (Int.ofNat_tmod k 64).symm
 have a : ∀ (c k : Nat), c + k < 4194304 -> c8 (wrap ((c : Int) + (k : Int))) = UInt8.ofNat (c + k) := fun c k hk => by
  rw [show (c : Int) + (k : Int) = ((c + k : Nat) : Int) from rfl, wrap_nat hk, c8_nat _ hk]
 unfold encV encN
 rw [q64, q4096, q262144, wrap_nat (show r / 64 < _ by omega), wrap_nat (show r / 4096 < _ by omega), wrap_nat (show r / 262144 < _ by omega), m64, m64, m64]
 by_cases h1 : r < 128
 ·rw [if_pos h1, if_pos (by omega)]
  show [c8 r] = _
  rw [c8_nat _ h]
 rw [if_neg h1, if_neg (show ¬ (r : Int) < 128 by omega)]
 by_cases h2 : r < 2048
 ·rw [if_pos h2, if_pos (by omega)]
  show [c8 (wrap (((192 : Nat) : Int) + _)), c8 (wrap (((128 : Nat) : Int) + _))] = _
  rw [a _ _ (by omega), a _ _ (by omega)]
 rw [if_neg h2, if_neg (show ¬ (r : Int) < 2048 by omega)]
 by_cases h3 : r < 65536
 ·rw [if_pos h3, if_pos (by omega)]
  show [c8 (wrap (((224 : Nat) : Int) + _)), c8 (wrap (((128 : Nat) : Int) + _)), c8 (wrap (((128 : Nat) : Int) + _))] = _
  rw [a _ _ (by omega), a _ _ (by omega), a _ _ (by omega)]
 rw [if_neg h3, if_neg (show ¬ (r : Int) < 65536 by omega)]
 show [c8 (wrap (((240 : Nat) : Int) + _)), c8 (wrap (((128 : Nat) : Int) + _)), c8 (wrap (((128 : Nat) : Int) + _)), c8 (wrap (((128 : Nat) : Int) + _))] = _
 rw [a _ _ (by omega), a _ _ (by omega), a _ _ (by omega), a _ _ (by omega)]
theorem enc_is {t : ByteArray} {r n : Nat} (h : r < 4194304) : encV (r : Int) = t.extract 0 n ↔ encN r = t.data.toList.take n := by
 have e : (t.extract 0 n).data.toList = t.data.toList.take n := by
  rw [ByteArray.data_extract, Array.toList_extract]
  unfold List.extract
  rw [List.drop_zero, Nat.sub_zero]
 rw [<- enc_nat r h, <- e]
 exact ⟨fun h => by rw [h], fun h => ByteArray.ext (Array.toList_inj.1 h)⟩
theorem isR_nat (r : Nat) : isR (r : Int) = true ↔ r <= 1114111 /\ (r < 55296 \/ 57343 < r) := by
 unfold isR
 rw [decide_eq_true_iff]
 omega
theorem step_nat (a : Nat) (c : UInt8) (h : a < 65536) : wrap (wrap (64 * (a : Int)) + (c.toNat : Int).tmod 64) = ((a * 64 + c.toNat % 64 : Nat) : Int) := by
 have m64 : (c.toNat : Int).tmod 64 = ((c.toNat % 64 : Nat) : Int) := (Int.ofNat_tmod _ 64).symm
 rw [m64, show (64 : Int) * (a : Int) = ((a * 64 : Nat) : Int) by omega, wrap_nat (by omega), show ((a * 64 : Nat) : Int) + ((c.toNat % 64 : Nat) : Int) = ((a * 64 + c.toNat % 64 : Nat) : Int) from rfl, wrap_nat (by omega)]
theorem numb_two {t : ByteArray} {b0 b1 : UInt8} {r : List UInt8} (h : t.data.toList = b0 :: b1 :: r) : numbV t 2 = ((b0.toNat % 32 * 64 + b1.toNat % 64 : Nat) : Int) := by
 have e : (b0.toNat : Int).tmod ((128 : Int).fdiv (2 ^ (min (2 : Int).toNat 64))) = ((b0.toNat % 32 : Nat) : Int) := (Int.ofNat_tmod _ 32).symm
 unfold numbV
 rw [if_neg (by decide), h]
 show List.foldl _ ((b0.toNat : Int).tmod _) [b1] = _
 rw [e, List.foldl_cons, List.foldl_nil, step_nat _ _ (by omega)]
theorem numb_three {t : ByteArray} {b0 b1 b2 : UInt8} {r : List UInt8} (h : t.data.toList = b0 :: b1 :: b2 :: r) : numbV t 3 = (((b0.toNat % 16 * 64 + b1.toNat % 64) * 64 + b2.toNat % 64 : Nat) : Int) := by
 have e : (b0.toNat : Int).tmod ((128 : Int).fdiv (2 ^ (min (3 : Int).toNat 64))) = ((b0.toNat % 16 : Nat) : Int) := (Int.ofNat_tmod _ 16).symm
 unfold numbV
 rw [if_neg (by decide), h]
 show List.foldl _ ((b0.toNat : Int).tmod _) [b1, b2] = _
 rw [e, List.foldl_cons, List.foldl_cons, List.foldl_nil, step_nat _ _ (by omega), step_nat _ _ (by omega)]
theorem numb_four {t : ByteArray} {b0 b1 b2 b3 : UInt8} {r : List UInt8} (h : t.data.toList = b0 :: b1 :: b2 :: b3 :: r) : numbV t 4 = ((((b0.toNat % 8 * 64 + b1.toNat % 64) * 64 + b2.toNat % 64) * 64 + b3.toNat % 64 : Nat) : Int) := by
 have e : (b0.toNat : Int).tmod ((128 : Int).fdiv (2 ^ (min (4 : Int).toNat 64))) = ((b0.toNat % 8 : Nat) : Int) := (Int.ofNat_tmod _ 8).symm
 unfold numbV
 rw [if_neg (by decide), h]
 show List.foldl _ ((b0.toNat : Int).tmod _) [b1, b2, b3] = _
 rw [e, List.foldl_cons, List.foldl_cons, List.foldl_cons, List.foldl_nil, step_nat _ _ (by omega), step_nat _ _ (by omega), step_nat _ _ (by omega)]
theorem headOk_iff {t : ByteArray} {n : Int} {r : Nat} (hn : numbV t n = (r : Int)) (h : r < 4194304) : headOk t n = true ↔ (r <= 1114111 /\ (r < 55296 \/ 57343 < r)) /\ encN r = t.data.toList.take n.toNat := by
 unfold headOk
 rw [hn, Bool.and_eq_true, isR_nat, decide_eq_true_iff, enc_is h]
theorem head_one {t : ByteArray} {b0 : UInt8} {r : List UInt8} (h : t.data.toList = b0 :: r) (hb : b0.toNat < 128) : headOk t 1 = true := by
 have hn : numbV t 1 = (b0.toNat : Int) := by unfold numbV; rw [if_pos rfl, h]; rfl
 rw [headOk_iff hn (by omega)]
 refine ⟨by omega, ?_⟩
 rw [h]
 unfold encN
 rw [if_pos hb]
 show [UInt8.ofNat b0.toNat] = [b0]
 rw [UInt8.ofNat_toNat]
theorem head_two {t : ByteArray} {b0 b1 : UInt8} {r : List UInt8} (h : t.data.toList = b0 :: b1 :: r) (hb : 192 <= b0.toNat /\ b0.toNat < 224) : headOk t 2 = true ↔ b1.toNat / 64 = 2 /\ 128 <= b0.toNat % 32 * 64 + b1.toNat % 64 := by
 have h1 := b1.toNat_lt
 rw [headOk_iff (numb_two h) (by omega), h]
 show _ /\ _ = [b0, b1] ↔ _
 generalize hr : b0.toNat % 32 * 64 + b1.toNat % 64 = r
 unfold encN
 by_cases c : r < 128
 ·rw [if_pos c]; simp; omega
 ·rw [if_neg c, if_pos (by omega)]
  simp only [List.cons.injEq, ofNat_eq, and_true]
  omega
theorem head_three {t : ByteArray} {b0 b1 b2 : UInt8} {r : List UInt8} (h : t.data.toList = b0 :: b1 :: b2 :: r) (hb : 224 <= b0.toNat /\ b0.toNat < 240) : headOk t 3 = true ↔ b1.toNat / 64 = 2 /\ b2.toNat / 64 = 2 /\ 2048 <= b0.toNat % 16 * 4096 + b1.toNat % 64 * 64 + b2.toNat % 64 /\ (b0.toNat % 16 * 4096 + b1.toNat % 64 * 64 + b2.toNat % 64 < 55296 \/ 57343 < b0.toNat % 16 * 4096 + b1.toNat % 64 * 64 + b2.toNat % 64) := by
 have h1 := b1.toNat_lt
 have h2 := b2.toNat_lt
 rw [headOk_iff (numb_three h) (by omega), h]
 show _ /\ _ = [b0, b1, b2] ↔ _
 rw [show b0.toNat % 16 * 4096 + b1.toNat % 64 * 64 + b2.toNat % 64 = (b0.toNat % 16 * 64 + b1.toNat % 64) * 64 + b2.toNat % 64 by omega]
 generalize hr : (b0.toNat % 16 * 64 + b1.toNat % 64) * 64 + b2.toNat % 64 = r
 unfold encN
 by_cases c : r < 128
 ·rw [if_pos c]; simp; omega
 rw [if_neg c]
 by_cases c' : r < 2048
 ·rw [if_pos c']; simp; omega
 ·rw [if_neg c', if_pos (by omega)]
  simp only [List.cons.injEq, ofNat_eq, and_true]
  omega
theorem head_four {t : ByteArray} {b0 b1 b2 b3 : UInt8} {r : List UInt8} (h : t.data.toList = b0 :: b1 :: b2 :: b3 :: r) (hb : 240 <= b0.toNat /\ b0.toNat < 248) : headOk t 4 = true ↔ b1.toNat / 64 = 2 /\ b2.toNat / 64 = 2 /\ b3.toNat / 64 = 2 /\ 65536 <= b0.toNat % 8 * 262144 + b1.toNat % 64 * 4096 + b2.toNat % 64 * 64 + b3.toNat % 64 /\ b0.toNat % 8 * 262144 + b1.toNat % 64 * 4096 + b2.toNat % 64 * 64 + b3.toNat % 64 <= 1114111 := by
 have h1 := b1.toNat_lt
 have h2 := b2.toNat_lt
 have h3 := b3.toNat_lt
 rw [headOk_iff (numb_four h) (by omega), h]
 show _ /\ _ = [b0, b1, b2, b3] ↔ _
 rw [show b0.toNat % 8 * 262144 + b1.toNat % 64 * 4096 + b2.toNat % 64 * 64 + b3.toNat % 64 = ((b0.toNat % 8 * 64 + b1.toNat % 64) * 64 + b2.toNat % 64) * 64 + b3.toNat % 64 by omega]
 generalize hr : ((b0.toNat % 8 * 64 + b1.toNat % 64) * 64 + b2.toNat % 64) * 64 + b3.toNat % 64 = r
 unfold encN
 by_cases c : r < 128
 ·rw [if_pos c]; simp; omega
 rw [if_neg c]
 by_cases c' : r < 2048
 ·rw [if_pos c']; simp; omega
 rw [if_neg c']
 by_cases c'' : r < 65536
 ·rw [if_pos c'']; simp; omega
 ·rw [if_neg c'']
  simp only [List.cons.injEq, ofNat_eq, and_true]
  omega
def badN (x : Nat × Nat) : Prop := x.1 = 65533 /\ x.2 = 1
theorem dec_no {P : Prop} {n : Int} {x : Nat × Nat} (hP : ¬ P) (hx : x = (65533, 1)) : (P ↔ ¬ badN x) /\ (P -> n = (x.2 : Int)) :=
 ⟨⟨fun h => absurd h hP, fun h => absurd (by rw [hx]; exact ⟨rfl, rfl⟩) h⟩, fun h => absurd h hP⟩
theorem dec_yes {P : Prop} {n v : Nat} {x : Nat × Nat} (hP : P) (hx : x = (v, n)) (hn : n ≠ 1 \/ v ≠ 65533) : (P ↔ ¬ badN x) /\ (P -> (n : Int) = (x.2 : Int)) := by
 subst hx
 refine ⟨⟨fun _ h => ?_, fun _ => hP⟩, fun _ => rfl⟩
 have h1 : v = 65533 := h.1
 have h2 : n = 1 := h.2
 omega
theorem head_dec (t : ByteArray) (ht : 0 < t.size) :
  ((0 < longV (t.data.toList.getD 0 0).toNat /\ longV (t.data.toList.getD 0 0).toNat <= t.size /\ headOk t (longV (t.data.toList.getD 0 0).toNat) = true) ↔ ¬ badN (Lib.decodeL t.data.toList)) /\
  ((0 < longV (t.data.toList.getD 0 0).toNat /\ longV (t.data.toList.getD 0 0).toNat <= t.size /\ headOk t (longV (t.data.toList.getD 0 0).toNat) = true) -> longV (t.data.toList.getD 0 0).toNat = ((Lib.decodeL t.data.toList).2 : Int)) := by
 rw [Lib.decodeL_N]
 have hsz := size_len t
 match hl : t.data.toList with
 | [] => rw [hl, List.length_nil] at hsz; omega
 | b0 :: r =>
  rw [hl] at hsz
  have hb := b0.toNat_lt
  show ((0 < longV b0.toNat /\ longV b0.toNat <= t.size /\ headOk t (longV b0.toNat) = true) ↔ ¬ badN (Lib.decodeN (r.length + 1) b0.toNat (r.getD 0 0).toNat (r.getD 1 0).toNat (r.getD 2 0).toNat)) /\ ((0 < longV b0.toNat /\ longV b0.toNat <= t.size /\ headOk t (longV b0.toNat) = true) -> longV b0.toNat = ((Lib.decodeN (r.length + 1) b0.toNat (r.getD 0 0).toNat (r.getD 1 0).toNat (r.getD 2 0).toNat).2 : Int))
  rw [List.length_cons] at hsz
  by_cases c1 : b0.toNat < 128
  ·have e : longV b0.toNat = ((1 : Nat) : Int) := by unfold longV; rw [if_pos c1]; rfl
   rw [e]
   exact dec_yes ⟨by omega, by omega, head_one hl c1⟩ (by unfold Lib.decodeN; rw [if_pos c1]) (by omega)
  by_cases c2 : b0.toNat < 192
  ·have e : longV b0.toNat = 0 := by unfold longV; rw [if_neg c1, if_neg (by omega), if_neg (by omega), if_neg (by omega)]
   rw [e]
   exact dec_no (fun h => by omega) (by unfold Lib.decodeN; rw [if_neg c1, if_neg (by omega), if_neg (by omega), if_neg (by omega)])
  by_cases c3 : b0.toNat < 224
  ·have e : longV b0.toNat = ((2 : Nat) : Int) := by unfold longV; rw [if_neg c1, if_pos (by omega)]; rfl
   rw [e]
   by_cases hlen : r.length < 1
   ·exact dec_no (fun h => by omega) (by unfold Lib.decodeN; rw [if_neg c1, if_neg (by omega), if_neg (by omega), if_neg (by omega)])
   obtain ⟨b1, r', rfl⟩ : ∃ b1 r', r = b1 :: r' := by
    match r, hlen with
    | [], h => exact absurd (Nat.zero_lt_one) h
    | b1 :: r', _ => exact ⟨b1, r', rfl⟩
   have h2 := head_two hl (by omega)
   rw [List.length_cons] at hsz ⊢
   simp only [List.getD_cons_zero]
   by_cases k : b1.toNat / 64 = 2
   ·by_cases k2 : b0.toNat % 32 * 64 + b1.toNat % 64 ≥ 128
    ·exact dec_yes ⟨by omega, by omega, h2.2 ⟨k, k2⟩⟩ (by unfold Lib.decodeN; rw [if_neg c1, if_pos (by omega), if_pos k2]) (by omega)
    ·exact dec_no (fun h => k2 (h2.1 h.2.2).2) (by unfold Lib.decodeN; rw [if_neg c1, if_pos (by omega), if_neg k2])
   ·exact dec_no (fun h => k (h2.1 h.2.2).1) (by unfold Lib.decodeN; rw [if_neg c1, if_neg (by omega), if_neg (by omega), if_neg (by omega)])
  by_cases c4 : b0.toNat < 240
  ·have e : longV b0.toNat = ((3 : Nat) : Int) := by unfold longV; rw [if_neg c1, if_neg (by omega), if_pos (by omega)]; rfl
   rw [e]
   by_cases hlen : r.length < 2
   ·exact dec_no (fun h => by omega) (by unfold Lib.decodeN; rw [if_neg c1, if_neg (by omega), if_neg (by omega), if_neg (by omega)])
   obtain ⟨b1, b2, r', rfl⟩ : ∃ b1 b2 r', r = b1 :: b2 :: r' := by
    match r, hlen with
    | [], h => exact absurd (by simp) h
    | [_], h => exact absurd (by simp) h
    | b1 :: b2 :: r', _ => exact ⟨b1, b2, r', rfl⟩
   have h2 := head_three hl (by omega)
   rw [List.length_cons, List.length_cons] at hsz ⊢
   simp only [List.getD_cons_zero, List.getD_cons_succ]
   by_cases k : b1.toNat / 64 = 2 /\ b2.toNat / 64 = 2
   ·by_cases k2 : 2048 <= b0.toNat % 16 * 4096 + b1.toNat % 64 * 64 + b2.toNat % 64 /\ (b0.toNat % 16 * 4096 + b1.toNat % 64 * 64 + b2.toNat % 64 < 55296 \/ 57343 < b0.toNat % 16 * 4096 + b1.toNat % 64 * 64 + b2.toNat % 64)
    ·exact dec_yes ⟨by omega, by omega, h2.2 ⟨k.1, k.2, k2⟩⟩ (by unfold Lib.decodeN; rw [if_neg c1, if_neg (by omega), if_pos (by omega), if_pos (by omega)]) (by omega)
    ·exact dec_no (fun h => k2 (h2.1 h.2.2).2.2) (by unfold Lib.decodeN; rw [if_neg c1, if_neg (by omega), if_pos (by omega), if_neg (by omega)])
   ·exact dec_no (fun h => k ⟨(h2.1 h.2.2).1, (h2.1 h.2.2).2.1⟩) (by unfold Lib.decodeN; rw [if_neg c1, if_neg (by omega), if_neg (by omega), if_neg (by omega)])
  by_cases c5 : b0.toNat < 248
  ·have e : longV b0.toNat = ((4 : Nat) : Int) := by unfold longV; rw [if_neg c1, if_neg (by omega), if_neg (by omega), if_pos (by omega)]; rfl
   rw [e]
   by_cases hlen : r.length < 3
   ·exact dec_no (fun h => by omega) (by unfold Lib.decodeN; rw [if_neg c1, if_neg (by omega), if_neg (by omega), if_neg (by omega)])
   obtain ⟨b1, b2, b3, r', rfl⟩ : ∃ b1 b2 b3 r', r = b1 :: b2 :: b3 :: r' := by
    match r, hlen with
    | [], h => exact absurd (by simp) h
    | [_], h => exact absurd (by simp) h
    | [_, _], h => exact absurd (by simp) h
    | b1 :: b2 :: b3 :: r', _ => exact ⟨b1, b2, b3, r', rfl⟩
   have h2 := head_four hl (by omega)
   rw [List.length_cons, List.length_cons, List.length_cons] at hsz ⊢
   simp only [List.getD_cons_zero, List.getD_cons_succ]
   by_cases k : b1.toNat / 64 = 2 /\ b2.toNat / 64 = 2 /\ b3.toNat / 64 = 2
   ·by_cases k2 : 65536 <= b0.toNat % 8 * 262144 + b1.toNat % 64 * 4096 + b2.toNat % 64 * 64 + b3.toNat % 64 /\ b0.toNat % 8 * 262144 + b1.toNat % 64 * 4096 + b2.toNat % 64 * 64 + b3.toNat % 64 <= 1114111
    ·exact dec_yes ⟨by omega, by omega, h2.2 ⟨k.1, k.2.1, k.2.2, k2⟩⟩ (by unfold Lib.decodeN; rw [if_neg c1, if_neg (by omega), if_neg (by omega), if_pos (by omega), if_pos (by omega)]) (by omega)
    ·exact dec_no (fun h => k2 (h2.1 h.2.2).2.2.2) (by unfold Lib.decodeN; rw [if_neg c1, if_neg (by omega), if_neg (by omega), if_pos (by omega), if_neg (by omega)])
   ·exact dec_no (fun h => k ⟨(h2.1 h.2.2).1, (h2.1 h.2.2).2.1, (h2.1 h.2.2).2.2.1⟩) (by unfold Lib.decodeN; rw [if_neg c1, if_neg (by omega), if_neg (by omega), if_neg (by omega)])
  ·have e : longV b0.toNat = 0 := by unfold longV; rw [if_neg c1, if_neg (by omega), if_neg (by omega), if_neg (by omega)]
   rw [e]
   exact dec_no (fun h => by omega) (by unfold Lib.decodeN; rw [if_neg c1, if_neg (by omega), if_neg (by omega), if_neg (by omega)])
theorem drop_list (s : ByteArray) (i : Nat) : (s.extract i s.size).data.toList = s.data.toList.drop i := by
 rw [ByteArray.data_extract, Array.toList_extract]
 unfold List.extract
 rw [List.take_of_length_le]
 rw [List.length_drop, <- size_len]
 exact Nat.le_refl _
theorem decV_lib {s : ByteArray} {i : Nat} (h : i < s.size) : ((decV s i).2.2 = 0 ↔ ¬ badN (Lib.decodeL (s.data.toList.drop i))) /\ ((decV s i).2.2 = 0 -> (decV s i).2.1 = ((Lib.decodeL (s.data.toList.drop i)).2 : Int)) := by
 have hs := ext_size s i (by omega)
 have hd := head_dec (s.extract i s.size) (by omega)
 rw [drop_list] at hd
 unfold decV
 rw [if_neg (show ¬ (i : Int) < 0 by omega), if_neg (show ¬ (s.size : Int) <= i by omega)]
 simp only [Int.toNat_natCast, drop_list]
 split
 ·rename_i c
  exact ⟨⟨fun _ => hd.1.1 c, fun _ => rfl⟩, fun _ => hd.2 c⟩
 ·rename_i c
  have nb : ¬ ¬ badN (Lib.decodeL (s.data.toList.drop i)) := fun k => c (hd.1.2 k)
  split
  ·exact ⟨⟨fun h => (by cases h), fun h => absurd h nb⟩, fun h => (by cases h)⟩
  ·exact ⟨⟨fun h => (by cases h), fun h => absurd h nb⟩, fun h => (by cases h)⟩
theorem count_valid {s : ByteArray} (hl : s.size <= lim) : ∀ (k : Nat) (c : Int) (i : Nat), i <= s.size -> s.size < k + i -> ((countF k s c i).2 = 0 ↔ Lib.validD (s.data.toList.drop i) = true)
 | 0, c, i, hi, hk => by omega
 | k + 1, c, i, hi, hk => by
  have hc : countF (k + 1) s c i = if (i : Int) < s.size then (if (decV s i).2.2 = 0 then countF k s (wrap (c + 1)) (wrap (i + (decV s i).2.1)) else (0, (decV s i).2.2)) else (c, 0) := rfl
  have hsz := size_len s
  rw [hc]
  by_cases hlt : i < s.size
  ·rw [if_pos (by omega), Lib.validD_step _ (by intro e; have := congrArg List.length e; rw [List.length_drop, List.length_nil] at this; omega)]
   obtain ⟨d1, d2⟩ := decV_lib hlt
   by_cases he : (decV s i).2.2 = 0
   ·obtain ⟨m, hm, h1, h2⟩ := decV_next he
    have hm' := d2 he
    have hs : s.size <= 140737488355328 := hl
    have hw : wrap ((i : Int) + (decV s i).2.1) = ((i + m : Nat) : Int) := by show IntKind.i64.wrap _ = _; rw [hm, wrap_id (by omega) (by omega)]; omega
    rw [if_pos he, if_neg (show ¬ ((Lib.decodeL (s.data.toList.drop i)).1 = 65533 /\ (Lib.decodeL (s.data.toList.drop i)).2 = 1) from d1.1 he), hw, count_valid hl k _ (i + m) h2 (by omega), List.drop_drop]
    have : m = (Lib.decodeL (s.data.toList.drop i)).2 := by omega
    rw [<- this]
   ·have : badN (Lib.decodeL (s.data.toList.drop i)) := Classical.byContradiction fun k => he (d1.2 k)
    rw [if_neg he, if_pos (show (Lib.decodeL (s.data.toList.drop i)).1 = 65533 /\ (Lib.decodeL (s.data.toList.drop i)).2 = 1 from this)]
    exact ⟨fun h => absurd h he, fun h => by cases h⟩
  ·rw [if_neg (by omega), List.drop_eq_nil_of_le (by omega)]
   exact ⟨fun _ => rfl, fun _ => rfl⟩
theorem valid_count {s : ByteArray} (hl : s.size <= lim) : validV s = decide ((countF (s.size + 1) s 0 0).2 = 0) := by
 rw [Bool.eq_iff_iff, decide_eq_true_iff]
 have := count_valid hl (s.size + 1) 0 0 (Nat.zero_le _) (by omega)
 rw [show ((0 : Nat) : Int) = 0 from rfl, List.drop_zero] at this
 exact this.symm
end Go.Proofs.YtaeeblcdggjokaaGreatDoor.Vk
/- Contracts of the reference: long, Is, Begins, Decode, Valid. -/
namespace Go.Proofs.YtaeeblcdggjokaaGreatDoor.Vk
open Go Go.Ab Go.RowKit
def heads_rlong : List Hd := []
def entry_rlong : Tree :=
 (.ite (.lt .v0 (.lit (.int .u8 128)))
 (.rt (.i 1))
 (.ite (.ge .v0 (.lit (.int .u8 192)))
 (.ite (.lt .v0 (.lit (.int .u8 224)))
 (.rt (.i 2))
 (.ite (.ge .v0 (.lit (.int .u8 224)))
 (.ite (.lt .v0 (.lit (.int .u8 240)))
 (.rt (.i 3))
 (.ite (.ge .v0 (.lit (.int .u8 240)))
 (.ite (.lt .v0 (.lit (.int .u8 248)))
 (.rt (.i 4))
 (.rt (.i 0)))
 (.rt (.i 0))))
 (.ite (.ge .v0 (.lit (.int .u8 240)))
 (.ite (.lt .v0 (.lit (.int .u8 248)))
 (.rt (.i 4))
 (.rt (.i 0)))
 (.rt (.i 0)))))
 (.ite (.ge .v0 (.lit (.int .u8 224)))
 (.ite (.lt .v0 (.lit (.int .u8 240)))
 (.rt (.i 3))
 (.ite (.ge .v0 (.lit (.int .u8 240)))
 (.ite (.lt .v0 (.lit (.int .u8 248)))
 (.rt (.i 4))
 (.rt (.i 0)))
 (.rt (.i 0))))
 (.ite (.ge .v0 (.lit (.int .u8 240)))
 (.ite (.lt .v0 (.lit (.int .u8 248)))
 (.rt (.i 4))
 (.rt (.i 0)))
 (.rt (.i 0))))))
def trees_rlong : List Tree := []
noncomputable def deps_rlong : List Sig := []
theorem ok_rlong : check q_rlong deps_rlong heads_rlong entry_rlong trees_rlong = true := by kernel_rfl
theorem rlong_ok (n : Nat) : @Ok (I n) q_rlong (okD n) := by
 letI := I n
 refine fn_ok (hphi n) ok_rlong (by intro q hq; simp [deps_rlong] at hq) (fun _ _ _ => False) (fun _ _ => 0) ?_ (fun j h t d ds hj => by simp [heads_rlong] at hj)
 intro ds hf hp
 obtain ⟨i, rfl⟩ : ∃ i, ds = [.v (.int .u8 i)] := by
  match ds, hf with
  | [a], ⟨h1, _⟩ =>
   obtain ⟨l, rfl⟩ := fits_int h1
   exact ⟨l, rfl⟩
 simp only [entry_rlong, q_rlong, Tree.holds, Out.den, E.den, E.denL, dn, List.getD_cons_zero, List.getD_cons_succ, List.length_map, phi_1000, phi_rlong]
 have key : ∀ x : Int, (x = longV i.toNat) -> iD x = iD (longV i.toNat) := fun x h => by rw [h]
 repeat' first | apply And.intro | intro _
 all_goals (apply key; unfold longV; repeat' split)
 all_goals omega
def heads_ris : List Hd := []
def entry_ris : Tree :=
 (.ite (.ge .v0 (.i 0))
 (.ite (.le .v0 (.i 1114111))
 (.ite (.lt .v0 (.i 55296)) .ye
 (.rt (.gt .v0 (.i 57343)))) .no) .no)
def trees_ris : List Tree := []
noncomputable def deps_ris : List Sig := []
theorem ok_ris : check q_ris deps_ris heads_ris entry_ris trees_ris = true := by kernel_rfl
theorem ris_ok (n : Nat) : @Ok (I n) q_ris (okD n) := by
 letI := I n
 refine fn_ok (hphi n) ok_ris (by intro q hq; simp [deps_ris] at hq) (fun _ _ _ => False) (fun _ _ => 0) ?_ (fun j h t d ds hj => by simp [heads_ris] at hj)
 intro ds hf hp
 obtain ⟨i, rfl⟩ := one_int hf
 simp only [entry_ris, q_ris, Tree.holds, Out.den, E.den, E.denL, dn, List.getD_cons_zero, List.getD_cons_succ, List.length_map, phi_1000, phi_ris]
 have key : ∀ x : Bool, (x = true ↔ isR i = true) -> bD x = bD (isR i) := fun x h => by rw [Bool.eq_iff_iff.2 h]
 have e : isR i = true ↔ 0 <= i /\ i <= 1114111 /\ (i < 55296 \/ 57343 < i) := by unfold isR; rw [decide_eq_true_iff]
 repeat' first | apply And.intro | intro _
 all_goals (apply key; rw [e]; simp only [ltI_t, Bool.false_eq_true, false_iff, true_iff, iff_true, iff_false]; omega)
def reps (k : Nat) (c : UInt8) : ByteArray := ⟨(List.replicate k c).toArray⟩
theorem reps_size (k : Nat) (c : UInt8) : (reps k c).size = k := by
 unfold reps
 show (List.replicate k c).toArray.size = _
 simp
theorem reps_succ (s : ByteArray) (k : Nat) (c : UInt8) : s ++ reps k c ++ mkS [c.toNat] = s ++ reps (k + 1) c := by
 refine ByteArray.ext (Array.toList_inj.1 ?_)
 rw [cat_list, cat_list, cat_list]
 unfold reps mkS
 simp [List.replicate_succ']
theorem reps_zero (s : ByteArray) (c : UInt8) : s ++ reps 0 c = s := by
 refine ByteArray.ext (Array.toList_inj.1 ?_)
 rw [cat_list]
 unfold reps
 simp
theorem padV_eq (s : ByteArray) (n : Nat) (c : UInt8) : padV s n c = s ++ reps (n - s.size) c := rfl
theorem longV_nat (c : Nat) : ∃ m : Nat, longV c = m /\ m <= 4 := by
 unfold longV
 repeat' split
 ·exact ⟨1, rfl, by omega⟩
 ·exact ⟨2, rfl, by omega⟩
 ·exact ⟨3, rfl, by omega⟩
 ·exact ⟨4, rfl, by omega⟩
 ·exact ⟨0, rfl, by omega⟩
theorem ok_two {n : Nat} {s : ByteArray} {i : Int} (h : 2 < n) (hl : s.size <= lim) : okD n [sD s, iD i] := okD_two.2 ⟨by simp only [D.sz]; omega, lim_sD.2 hl, trivial⟩
theorem ok_num {n : Nat} {k : IntKind} {i : Int} (h : 1 < n) : okD n [.v (.int k i)] := okD_one.2 ⟨by simp only [D.sz]; omega, trivial⟩
-- head 0 of loop 0: [t0 .sh (.cell (.sc .s)), t3 .sh (.cell (.sc (.i .i64))), t4 .sh (.cell (.sc .s)), t5 .sh (.cell (.sc .s))]
-- head 1 of loop 1: [t0 .sh (.cell (.sc .s)), t3 .sh (.cell (.sc (.i .i64))), t6 .sh (.cell (.sc (.i .i64))), t7 .sh (.cell (.sc (.i .i64))), t8 .sh (.cell (.sc (.i .i64)))]
def heads_rbegins : List Hd := [⟨0, [.sh (.cell (.sc .s)), .any, .any, .sh (.cell (.sc (.i .i64))), .sh (.cell (.sc .s)), .sh (.cell (.sc .s)), .any, .any, .any, .any, .any, .any, .any, .any, .any, .any, .any, .any, .any, .any, .any, .any, .any, .any, .any, .any, .any, .any, .any, .any, .any, .any, .any, .any, .any, .any, .any, .any, .any, .any, .any, .any, .any, .any, .any, .any, .any, .any, .any, .any, .any, .any, .any, .any, .any, .any, .any, .any, .any, .any, .any, .any, .any, .any, .any, .any, .any, .any, .any, .any, .any, .any, .any, .any, .any, .any, .any, .any, .any, .any, .any, .any, .any, .any, .any, .any, .any]⟩, ⟨1, [.sh (.cell (.sc .s)), .any, .any, .sh (.cell (.sc (.i .i64))), .any, .any, .sh (.cell (.sc (.i .i64))), .sh (.cell (.sc (.i .i64))), .sh (.cell (.sc (.i .i64))), .any, .any, .any, .any, .any, .any, .any, .any, .any, .any, .any, .any, .any, .any, .any, .any, .any, .any, .any, .any, .any, .any, .any, .any, .any, .any, .any, .any, .any, .any, .any, .any, .any, .any, .any, .any, .any, .any, .any, .any, .any, .any, .any, .any, .any, .any, .any, .any, .any, .any, .any, .any, .any, .any, .any, .any, .any, .any, .any, .any, .any, .any, .any, .any, .any, .any, .any, .any, .any, .any, .any, .any, .any, .any, .any, .any, .any, .any]⟩]
def entry_rbegins : Tree :=
 (.giv (.lt (.i 0) (.pr .slen [.v0]))
 (.giv (.app 1000 [(.pr .sat [.v0, (.i 0)])])
 (.ite (.ge (.pr .slen [.v0]) (.app 54 [(.pr .sat [.v0, (.i 0)])])) .no
 (.g 0 [.v0, (.app 54 [(.pr .sat [.v0, (.i 0)])]), .v0, .v0]))))
def head_rbegins_0 : Tree :=
 (.ite (.lt (.pr .slen [.v2]) .v1)
 (.giv (.le (.pr .slen [.v2]) (.i 1099511627776))
 (.giv (.le (.pr .slen [.v3]) (.i 1099511627776))
 (.g 0 [.v0, .v1, (.pr .scat [.v2, (.lit (.string (mkS [128])))]), (.pr .scat [.v3, (.lit (.string (mkS [191])))])])))
 (.giv (.app 1000 [.v2, .v1])
 (.giv (.app 2035 [.v2, .v1])
 (.giv (.app 1000 [.v3, .v1])
 (.giv (.app 2035 [.v3, .v1])
 (.g 1 [.v0, .v1, (.app 35 [.v2, .v1]), (.app 35 [.v3, .v1]), (.i 0)]))))))
def head_rbegins_1 : Tree :=
 (.ite (.lt .v4 (.i 2))
 (.ite (.eq .v4 (.i 0))
 (.giv (.app 1000 [.v2])
 (.ite (.app 55 [.v2])
 (.giv (.le (.i 0) (.pr .ite [(.lt (.pr .slen [(.app 34 [.v2])]) (.pr .slen [.v0])), (.pr .slen [(.app 34 [.v2])]), (.pr .slen [.v0])]))
 (.giv (.le (.pr .ite [(.lt (.pr .slen [(.app 34 [.v2])]) (.pr .slen [.v0])), (.pr .slen [(.app 34 [.v2])]), (.pr .slen [.v0])]) (.pr .slen [(.app 34 [.v2])]))
 (.ite (.pr (.scmp .eql) [(.pr .ssub [(.app 34 [.v2]), (.i 0), (.pr .ite [(.lt (.pr .slen [(.app 34 [.v2])]) (.pr .slen [.v0])), (.pr .slen [(.app 34 [.v2])]), (.pr .slen [.v0])])]), .v0])
 (.ite (.eq (.pr .slen [(.app 34 [.v2])]) .v1) .ye
 (.g 1 [.v0, .v1, .v2, .v3, (.pr (.iop .add .i64) [.v4, (.i 1)])]))
 (.g 1 [.v0, .v1, .v2, .v3, (.pr (.iop .add .i64) [.v4, (.i 1)])]))))
 (.g 1 [.v0, .v1, .v2, .v3, (.pr (.iop .add .i64) [.v4, (.i 1)])])))
 (.giv (.eq .v4 (.i 1))
 (.giv (.app 1000 [.v3])
 (.ite (.app 55 [.v3])
 (.giv (.le (.i 0) (.pr .ite [(.lt (.pr .slen [(.app 34 [.v3])]) (.pr .slen [.v0])), (.pr .slen [(.app 34 [.v3])]), (.pr .slen [.v0])]))
 (.giv (.le (.pr .ite [(.lt (.pr .slen [(.app 34 [.v3])]) (.pr .slen [.v0])), (.pr .slen [(.app 34 [.v3])]), (.pr .slen [.v0])]) (.pr .slen [(.app 34 [.v3])]))
 (.ite (.pr (.scmp .eql) [(.pr .ssub [(.app 34 [.v3]), (.i 0), (.pr .ite [(.lt (.pr .slen [(.app 34 [.v3])]) (.pr .slen [.v0])), (.pr .slen [(.app 34 [.v3])]), (.pr .slen [.v0])])]), .v0])
 (.ite (.eq (.pr .slen [(.app 34 [.v3])]) .v1) .ye
 (.g 1 [.v0, .v1, .v2, .v3, (.pr (.iop .add .i64) [.v4, (.i 1)])]))
 (.g 1 [.v0, .v1, .v2, .v3, (.pr (.iop .add .i64) [.v4, (.i 1)])]))))
 (.g 1 [.v0, .v1, .v2, .v3, (.pr (.iop .add .i64) [.v4, (.i 1)])])))))
 (.ite (.eq .v1 (.i 0))
 (.ite (.ge (.i 0) .v2)
 (.ite (.le (.i 0) .v3)
 (.giv (.le (.pr .slen [.v0]) (.pr .slen [(.lit (.string (mkS [0])))]))
 (.rt (.pr (.scmp .eql) [(.pr .ssub [(.lit (.string (mkS [0]))), (.i 0), (.pr .slen [.v0])]), .v0]))) .no) .no)
 (.ite (.eq .v1 (.i 1))
 (.ite (.ge (.i 0) .v2)
 (.ite (.le (.i 0) .v3)
 (.giv (.le (.pr .slen [.v0]) (.pr .slen [(.lit (.string (mkS [0])))]))
 (.rt (.pr (.scmp .eql) [(.pr .ssub [(.lit (.string (mkS [0]))), (.i 0), (.pr .slen [.v0])]), .v0]))) .no) .no)
 (.ite (.eq .v1 (.i 2))
 (.ite (.ge (.i 128) .v2)
 (.ite (.le (.i 128) .v3)
 (.giv (.le (.pr .slen [.v0]) (.pr .slen [(.lit (.string (mkS [194, 128])))]))
 (.rt (.pr (.scmp .eql) [(.pr .ssub [(.lit (.string (mkS [194, 128]))), (.i 0), (.pr .slen [.v0])]), .v0]))) .no) .no)
 (.ite (.eq .v1 (.i 3))
 (.ite (.ge (.i 2048) .v2)
 (.ite (.le (.i 2048) .v3)
 (.giv (.le (.pr .slen [.v0]) (.pr .slen [(.lit (.string (mkS [224, 160, 128])))]))
 (.rt (.pr (.scmp .eql) [(.pr .ssub [(.lit (.string (mkS [224, 160, 128]))), (.i 0), (.pr .slen [.v0])]), .v0]))) .no) .no)
 (.giv (.eq .v1 (.i 4))
 (.ite (.ge (.i 65536) .v2)
 (.ite (.le (.i 65536) .v3)
 (.giv (.le (.pr .slen [.v0]) (.pr .slen [(.lit (.string (mkS [240, 144, 128, 128])))]))
 (.rt (.pr (.scmp .eql) [(.pr .ssub [(.lit (.string (mkS [240, 144, 128, 128]))), (.i 0), (.pr .slen [.v0])]), .v0]))) .no) .no)))))))
def trees_rbegins : List Tree := [head_rbegins_0, head_rbegins_1]
noncomputable def deps_rbegins : List Sig := [q_rbytes, q_rnumber, q_rlong, q_ris]
theorem ok_rbegins : check q_rbegins deps_rbegins heads_rbegins entry_rbegins trees_rbegins = true := by kernel_rfl
theorem begin_done {s : ByteArray} {m : Nat} (h0 : 0 < s.size) (hl : longV (s.data.toList.getD 0 0).toNat = (m : Int)) (hlt : s.size < m) (h1 : chkV s m (numbV (padV s m 128) m) = false) (h2 : chkV s m (numbV (padV s m 191) m) = false) :
  beginsV s = (decide (numbV (padV s m 128) m <= leastV m) && (decide (leastV m <= numbV (padV s m 191) m) && decide ((encV (leastV m)).extract 0 s.size = s))) := by
 unfold beginsV
 simp only [hl, Int.toNat_natCast]
 rw [if_neg (by omega), h1, h2]
 simp
theorem chk_of {s : ByteArray} {m : Nat} {r : Int} (h1 : isR r = true) (h2 : (encV r).extract 0 (min s.size (encV r).size) = s) (h3 : (encV r).size = m) : chkV s m r = true := by
 unfold chkV
 rw [h1, decide_eq_true h2, decide_eq_true (by omega)]; rfl
theorem chk_no {s : ByteArray} {m : Nat} {r : Int} (h : ¬ (isR r = true /\ (encV r).extract 0 (min s.size (encV r).size) = s /\ (encV r).size = m)) : chkV s m r = false := by
 rw [Bool.eq_false_iff]
 intro k
 unfold chkV at k
 rw [Bool.and_eq_true, Bool.and_eq_true, decide_eq_true_iff, decide_eq_true_iff] at k
 exact h ⟨k.1, k.2.1, by omega⟩
theorem begin_one {s : ByteArray} {m : Nat} (hl : longV (s.data.toList.getD 0 0).toNat = (m : Int)) (hlt : s.size < m) (h : chkV s m (numbV (padV s m 128) m) = true \/ chkV s m (numbV (padV s m 191) m) = true) : beginsV s = true := by
 unfold beginsV
 simp only [hl, Int.toNat_natCast]
 rw [if_neg (by omega)]
 rcases h with h | h
 ·rw [if_pos h]
 ·split
  ·rfl
  ·rfl
theorem min_is (a b : Nat) : (bif ltI (a : Int) (b : Int) then iD a else iD b) = iD ((min b a : Nat) : Int) := by
 by_cases h : a < b
 ·rw [ltI_t.2 (by omega)]; show iD _ = _; rw [show min b a = a by omega]
 ·rw [ltI_f.2 (by omega)]; show iD _ = _; rw [show min b a = b by omega]
theorem rbegins_at (n : Nat) : @Ok (I n) q_rbegins (fun ds => 5 < n /\ D.LimL ds /\ ∃ s, ds = [sD s] /\ 0 < s.size) := by
 letI := I n
 refine fn_okS (hphi n) ok_rbegins (by
   intro q hq
   simp only [deps_rbegins, List.mem_cons, List.not_mem_nil, or_false] at hq
   rcases hq with rfl | rfl | rfl | rfl
   ·exact okS_of (rbytes_ok n)
   ·exact rnumber_ok n
   ·exact okS_of (rlong_ok n)
   ·exact okS_of (ris_ok n))
  (fun j d ds => 5 < n /\ ∃ (s : ByteArray) (m : Nat), 0 < s.size /\ s.size < m /\ m <= 4 /\ longV (s.data.toList.getD 0 0).toNat = m /\ d = bD (beginsV s) /\
   ((j = 0 /\ ∃ k, s.size + k <= m /\ ds = [sD s, iD m, sD (s ++ reps k 128), sD (s ++ reps k 191)]) \/
   (j = 1 /\ ∃ i : Nat, i <= 2 /\ (1 <= i -> chkV s m (numbV (padV s m 128) m) = false) /\ (2 <= i -> chkV s m (numbV (padV s m 191) m) = false) /\
    ds = [sD s, iD m, iD (numbV (padV s m 128) m), iD (numbV (padV s m 191) m), iD i])))
  (fun j ds => if j = 0 then 20 - (ds.getD 2 .nil).str.size else 2 - (ds.getD 4 .nil).int.toNat) ?_ ?_
 ·rintro ds hf ⟨hn, hp, s, rfl, h0⟩
  have hl : s.size <= lim := lim_sD.1 hp.1
  obtain ⟨m, hm, hm4⟩ := longV_nat (s.data.toList.getD 0 0).toNat
  simp only [entry_rbegins, q_rbegins, Tree.holds, Out.den, E.den, E.denL, dn, List.getD_cons_zero, List.getD_cons_succ, List.length_map, phi_1000, phi_rlong, phi_rbegins, Int.toNat_zero, Int.toNat_natCast, hm]
  refine ⟨by omega, ok_num (by omega), fun h1 => ?_, fun h1 => ⟨hn, s, m, h0, by omega, hm4, hm, rfl, .inl ⟨0, by omega, ?_⟩⟩⟩
  ·have : beginsV s = false := by unfold beginsV; simp only [hm]; rw [if_pos (by omega)]
   rw [this]
  ·rw [reps_zero, reps_zero]
 ·rintro j h t d ds hj ht hf ⟨hn, s, m, h0, hlt, hm4, hm, rfl, ⟨rfl, k, hk, rfl⟩ | ⟨rfl, i, hi, hc1, hc2, rfl⟩⟩
  ·obtain rfl : t = head_rbegins_0 := (Option.some.inj ht).symm
   have e128 := reps_succ s k 128
   have e191 := reps_succ s k 191
   have el : (4 : Nat) <= lim := by decide
   have hsz : ∀ c, (s ++ reps k c).size = s.size + k := fun c => by rw [cat_size, reps_size]
   have hpre : ∀ c, @Interp.phi (I n) 2035 [sD (s ++ reps k c), iD m] = .v (.bool true) ↔ m <= s.size + k := fun c => by
    rw [pre_rnumber, hsz]; omega
   simp only [head_rbegins_0, Tree.holds, Out.den, E.den, E.denL, dn, List.getD_cons_zero, List.getD_cons_succ, List.length_map, phi_1000, phi_rnumber]
   have e128' : s ++ reps k 128 ++ mkS [128] = s ++ reps (k + 1) 128 := e128
   have e191' : s ++ reps k 191 ++ mkS [191] = s ++ reps (k + 1) 191 := e191
   refine ⟨fun h1 => ⟨?_, ?_, ⟨hn, s, m, h0, hlt, hm4, hm, rfl, .inl ⟨k + 1, ?_, ?_⟩⟩, ?_⟩, fun h1 => ⟨ok_two (by omega) ?_, ?_, ok_two (by omega) ?_, ?_, ⟨hn, s, m, h0, hlt, hm4, hm, rfl, .inr ⟨0, by omega, fun h => by omega, fun h => by omega, ?_⟩⟩, ?_⟩⟩
   ·rw [hsz]; omega
   ·rw [hsz]; omega
   ·rw [hsz] at h1; omega
   ·rw [e128', e191']
   ·rw [hsz] at h1 ⊢
    simp only [if_true]
    rw [e128', cat_size, reps_size]; omega
   ·rw [hsz]; omega
   ·rw [hpre]; rw [hsz] at h1; omega
   ·rw [hsz]; omega
   ·rw [hpre]; rw [hsz] at h1; omega
   ·rw [hsz] at h1
    have : k = m - s.size := by omega
    rw [padV_eq, padV_eq, this]; rfl
   ·simp only [if_true]; rw [if_neg (by decide)]; rw [hsz] at h1 ⊢; simp only [Int.toNat_zero]; omega
  ·obtain rfl : t = head_rbegins_1 := (Option.some.inj ht).symm
   have hmin : ∀ r : Int, ((min s.size (encV r).size : Nat) : Int).toNat = min s.size (encV r).size := fun r => Int.toNat_natCast _
   have hw : ∀ i : Nat, i < 2 -> IntKind.i64.wrap ((i : Int) + 1) = ((i + 1 : Nat) : Int) := fun i h => by rw [wrap_id (by omega) (by omega)]; rfl
   by_cases h2 : i < 2
   ·simp only [head_rbegins_1, Tree.holds, Out.den, E.den, E.denL, dn, List.getD_cons_zero, List.getD_cons_succ, List.length_map, phi_1000, phi_rbytes, phi_ris, min_is, hmin, hw i h2, Int.toNat_zero]
    refine ⟨fun _ => ⟨fun hi0 => ⟨ok_num (by omega), fun hr => ⟨by omega, by omega, fun he => ⟨fun hs => ?_, fun hs => ⟨⟨hn, s, m, h0, hlt, hm4, hm, rfl, .inr ⟨i + 1, by omega, fun _ => chk_no fun h => hs ?_, fun h => ?_, rfl⟩⟩, ?_⟩⟩, fun he => ⟨⟨hn, s, m, h0, hlt, hm4, hm, rfl, .inr ⟨i + 1, by omega, fun _ => chk_no fun h => he h.2.1, fun h => ?_, rfl⟩⟩, ?_⟩⟩, fun hr => ⟨⟨hn, s, m, h0, hlt, hm4, hm, rfl, .inr ⟨i + 1, by omega, fun _ => chk_no fun h => ?_, fun h => ?_, rfl⟩⟩, ?_⟩⟩,
     fun hi0 => ⟨by omega, ok_num (by omega), fun hr => ⟨by omega, by omega, fun he => ⟨fun hs => ?_, fun hs => ⟨⟨hn, s, m, h0, hlt, hm4, hm, rfl, .inr ⟨i + 1, by omega, fun _ => hc1 (by omega), fun h => chk_no fun h => hs ?_, rfl⟩⟩, ?_⟩⟩, fun he => ⟨⟨hn, s, m, h0, hlt, hm4, hm, rfl, .inr ⟨i + 1, by omega, fun _ => hc1 (by omega), fun h => chk_no fun h => he h.2.1, rfl⟩⟩, ?_⟩⟩, fun hr => ⟨⟨hn, s, m, h0, hlt, hm4, hm, rfl, .inr ⟨i + 1, by omega, fun _ => hc1 (by omega), fun h => chk_no fun h => ?_, rfl⟩⟩, ?_⟩⟩⟩, fun h => by omega⟩
    all_goals first
     | omega
     | (rw [begin_one hm hlt (.inl (chk_of hr he (by omega)))])
     | (rw [begin_one hm hlt (.inr (chk_of hr he (by omega)))])
     | (rw [h.1] at hr; cases hr)
     | (rw [if_neg (by decide), if_neg (by decide)]; simp only [Int.toNat_natCast]; omega)
   ·have hi2 : i = 2 := by omega
    subst hi2
    have hb := begin_done h0 hm hlt (hc1 (by omega)) (hc2 (by omega))
    simp only [head_rbegins_1, Tree.holds, Out.den, E.den, E.denL, dn, List.getD_cons_zero, List.getD_cons_succ, List.length_map, phi_1000, Int.toNat_zero]
    have hm5 : m = 0 \/ m = 1 \/ m = 2 \/ m = 3 \/ m = 4 := by omega
    generalize numbV (padV s m 128) m = a at hb
    generalize numbV (padV s m 191) m = b at hb
    have l2 : (encV (leastV 2)) = mkS [194, 128] := rfl
    have l3 : (encV (leastV 3)) = mkS [224, 160, 128] := rfl
    have l4 : (encV (leastV 4)) = mkS [240, 144, 128, 128] := rfl
    have v2 : leastV 2 = 128 := rfl
    have v3 : leastV 3 = 2048 := rfl
    have v4 : leastV 4 = 65536 := rfl
    have s2 : (mkS [194, 128]).size = 2 := rfl
    have s3 : (mkS [224, 160, 128]).size = 3 := rfl
    have s4 : (mkS [240, 144, 128, 128]).size = 4 := rfl
    rw [hb]
    refine ⟨fun h => by omega, fun _ => ?_⟩
    rcases hm5 with rfl | rfl | rfl | rfl | rfl
    ·omega
    ·omega
    ·rw [l2, v2]
     simp only [s2]
     refine ⟨fun h => by omega, fun _ => ⟨fun h => by omega, fun _ => ⟨fun _ => ⟨fun h1 => ⟨fun h2 => ⟨by omega, ?_⟩, fun h2 => ?_⟩, fun h1 => ?_⟩, fun h => absurd rfl h⟩⟩⟩
     ·rw [decide_eq_true h1, decide_eq_true h2]; rfl
     ·rw [decide_eq_false h2]; simp
     ·rw [decide_eq_false h1]; simp
    ·rw [l3, v3]
     simp only [s3]
     refine ⟨fun h => by omega, fun _ => ⟨fun h => by omega, fun _ => ⟨fun h => by omega, fun _ => ⟨fun _ => ⟨fun h1 => ⟨fun h2 => ⟨by omega, ?_⟩, fun h2 => ?_⟩, fun h1 => ?_⟩, fun h => absurd rfl h⟩⟩⟩⟩
     ·rw [decide_eq_true h1, decide_eq_true h2]; rfl
     ·rw [decide_eq_false h2]; simp
     ·rw [decide_eq_false h1]; simp
    ·rw [l4, v4]
     simp only [s4]
     refine ⟨fun h => by omega, fun _ => ⟨fun h => by omega, fun _ => ⟨fun h => by omega, fun _ => ⟨fun h => by omega, fun _ => ⟨rfl, fun h1 => ⟨fun h2 => ⟨by omega, ?_⟩, fun h2 => ?_⟩, fun h1 => ?_⟩⟩⟩⟩⟩
     ·rw [decide_eq_true h1, decide_eq_true h2]; rfl
     ·rw [decide_eq_false h2]; simp
     ·rw [decide_eq_false h1]; simp
theorem rbegins_ok (n : Nat) : @Ok (I n) q_rbegins (@okS (I n) n q_rbegins.g) := by
 have h : @Ok (I n) q_rbegins (fun ds => 5 < n + 10 /\ D.LimL ds /\ ∃ s, ds = [sD s] /\ 0 < s.size) := ok_irrel (by decide) (rbegins_at (n + 10))
 letI := I n
 intro W J vs ds hL hI ha hp
 obtain ⟨s, rfl⟩ := one_str ha.fit
 exact h W J vs _ hL hI ha ⟨by omega, hp.1.2, s, rfl, (pre_rbegins n s).1 (hp.2 rfl)⟩
def heads_rdecode : List Hd := []
def entry_rdecode : Tree :=
 (.ite (.lt .v1 (.i 0))
 (.rt (.pr .row [(.i 0), (.i 0), (.i 1)]))
 (.ite (.ge .v1 (.pr .slen [.v0]))
 (.rt (.pr .row [(.i 0), (.i 0), (.i 1)]))
 (.giv (.le (.i 0) .v1)
 (.giv (.le .v1 (.pr .slen [.v0]))
 (.giv (.lt (.i 0) (.pr .slen [(.pr .ssub [.v0, .v1, (.pr .slen [.v0])])]))
 (.giv (.app 1000 [(.pr .sat [(.pr .ssub [.v0, .v1, (.pr .slen [.v0])]), (.i 0)])])
 (.ite (.gt (.app 54 [(.pr .sat [(.pr .ssub [.v0, .v1, (.pr .slen [.v0])]), (.i 0)])]) (.i 0))
 (.ite (.ge (.pr .slen [(.pr .ssub [.v0, .v1, (.pr .slen [.v0])])]) (.app 54 [(.pr .sat [(.pr .ssub [.v0, .v1, (.pr .slen [.v0])]), (.i 0)])]))
 (.giv (.app 1000 [(.pr .ssub [.v0, .v1, (.pr .slen [.v0])]), (.app 54 [(.pr .sat [(.pr .ssub [.v0, .v1, (.pr .slen [.v0])]), (.i 0)])])])
 (.giv (.app 2035 [(.pr .ssub [.v0, .v1, (.pr .slen [.v0])]), (.app 54 [(.pr .sat [(.pr .ssub [.v0, .v1, (.pr .slen [.v0])]), (.i 0)])])])
 (.giv (.app 1000 [(.app 35 [(.pr .ssub [.v0, .v1, (.pr .slen [.v0])]), (.app 54 [(.pr .sat [(.pr .ssub [.v0, .v1, (.pr .slen [.v0])]), (.i 0)])])])])
 (.ite (.app 55 [(.app 35 [(.pr .ssub [.v0, .v1, (.pr .slen [.v0])]), (.app 54 [(.pr .sat [(.pr .ssub [.v0, .v1, (.pr .slen [.v0])]), (.i 0)])])])])
 (.giv (.le (.i 0) (.app 54 [(.pr .sat [(.pr .ssub [.v0, .v1, (.pr .slen [.v0])]), (.i 0)])]))
 (.giv (.le (.app 54 [(.pr .sat [(.pr .ssub [.v0, .v1, (.pr .slen [.v0])]), (.i 0)])]) (.pr .slen [(.pr .ssub [.v0, .v1, (.pr .slen [.v0])])]))
 (.ite (.pr (.scmp .eql) [(.app 34 [(.app 35 [(.pr .ssub [.v0, .v1, (.pr .slen [.v0])]), (.app 54 [(.pr .sat [(.pr .ssub [.v0, .v1, (.pr .slen [.v0])]), (.i 0)])])])]), (.pr .ssub [(.pr .ssub [.v0, .v1, (.pr .slen [.v0])]), (.i 0), (.app 54 [(.pr .sat [(.pr .ssub [.v0, .v1, (.pr .slen [.v0])]), (.i 0)])])])])
 (.rt (.pr .row [(.app 35 [(.pr .ssub [.v0, .v1, (.pr .slen [.v0])]), (.app 54 [(.pr .sat [(.pr .ssub [.v0, .v1, (.pr .slen [.v0])]), (.i 0)])])]), (.app 54 [(.pr .sat [(.pr .ssub [.v0, .v1, (.pr .slen [.v0])]), (.i 0)])]), (.i 0)]))
 (.ite (.gt (.app 54 [(.pr .sat [(.pr .ssub [.v0, .v1, (.pr .slen [.v0])]), (.i 0)])]) (.pr .slen [(.pr .ssub [.v0, .v1, (.pr .slen [.v0])])]))
 (.rt (.pr .row [(.i 0), (.i 0), (.i 30)]))
 (.rt (.pr .row [(.i 0), (.i 0), (.i 30)]))))))
 (.ite (.gt (.app 54 [(.pr .sat [(.pr .ssub [.v0, .v1, (.pr .slen [.v0])]), (.i 0)])]) (.pr .slen [(.pr .ssub [.v0, .v1, (.pr .slen [.v0])])]))
 (.rt (.pr .row [(.i 0), (.i 0), (.i 30)]))
 (.rt (.pr .row [(.i 0), (.i 0), (.i 30)])))))))
 (.ite (.gt (.app 54 [(.pr .sat [(.pr .ssub [.v0, .v1, (.pr .slen [.v0])]), (.i 0)])]) (.pr .slen [(.pr .ssub [.v0, .v1, (.pr .slen [.v0])])]))
 (.giv (.app 1000 [(.pr .ssub [.v0, .v1, (.pr .slen [.v0])])])
 (.giv (.app 2033 [(.pr .ssub [.v0, .v1, (.pr .slen [.v0])])])
 (.ite (.app 33 [(.pr .ssub [.v0, .v1, (.pr .slen [.v0])])])
 (.rt (.pr .row [(.i 0), (.i 0), (.i 31)]))
 (.rt (.pr .row [(.i 0), (.i 0), (.i 30)])))))
 (.rt (.pr .row [(.i 0), (.i 0), (.i 30)]))))
 (.ite (.gt (.app 54 [(.pr .sat [(.pr .ssub [.v0, .v1, (.pr .slen [.v0])]), (.i 0)])]) (.pr .slen [(.pr .ssub [.v0, .v1, (.pr .slen [.v0])])]))
 (.giv (.app 1000 [(.pr .ssub [.v0, .v1, (.pr .slen [.v0])])])
 (.giv (.app 2033 [(.pr .ssub [.v0, .v1, (.pr .slen [.v0])])])
 (.ite (.app 33 [(.pr .ssub [.v0, .v1, (.pr .slen [.v0])])])
 (.rt (.pr .row [(.i 0), (.i 0), (.i 31)]))
 (.rt (.pr .row [(.i 0), (.i 0), (.i 30)])))))
 (.rt (.pr .row [(.i 0), (.i 0), (.i 30)]))))))))))
def trees_rdecode : List Tree := []
noncomputable def deps_rdecode : List Sig := [q_rbytes, q_rnumber, q_rlong, q_ris, q_rbegins]
theorem ok_rdecode : check q_rdecode deps_rdecode heads_rdecode entry_rdecode trees_rdecode = true := by kernel_rfl
theorem rdecode_at (n : Nat) : @Ok (I n) q_rdecode (fun ds => 5 < n /\ D.LimL ds) := by
 letI := I n
 refine fn_okS (hphi n) ok_rdecode (by
   intro q hq
   simp only [deps_rdecode, List.mem_cons, List.not_mem_nil, or_false] at hq
   rcases hq with rfl | rfl | rfl | rfl | rfl
   ·exact okS_of (rbytes_ok n)
   ·exact rnumber_ok n
   ·exact okS_of (rlong_ok n)
   ·exact okS_of (ris_ok n)
   ·exact rbegins_ok n) (fun _ _ _ => False) (fun _ _ => 0) ?_ (fun j h t d ds hj => by simp [heads_rdecode] at hj)
 rintro ds hf ⟨hn, hp⟩
 obtain ⟨s, i, rfl⟩ := str_int hf
 have hl : s.size <= lim := lim_sD.1 hp.1
 simp only [entry_rdecode, q_rdecode, Tree.holds, Out.den, E.den, E.denL, dn, List.getD_cons_zero, List.getD_cons_succ, List.length_map, phi_1000, phi_rlong, phi_rdecode, phi_rbytes, phi_rnumber, phi_ris, phi_rbegins, Int.toNat_zero, Int.toNat_natCast]
 by_cases c1 : i < 0
 ·refine ⟨fun _ => ?_, fun h => absurd c1 h⟩
  unfold decV; rw [if_pos c1]
 by_cases c2 : (s.size : Int) <= i
 ·refine ⟨fun h => absurd h c1, fun _ => ⟨fun _ => ?_, fun h => absurd c2 h⟩⟩
  unfold decV; rw [if_neg c1, if_pos c2]
 obtain ⟨k, rfl⟩ : ∃ k : Nat, i = k := ⟨i.toNat, by omega⟩
 rw [Int.toNat_natCast]
 have hd : decV s k = if 0 < longV ((s.extract k s.size).data.toList.getD 0 0).toNat /\ longV ((s.extract k s.size).data.toList.getD 0 0).toNat <= (s.extract k s.size).size /\ headOk (s.extract k s.size) (longV ((s.extract k s.size).data.toList.getD 0 0).toNat) = true then (numbV (s.extract k s.size) (longV ((s.extract k s.size).data.toList.getD 0 0).toNat), longV ((s.extract k s.size).data.toList.getD 0 0).toNat, 0) else if ((s.extract k s.size).size : Int) < longV ((s.extract k s.size).data.toList.getD 0 0).toNat /\ beginsV (s.extract k s.size) = true then (0, 0, 31) else (0, 0, 30) := by
  unfold decV
  rw [if_neg c1, if_neg c2]; rfl
 have hts := ext_size s k (by omega)
 rw [hd]
 clear hd
 generalize s.extract k s.size = t at hts
 obtain ⟨m, hm, hm4⟩ := longV_nat (t.data.toList.getD 0 0).toNat
 simp only [hm, Int.toNat_natCast]
 have htl : t.size <= lim := by omega
 have hpre := pre_rnumber n t m
 have hpreb := pre_rbegins n t
 have q1 : okD n [sD t, iD m] := ok_two (by omega) htl
 have q2 : ∀ (kd : IntKind) (x : Int), okD n [.v (.int kd x)] := fun kd x => ok_num (by omega)
 have q3 : okD n [sD t] := okD_one.2 ⟨by simp only [D.sz]; omega, lim_sD.2 htl⟩
 have hh : headOk t m = true ↔ isR (numbV t m) = true /\ encV (numbV t m) = t.extract 0 m := by
  unfold headOk
  rw [Bool.and_eq_true, decide_eq_true_iff, Int.toNat_natCast]
 have e1 : (0 < (m : Int) /\ (m : Int) <= t.size /\ headOk t m = true) ↔ 0 < m /\ m <= t.size /\ isR (numbV t m) = true /\ encV (numbV t m) = t.extract 0 m := by
  rw [hh]
  exact ⟨fun h => ⟨by omega, by omega, h.2.2⟩, fun h => ⟨by omega, by omega, h.2.2⟩⟩
 have e2 : ((t.size : Int) < m /\ beginsV t = true) ↔ t.size < m /\ beginsV t = true := ⟨fun h => ⟨by omega, h.2⟩, fun h => ⟨by omega, h.2⟩⟩
 have R1 : (0 < m /\ m <= t.size /\ isR (numbV t m) = true /\ encV (numbV t m) = t.extract 0 m) -> (if 0 < (m : Int) /\ (m : Int) <= t.size /\ headOk t m = true then (numbV t m, (m : Int), (0 : Int)) else if (t.size : Int) < m /\ beginsV t = true then (0, 0, 31) else (0, 0, 30)) = (numbV t m, (m : Int), 0) := fun h => if_pos (e1.2 h)
 have R2 : ¬ (0 < m /\ m <= t.size /\ isR (numbV t m) = true /\ encV (numbV t m) = t.extract 0 m) -> t.size < m -> beginsV t = true -> (if 0 < (m : Int) /\ (m : Int) <= t.size /\ headOk t m = true then (numbV t m, (m : Int), (0 : Int)) else if (t.size : Int) < m /\ beginsV t = true then (0, 0, 31) else (0, 0, 30)) = (0, 0, 31) := fun h h1 h2 => by rw [if_neg fun k => h (e1.1 k), if_pos (e2.2 ⟨h1, h2⟩)]
 have R3 : ¬ (0 < m /\ m <= t.size /\ isR (numbV t m) = true /\ encV (numbV t m) = t.extract 0 m) -> ¬ (t.size < m /\ beginsV t = true) -> (if 0 < (m : Int) /\ (m : Int) <= t.size /\ headOk t m = true then (numbV t m, (m : Int), (0 : Int)) else if (t.size : Int) < m /\ beginsV t = true then (0, 0, 31) else (0, 0, 30)) = (0, 0, 30) := fun h h1 => by rw [if_neg fun k => h (e1.1 k), if_neg fun k => h1 (e2.1 k)]
 generalize (if 0 < (m : Int) /\ (m : Int) <= t.size /\ headOk t m = true then (numbV t m, (m : Int), (0 : Int)) else if (t.size : Int) < m /\ beginsV t = true then (0, 0, 31) else (0, 0, 30)) = res at R1 R2 R3
 refine ⟨fun h => absurd h c1, fun _ => ⟨fun h => absurd h c2, fun _ => ⟨by omega, by omega, by omega, q2 _ _,
  fun hm => ⟨fun hs => ⟨q1, hpre.2 (by omega), q2 _ _, fun hr => ⟨by omega, by omega, fun he => by rw [R1 ⟨by omega, by omega, hr, he⟩],
    fun he => ⟨fun h => by omega, fun _ => by rw [R3 (fun h => he h.2.2.2) (fun h => by omega)]⟩⟩, fun hr => ⟨fun h => by omega, fun _ => by rw [R3 (fun h => by rw [h.2.2.1] at hr; cases hr) (fun h => by omega)]⟩⟩,
   fun hs => ⟨fun h => ⟨q3, hpreb.2 (by omega), fun hb => by rw [R2 (fun h => by omega) (by omega) hb], fun hb => by rw [R3 (fun h => by omega) (fun h => by rw [h.2] at hb; cases hb)]⟩, fun h => by omega⟩⟩,
  fun hm => ⟨fun h => by omega, fun h => by rw [R3 (fun h => by omega) (fun h => by omega)]⟩⟩⟩⟩
theorem rdecode_ok (n : Nat) : @Ok (I n) q_rdecode (okD n) := by
 have h : @Ok (I n) q_rdecode (fun ds => 5 < n + 10 /\ D.LimL ds) := ok_irrel (by decide) (rdecode_at (n + 10))
 letI := I n
 exact h.less fun ds k => ⟨by omega, k.2⟩
def heads_rvalid : List Hd := []
def entry_rvalid : Tree :=
 (.giv (.app 1000 [.v0])
 (.rt (.eq (.c 1 (.app 31 [.v0])) (.i 0))))
def trees_rvalid : List Tree := []
noncomputable def deps_rvalid : List Sig := [q_rcount]
theorem ok_rvalid : check q_rvalid deps_rvalid heads_rvalid entry_rvalid trees_rvalid = true := by kernel_rfl
theorem rvalid_ok (n : Nat) : @Ok (I n) q_rvalid (okD n) := by
 letI := I n
 refine fn_ok (hphi n) ok_rvalid (by intro q hq; simp only [deps_rvalid, List.mem_singleton] at hq; subst hq; exact rcount_ok rdecode_ok n) (fun _ _ _ => False) (fun _ _ => 0) ?_ (fun j h t d ds hj => by simp [heads_rvalid] at hj)
 intro ds hf hp
 obtain ⟨s, rfl⟩ := one_str hf
 have hl := lim_sD.1 (okD_one.1 hp).2
 simp only [entry_rvalid, q_rvalid, Tree.holds, Out.den, E.den, E.denL, dn, List.getD_cons_zero, List.getD_cons_succ, List.length_map, phi_1000, phi_rvalid, phi_rcount, row_at1, hp]
 rw [valid_count hl]
 rfl
end Go.Proofs.YtaeeblcdggjokaaGreatDoor.Vk
/- Contracts of chapter 11's reference: place, names, Formed, depth, size, short, Check. -/
namespace Go.Proofs.YtaeeblcdggjokaaGreatDoor.Vk
open Go Go.Ab Go.RowKit
-- head 0 of loop 0: [t0 .sh (.cell (.sl 9)), t1 .sh (.cell (.sc .s)), t5 .sh (.cell (.sc (.i .i64)))]
def heads_urplace : List Hd := [⟨0, [.sh (.cell (.sl 9)), .sh (.cell (.sc .s)), .any, .any, .any, .sh (.cell (.sc (.i .i64))), .any, .any, .any, .any, .any, .any, .any, .any, .any, .any, .any, .any, .any]⟩]
def entry_urplace : Tree :=
 (.g 0 [.v0, .v1, (.i 0)])
def head_urplace_0 : Tree :=
 (.ite (.lt .v2 (.n .v0))
 (.giv (.le (.i 0) .v2)
 (.ite (.pr (.scmp .eql) [(.c 0 (.a .v0 .v2)), .v1])
 (.rt .v2)
 (.g 0 [.v0, .v1, (.pr (.iop .add .i64) [.v2, (.i 1)])])))
 (.rt (.i (-1))))
def trees_urplace : List Tree := [head_urplace_0]
noncomputable def deps_urplace : List Sig := []
theorem ok_urplace : check q_urplace deps_urplace heads_urplace entry_urplace trees_urplace = true := by kernel_rfl
theorem urplace_ok (n : Nat) : @Ok (I n) q_urplace (okD n) := by
 letI := I n
 refine fn_ok (hphi n) ok_urplace (by intro q hq; simp only [deps_urplace, List.not_mem_nil] at hq)
  (fun _ d ds => ∃ (l : List ByteArray) (s : ByteArray) (i : Nat), ds = [strsD l, sD s, iD i] /\ i <= l.length /\ l.length <= lim /\ d = iD (idxI s (l.drop i) i))
  (fun _ ds => (ds.getD 0 .nil).rows.length - (ds.getD 2 .nil).int.toNat) ?_ ?_
 ·intro ds hf hp
  obtain ⟨l, s, rfl⟩ := strs_str hf
  have h2 : l.length <= lim := (lim_strs.1 (okD_two.1 hp).2.1).1
  refine ⟨l, s, 0, by simp only [Tree.holds, Out.den, E.den, E.denL, dn, List.getD_cons_zero, List.getD_cons_succ, List.length_map, phi_1000, Int.ofNat_zero], Nat.zero_le _, h2, ?_⟩
  simp only [q_urplace, phi_urplace, List.drop_zero]
 ·rintro j h t d ds hj ht hf ⟨l, s, i, rfl, hi, hl, rfl⟩
  obtain rfl : t = head_urplace_0 := by
   match j, ht with
   | 0, ht => exact (Option.some.inj ht).symm
  by_cases hlt : i < l.length
  ·obtain ⟨x, hx, hxm, hd⟩ := drop_get hlt
   simp only [head_urplace_0, Tree.holds, Out.den, E.den, E.denL, dn, List.getD_cons_zero, List.getD_cons_succ, List.length_map, phi_1000, rowAt_map hx, wrap_succ hlt hl]
   refine ⟨fun _ => ⟨by omega, fun hb => ?_, fun hb => ⟨⟨l, s, i + 1, rfl, hlt, hl, ?_⟩, by omega⟩⟩, fun h => by omega⟩
   ·rw [hd, idxI, if_pos hb.symm]
   ·rw [hd, idxI, if_neg fun e => hb e.symm]
  ·simp only [head_urplace_0, Tree.holds, Out.den, E.den, E.denL, dn, List.getD_cons_zero, List.getD_cons_succ, List.length_map, phi_1000]
   refine ⟨fun h => by omega, fun _ => ?_⟩
   rw [List.drop_eq_nil_of_le (by omega), idxI]
-- head 0 of loop 0: [t0 .sh (.cell (.sl 9)), t3 .sh (.cell (.sc (.i .i64)))]
def heads_urnames : List Hd := [⟨0, [.sh (.cell (.sl 9)), .any, .any, .sh (.cell (.sc (.i .i64))), .any, .any, .any, .any, .any, .any, .any, .any, .any, .any, .any, .any, .any, .any, .any, .any, .any, .any, .any, .any, .any, .any, .any]⟩]
def entry_urnames : Tree :=
 (.g 0 [.v0, (.i 0)])
def head_urnames_0 : Tree :=
 (.ite (.lt .v1 (.n .v0))
 (.giv (.le (.i 0) .v1)
 (.giv (.app 1000 [(.c 0 (.a .v0 .v1))])
 (.ite (.app 30 [(.c 0 (.a .v0 .v1))])
 (.giv (.le .v1 (.n .v0))
 (.giv (.app 1000 [(.pr .sub [.v0, (.i 0), .v1]), (.c 0 (.a .v0 .v1))])
 (.ite (.ge (.app 120 [(.pr .sub [.v0, (.i 0), .v1]), (.c 0 (.a .v0 .v1))]) (.i 0)) .no
 (.g 0 [.v0, (.pr (.iop .add .i64) [.v1, (.i 1)])])))) .no))) .ye)
def trees_urnames : List Tree := [head_urnames_0]
noncomputable def deps_urnames : List Sig := [q_urplace, q_rvalid]
theorem ok_urnames : check q_urnames deps_urnames heads_urnames entry_urnames trees_urnames = true := by kernel_rfl
theorem strs_take (l : List ByteArray) (i : Nat) : Prim.sub.den [strsD l, D.v (Value.int IntKind.i64 0), iD (i : Int)] = strsD (l.take i) := by
 show D.lst (((strsD l).rows.take i).drop 0) = _
 unfold strsD
 rw [List.drop_zero, List.map_take]
 rfl
theorem take_nodup {l : List ByteArray} {i : Nat} {x : ByteArray} (hx : l[i]? = some x) (h : (l.take i).Nodup) (hn : ¬ x ∈ l.take i) : (l.take (i + 1)).Nodup := by
 rw [List.take_add_one, hx, List.nodup_append]
 refine ⟨h, by simp, fun a ha b hb e => ?_⟩
 rw [Option.toList_some, List.mem_singleton] at hb
 subst hb; subst e
 exact hn ha
theorem take_dup {l : List ByteArray} {i : Nat} {x : ByteArray} (hx : l[i]? = some x) (hm : x ∈ l.take i) : ¬ l.Nodup := by
 intro h
 have h1 : (l.take (i + 1)).Nodup := List.Nodup.sublist (List.take_sublist _ _) h
 rw [List.take_add_one, hx, List.nodup_append] at h1
 exact h1.2.2 x hm x (by simp) rfl
theorem urnames_ok (n : Nat) : @Ok (I n) q_urnames (okD n) := by
 letI := I n
 refine fn_ok (hphi n) ok_urnames (by
  intro q hq
  simp only [deps_urnames, List.mem_cons, List.not_mem_nil, or_false] at hq
  rcases hq with rfl | rfl
  ·exact urplace_ok n
  ·exact rvalid_ok n)
  (fun _ d ds => ∃ (l : List ByteArray) (i : Nat), ds = [strsD l, iD i] /\ i <= l.length /\ okD n [strsD l] /\ (l.take i).Nodup /\ d = bD ((l.drop i).all validV && decide l.Nodup))
  (fun _ ds => (ds.getD 0 .nil).rows.length - (ds.getD 1 .nil).int.toNat) ?_ ?_
 ·intro ds hf hp
  obtain ⟨l, rfl⟩ := one_strs hf
  refine ⟨l, 0, by simp only [Tree.holds, Out.den, E.den, E.denL, dn, List.getD_cons_zero, List.getD_cons_succ, List.length_map, phi_1000, Int.ofNat_zero], Nat.zero_le _, hp, by rw [List.take_zero]; exact List.nodup_nil, ?_⟩
  simp only [q_urnames, phi_urnames, List.drop_zero]
 ·rintro j h t d ds hj ht hf ⟨l, i, rfl, hi, ho, hn, rfl⟩
  obtain rfl : t = head_urnames_0 := by
   match j, ht with
   | 0, ht => exact (Option.some.inj ht).symm
  obtain ⟨hl, hs⟩ := okD_strs ho
  by_cases hlt : i < l.length
  ·obtain ⟨x, hx, hxm, hd⟩ := drop_get hlt
   have hz := (okD_one.1 ho).1
   rw [sz_strs] at hz
   have o2 : okD n [strsD (l.take i), sD x] := okD_two.2 ⟨by
    rw [sz_strs, List.length_take]
    have : (sD x).sz = 1 := rfl
    omega, lim_strs.2 ⟨by rw [List.length_take]; omega, fun y hy => (lim_strs.1 (okD_one.1 ho).2).2 y (List.mem_of_mem_take hy)⟩, (okD_one.1 (hs x hxm)).2⟩
   simp only [head_urnames_0, Tree.holds, Out.den, E.den, E.denL, dn, List.getD_cons_zero, List.getD_cons_succ, List.length_map, phi_1000, rowAt_map hx, phi_rvalid, Int.toNat_natCast, Int.toNat_zero, strs_take, phi_urplace, wrap_succ hlt hl]
   have hm := idxI_iff x (l.take i) 0
   rw [hd, List.all_cons]
   refine ⟨fun _ => ⟨by omega, hs x hxm, fun hb => ⟨by omega, o2, fun hc => ?_, fun hc => ⟨⟨l, i + 1, rfl, hlt, ho, ?_, ?_⟩, by omega⟩⟩, fun hb => ?_⟩, fun h => by omega⟩
   ·rw [decide_eq_false (take_dup hx (hm.1 hc)), Bool.and_false]
   ·exact take_nodup hx hn fun h => hc (hm.2 h)
   ·rw [hb]; rfl
   ·rw [hb]; rfl
  ·simp only [head_urnames_0, Tree.holds, Out.den, E.den, E.denL, dn, List.getD_cons_zero, List.getD_cons_succ, List.length_map, phi_1000]
   refine ⟨fun h => by omega, fun _ => ?_⟩
   rw [List.take_of_length_le (by omega)] at hn
   rw [List.drop_eq_nil_of_le (by omega), decide_eq_true hn]; rfl
-- head 0 of loop 0: [t1 .rf 26, t3 .sh (.cell (.sc .b)), t4 .sh (.cell (.sc (.i .i64)))]
def heads_urformed : List Hd := [⟨0, [.any, .rf 26, .any, .sh (.cell (.sc .b)), .sh (.cell (.sc (.i .i64))), .any, .any, .any, .any, .any, .any, .any, .any, .any, .any, .any, .any, .any, .any, .any, .any, .any, .any, .any, .any, .any, .any, .any, .any, .any, .any, .any, .any, .any, .any, .any, .any, .any, .any, .any, .any, .any, .any, .any, .any, .any, .any, .any, .any, .any, .any, .any, .any, .any, .any, .any, .any, .any, .any, .any, .any, .any, .any, .any, .any, .any, .any, .any, .any, .any, .any, .any, .any, .any, .any, .any]⟩]
def entry_urformed : Tree :=
 (.ite (.eq (.c 0 .v0) (.i 9))
 (.ite (.eq (.n (.c 1 .v0)) (.i 0))
 (.g 0 [(.r3 .v0), (.eq (.n (.c 2 .v0)) (.i 1)), (.i 0)])
 (.g 0 [(.r3 .v0), (.lit (.bool false)), (.i 0)]))
 (.ite (.eq (.c 0 .v0) (.i 10))
 (.ite (.eq (.n (.c 1 .v0)) (.n (.c 2 .v0)))
 (.giv (.app 1000 [(.c 1 .v0)])
 (.g 0 [(.r3 .v0), (.app 121 [(.c 1 .v0)]), (.i 0)]))
 (.g 0 [(.r3 .v0), (.lit (.bool false)), (.i 0)]))
 (.ite (.eq (.c 0 .v0) (.i 11))
 (.ite (.eq (.n (.c 1 .v0)) (.n (.c 2 .v0)))
 (.giv (.app 1000 [(.c 1 .v0)])
 (.g 0 [(.r3 .v0), (.app 121 [(.c 1 .v0)]), (.i 0)]))
 (.g 0 [(.r3 .v0), (.lit (.bool false)), (.i 0)]))
 (.ite (.ge (.c 0 .v0) (.i 1))
 (.ite (.le (.c 0 .v0) (.i 8))
 (.ite (.eq (.n (.c 1 .v0)) (.i 0))
 (.g 0 [(.r3 .v0), (.eq (.n (.c 2 .v0)) (.i 0)), (.i 0)])
 (.g 0 [(.r3 .v0), (.lit (.bool false)), (.i 0)]))
 (.g 0 [(.r3 .v0), (.lit (.bool false)), (.i 0)]))
 (.g 0 [(.r3 .v0), (.lit (.bool false)), (.i 0)])))))
def head_urformed_0 : Tree :=
 (.ite (.lt .v2 (.n (.c 2 .v0)))
 (.ite .v1
 (.giv (.le (.i 0) .v2)
 (.giv (.app 1000 [(.r3 (.a (.c 2 .v0) .v2))])
 (.g 0 [.v0, (.app 122 [(.r3 (.a (.c 2 .v0) .v2))]), (.pr (.iop .add .i64) [.v2, (.i 1)])]))) .no)
 (.rt .v1))
def trees_urformed : List Tree := [head_urformed_0]
noncomputable def deps_urformed : List Sig := [q_urnames, q_urformed]
theorem ok_urformed : check q_urformed deps_urformed heads_urformed entry_urformed trees_urformed = true := by kernel_rfl
theorem urformed_step (n : Nat) (ih : @Ok (I n) q_urformed (okD n)) : @Ok (I n) q_urformed (okD (n + 1)) := by
 letI := I n
 refine fn_ok (hphi n) ok_urformed (by
  intro q hq
  simp only [deps_urformed, List.mem_cons, List.not_mem_nil, or_false] at hq
  rcases hq with rfl | rfl
  ·exact urnames_ok n
  ·exact ih)
  (fun _ d ds => ∃ (v : Typ) (o : Bool) (i : Nat), ds = [v.toD, bD o, iD i] /\ i <= v.list.length /\ v.list.length <= lim /\ (∀ x, x ∈ v.list -> okD n [x.toD]) /\ d = bD (o && (v.list.drop i).all formedT))
  (fun _ ds => (cellAt (ds.getD 0 .nil) 2).rows.length - (ds.getD 2 .nil).int.toNat) ?_ ?_
 ·intro ds hf hp
  obtain ⟨v, rfl⟩ := one_typ hf
  obtain ⟨h2, h0, h3, _, _, h6⟩ := okD_listT hp
  have hF := formedT_split v
  have fin : ∀ o : Bool, o = headT v -> ∃ (v' : Typ) (o' : Bool) (i : Nat), [v.toD, bD o, iD 0] = [v'.toD, bD o', iD i] /\ i <= v'.list.length /\ v'.list.length <= lim /\ (∀ x, x ∈ v'.list -> okD n [x.toD]) /\ bD (formedT v) = bD (o' && (v'.list.drop i).all formedT) := fun o ho => ⟨v, o, 0, rfl, Nat.zero_le _, h2, h3, by rw [hF, ho, List.drop_zero]⟩
  unfold headT at fin
  simp only [entry_urformed, q_urformed, Tree.holds, Out.den, E.den, E.denL, dn, List.getD_cons_zero, List.getD_cons_succ, List.length_map, phi_1000, tat_0, tat_1, tat_2, toDT_put, phi_urnames, phi_urformed, h6]
  have e1 : eqI v.list.length 1 = decide (v.list.length = 1) := by rw [Bool.eq_iff_iff, eqI_t, decide_eq_true_iff]; omega
  have e0 : eqI v.list.length 0 = decide (v.list.length = 0) := by rw [Bool.eq_iff_iff, eqI_t, decide_eq_true_iff]; omega
  refine ⟨fun c => ⟨fun h => fin _ ?_, fun h => fin false ?_⟩, fun c => ⟨fun c' => ⟨fun h => fin _ ?_, fun h => fin false ?_⟩, fun c' => ⟨fun c'' => ⟨fun h => fin _ ?_, fun h => fin false ?_⟩, fun c'' => ⟨fun d1 => ⟨fun d2 => ⟨fun h => fin _ ?_, fun h => fin false ?_⟩, fun d2 => fin false ?_⟩, fun d1 => fin false ?_⟩⟩⟩⟩
  ·rw [if_pos c, decide_eq_true (show v.names.length = 0 by omega), e1]; rfl
  ·rw [if_pos c, decide_eq_false (show ¬ v.names.length = 0 by omega)]; rfl
  ·rw [if_neg c, if_pos (.inl c'), decide_eq_true (show v.names.length = v.list.length by omega)]; rfl
  ·rw [if_neg c, if_pos (.inl c'), decide_eq_false (show ¬ v.names.length = v.list.length by omega)]; rfl
  ·rw [if_neg c, if_pos (.inr c''), decide_eq_true (show v.names.length = v.list.length by omega)]; rfl
  ·rw [if_neg c, if_pos (.inr c''), decide_eq_false (show ¬ v.names.length = v.list.length by omega)]; rfl
  ·rw [if_neg c, if_neg (by omega), decide_eq_true (show 1 <= v.kind /\ v.kind <= 8 from ⟨d1, d2⟩), decide_eq_true (show v.names.length = 0 by omega), e0]; rfl
  ·rw [if_neg c, if_neg (by omega), decide_eq_false (show ¬ v.names.length = 0 by omega), Bool.false_and, Bool.and_false]
  ·rw [if_neg c, if_neg (by omega), decide_eq_false (show ¬ (1 <= v.kind /\ v.kind <= 8) by omega)]; rfl
  ·rw [if_neg c, if_neg (by omega), decide_eq_false (show ¬ (1 <= v.kind /\ v.kind <= 8) by omega)]; rfl
 ·rintro j h t d ds hj ht hf ⟨v, o, i, rfl, hi, hl, hs, rfl⟩
  obtain rfl : t = head_urformed_0 := by
   match j, ht with
   | 0, ht => exact (Option.some.inj ht).symm
  by_cases hlt : i < v.list.length
  ·obtain ⟨x, hx, hxm, hd⟩ := drop_get hlt
   simp only [head_urformed_0, Tree.holds, Out.den, E.den, E.denL, dn, List.getD_cons_zero, List.getD_cons_succ, List.length_map, phi_1000, rowAt_map hx, tat_0, tat_1, tat_2, toDT_put, phi_urformed, wrap_succ hlt hl]
   rw [hd, List.all_cons]
   refine ⟨fun _ => ⟨fun ho => ⟨by omega, hs x hxm, ⟨v, formedT x, i + 1, rfl, hlt, hl, hs, ?_⟩, by omega⟩, fun ho => ?_⟩, fun h => by omega⟩
   ·rw [ho, Bool.true_and]
   ·rw [ho]; rfl
  ·simp only [head_urformed_0, Tree.holds, Out.den, E.den, E.denL, dn, List.getD_cons_zero, List.getD_cons_succ, List.length_map, phi_1000, tat_0, tat_1, tat_2, toDT_put]
   refine ⟨fun h => by omega, fun _ => ?_⟩
   rw [List.drop_eq_nil_of_le (by omega), List.all_nil, Bool.and_true]
theorem urformed_ok : ∀ (n : Nat), @Ok (I n) q_urformed (okD n)
 | 0 => ok_zero
 | n + 1 => ok_irrel (by decide) (urformed_step n (urformed_ok n))
-- head 0 of loop 0: [t1 .rf 26, t3 .sh (.cell (.sc (.i .i64))), t4 .sh (.cell (.sc (.i .i64)))]
def heads_urdepth : List Hd := [⟨0, [.any, .rf 26, .any, .sh (.cell (.sc (.i .i64))), .sh (.cell (.sc (.i .i64))), .any, .any, .any, .any, .any, .any, .any, .any, .any, .any, .any, .any, .any, .any, .any, .any, .any]⟩]
def entry_urdepth : Tree :=
 (.g 0 [(.r3 .v0), (.i 0), (.i 0)])
def head_urdepth_0 : Tree :=
 (.ite (.lt .v2 (.n (.c 2 .v0)))
 (.giv (.le (.i 0) .v2)
 (.giv (.app 1000 [(.r3 (.a (.c 2 .v0) .v2))])
 (.g 0 [.v0, (.pr .ite [(.gt (.app 123 [(.r3 (.a (.c 2 .v0) .v2))]) .v1), (.app 123 [(.r3 (.a (.c 2 .v0) .v2))]), .v1]), (.pr (.iop .add .i64) [.v2, (.i 1)])])))
 (.rt (.pr (.iop .add .i64) [.v1, (.i 1)])))
def trees_urdepth : List Tree := [head_urdepth_0]
noncomputable def deps_urdepth : List Sig := [q_urdepth]
theorem ok_urdepth : check q_urdepth deps_urdepth heads_urdepth entry_urdepth trees_urdepth = true := by kernel_rfl
theorem urdepth_step (n : Nat) (ih : @Ok (I n) q_urdepth (okD n)) : @Ok (I n) q_urdepth (okD (n + 1)) := by
 letI := I n
 refine fn_ok (hphi n) ok_urdepth (by intro q hq; simp only [deps_urdepth, List.mem_singleton] at hq; subst hq; exact ih)
  (fun _ d ds => ∃ (v : Typ) (a b : Int) (o : Bool) (i : Nat), ds = [v.toD, iD a, iD i] /\ i <= v.list.length /\ v.list.length <= lim /\ (∀ x, x ∈ v.list -> okD n [x.toD]) /\ d = iD (wrap ((spanTL (v.list.drop i) (a, b, o)).1 + 1)))
  (fun _ ds => (cellAt (ds.getD 0 .nil) 2).rows.length - (ds.getD 2 .nil).int.toNat) ?_ ?_
 ·intro ds hf hp
  obtain ⟨v, rfl⟩ := one_typ hf
  obtain ⟨h2, h0, h3, _⟩ := okD_listT hp
  simp only [entry_urdepth, q_urdepth, Tree.holds, Out.den, E.den, E.denL, dn, List.getD_cons_zero, List.getD_cons_succ, List.length_map, phi_1000, tat_0, tat_1, tat_2, toDT_put, phi_urdepth]
  rw [spanT_eq]
  exact ⟨v, 0, 1, _, 0, rfl, Nat.zero_le _, h2, h3, rfl⟩
 ·rintro j h t d ds hj ht hf ⟨v, a, b, o, i, rfl, hi, hl, hs, rfl⟩
  obtain rfl : t = head_urdepth_0 := by
   match j, ht with
   | 0, ht => exact (Option.some.inj ht).symm
  have hmax : ∀ x : Int, (bif ltI a x then iD x else iD a) = iD (if x > a then x else a) := fun x => by
   by_cases c : x > a
   ·rw [ltI_t.2 c, if_pos c]; rfl
   ·rw [ltI_f.2 c, if_neg c]; rfl
  by_cases hlt : i < v.list.length
  ·obtain ⟨x, hx, hxm, hd⟩ := drop_get hlt
   simp only [head_urdepth_0, Tree.holds, Out.den, E.den, E.denL, dn, List.getD_cons_zero, List.getD_cons_succ, List.length_map, phi_1000, rowAt_map hx, tat_0, tat_1, tat_2, toDT_put, phi_urdepth, wrap_succ hlt hl, hmax]
   rw [hd, spanTL]
   exact ⟨fun _ => ⟨by omega, hs x hxm, ⟨v, _, _, _, i + 1, rfl, hlt, hl, hs, rfl⟩, by omega⟩, fun h => by omega⟩
  ·simp only [head_urdepth_0, Tree.holds, Out.den, E.den, E.denL, dn, List.getD_cons_zero, List.getD_cons_succ, List.length_map, phi_1000, tat_0, tat_1, tat_2, toDT_put]
   refine ⟨fun h => by omega, fun _ => ?_⟩
   rw [List.drop_eq_nil_of_le (by omega), spanTL]
theorem urdepth_ok : ∀ (n : Nat), @Ok (I n) q_urdepth (okD n)
 | 0 => ok_zero
 | n + 1 => ok_irrel (by decide) (urdepth_step n (urdepth_ok n))
-- head 0 of loop 0: [t1 .rf 26, t3 .sh (.cell (.sc (.i .i64))), t4 .sh (.cell (.sc (.i .i64)))]
def heads_ursize : List Hd := [⟨0, [.any, .rf 26, .any, .sh (.cell (.sc (.i .i64))), .sh (.cell (.sc (.i .i64))), .any, .any, .any, .any, .any, .any, .any, .any, .any, .any, .any, .any, .any, .any, .any, .any]⟩]
def entry_ursize : Tree :=
 (.g 0 [(.r3 .v0), (.i 1), (.i 0)])
def head_ursize_0 : Tree :=
 (.ite (.lt .v2 (.n (.c 2 .v0)))
 (.giv (.le (.i 0) .v2)
 (.giv (.app 1000 [(.r3 (.a (.c 2 .v0) .v2))])
 (.g 0 [.v0, (.pr (.iop .add .i64) [.v1, (.app 124 [(.r3 (.a (.c 2 .v0) .v2))])]), (.pr (.iop .add .i64) [.v2, (.i 1)])])))
 (.rt .v1))
def trees_ursize : List Tree := [head_ursize_0]
noncomputable def deps_ursize : List Sig := [q_ursize]
theorem ok_ursize : check q_ursize deps_ursize heads_ursize entry_ursize trees_ursize = true := by kernel_rfl
theorem ursize_step (n : Nat) (ih : @Ok (I n) q_ursize (okD n)) : @Ok (I n) q_ursize (okD (n + 1)) := by
 letI := I n
 refine fn_ok (hphi n) ok_ursize (by intro q hq; simp only [deps_ursize, List.mem_singleton] at hq; subst hq; exact ih)
  (fun _ d ds => ∃ (v : Typ) (a b : Int) (o : Bool) (i : Nat), ds = [v.toD, iD b, iD i] /\ i <= v.list.length /\ v.list.length <= lim /\ (∀ x, x ∈ v.list -> okD n [x.toD]) /\ d = iD (spanTL (v.list.drop i) (a, b, o)).2.1)
  (fun _ ds => (cellAt (ds.getD 0 .nil) 2).rows.length - (ds.getD 2 .nil).int.toNat) ?_ ?_
 ·intro ds hf hp
  obtain ⟨v, rfl⟩ := one_typ hf
  obtain ⟨h2, h0, h3, _⟩ := okD_listT hp
  simp only [entry_ursize, q_ursize, Tree.holds, Out.den, E.den, E.denL, dn, List.getD_cons_zero, List.getD_cons_succ, List.length_map, phi_1000, tat_0, tat_1, tat_2, toDT_put, phi_ursize]
  rw [spanT_eq]
  exact ⟨v, 0, 1, _, 0, rfl, Nat.zero_le _, h2, h3, rfl⟩
 ·rintro j h t d ds hj ht hf ⟨v, a, b, o, i, rfl, hi, hl, hs, rfl⟩
  obtain rfl : t = head_ursize_0 := by
   match j, ht with
   | 0, ht => exact (Option.some.inj ht).symm
  by_cases hlt : i < v.list.length
  ·obtain ⟨x, hx, hxm, hd⟩ := drop_get hlt
   simp only [head_ursize_0, Tree.holds, Out.den, E.den, E.denL, dn, List.getD_cons_zero, List.getD_cons_succ, List.length_map, phi_1000, rowAt_map hx, tat_0, tat_1, tat_2, toDT_put, phi_ursize, wrap_succ hlt hl]
   rw [hd, spanTL]
   exact ⟨fun _ => ⟨by omega, hs x hxm, ⟨v, _, _, _, i + 1, rfl, hlt, hl, hs, rfl⟩, by omega⟩, fun h => by omega⟩
  ·simp only [head_ursize_0, Tree.holds, Out.den, E.den, E.denL, dn, List.getD_cons_zero, List.getD_cons_succ, List.length_map, phi_1000, tat_0, tat_1, tat_2, toDT_put]
   refine ⟨fun h => by omega, fun _ => ?_⟩
   rw [List.drop_eq_nil_of_le (by omega), spanTL]
theorem ursize_ok : ∀ (n : Nat), @Ok (I n) q_ursize (okD n)
 | 0 => ok_zero
 | n + 1 => ok_irrel (by decide) (ursize_step n (ursize_ok n))
-- head 0 of loop 0: [t1 .rf 26, t3 .sh (.cell (.sc (.i .i64)))]
-- head 1 of loop 1: [t1 .rf 26, t4 .sh (.cell (.sc (.i .i64)))]
def heads_urshort : List Hd := [⟨0, [.any, .rf 26, .any, .sh (.cell (.sc (.i .i64))), .any, .any, .any, .any, .any, .any, .any, .any, .any, .any, .any, .any, .any, .any, .any, .any, .any, .any, .any, .any, .any, .any, .any, .any, .any, .any, .any, .any, .any, .any, .any, .any, .any]⟩, ⟨1, [.any, .rf 26, .any, .any, .sh (.cell (.sc (.i .i64))), .any, .any, .any, .any, .any, .any, .any, .any, .any, .any, .any, .any, .any, .any, .any, .any, .any, .any, .any, .any, .any, .any, .any, .any, .any, .any, .any, .any, .any, .any, .any, .any]⟩]
def entry_urshort : Tree :=
 (.ite (.gt (.n (.c 2 .v0)) (.i 256)) .no
 (.g 0 [(.r3 .v0), (.i 0)]))
def head_urshort_0 : Tree :=
 (.ite (.lt .v1 (.n (.c 1 .v0)))
 (.giv (.le (.i 0) .v1)
 (.ite (.gt (.pr .slen [(.c 0 (.a (.c 1 .v0) .v1))]) (.i 64)) .no
 (.g 0 [.v0, (.pr (.iop .add .i64) [.v1, (.i 1)])])))
 (.g 1 [.v0, (.i 0)]))
def head_urshort_1 : Tree :=
 (.ite (.lt .v1 (.n (.c 2 .v0)))
 (.giv (.le (.i 0) .v1)
 (.giv (.app 1000 [(.r3 (.a (.c 2 .v0) .v1))])
 (.ite (.app 125 [(.r3 (.a (.c 2 .v0) .v1))])
 (.g 1 [.v0, (.pr (.iop .add .i64) [.v1, (.i 1)])]) .no))) .ye)
def trees_urshort : List Tree := [head_urshort_0, head_urshort_1]
noncomputable def deps_urshort : List Sig := [q_urshort]
theorem ok_urshort : check q_urshort deps_urshort heads_urshort entry_urshort trees_urshort = true := by kernel_rfl
theorem urshort_step (n : Nat) (ih : @Ok (I n) q_urshort (okD n)) : @Ok (I n) q_urshort (okD (n + 1)) := by
 letI := I n
 refine fn_ok (hphi n) ok_urshort (by intro q hq; simp only [deps_urshort, List.mem_singleton] at hq; subst hq; exact ih)
  (fun j d ds => ∃ (v : Typ) (i : Nat), ds = [v.toD, iD i] /\ v.list.length <= lim /\ v.names.length <= lim /\ (∀ x, x ∈ v.list -> okD n [x.toD]) /\
   ((j = 0 /\ i <= v.names.length /\ d = bD (!(v.names.drop i).any longS && v.list.all shortT)) \/ (j = 1 /\ i <= v.list.length /\ d = bD ((v.list.drop i).all shortT))))
  (fun j ds => if j = 0 then (cellAt (ds.getD 0 .nil) 2).rows.length + 1 + ((cellAt (ds.getD 0 .nil) 1).rows.length - (ds.getD 1 .nil).int.toNat) else (cellAt (ds.getD 0 .nil) 2).rows.length - (ds.getD 1 .nil).int.toNat) ?_ ?_
 ·intro ds hf hp
  obtain ⟨v, rfl⟩ := one_typ hf
  obtain ⟨h2, hn, h3, _⟩ := okD_listT hp
  have hv := shortT_iff v
  simp only [entry_urshort, Tree.holds, Out.den, E.den, E.denL, dn, List.getD_cons_zero, List.getD_cons_succ, List.length_map, phi_1000, q_urshort, tat_0, tat_1, tat_2, toDT_put, phi_urshort]
  refine ⟨fun h => ?_, fun h => ⟨v, 0, rfl, h2, hn, h3, .inl ⟨Nat.zero_le _, ?_⟩⟩⟩
  ·show _ = bD (shortT v)
   rw [Bool.eq_false_iff.2 fun e => (hv.1 e).1 h]
  ·show bD (shortT v) = _
   have : shortT v = (!(v.names.drop 0).any longS && v.list.all shortT) := by
    rw [Bool.eq_iff_iff, hv, List.drop_zero, Bool.and_eq_true, Bool.not_eq_true']
    simp [h]
   rw [this]
 ·rintro j h t d ds hj ht hf ⟨v, i, rfl, hl, hn, hs, ⟨rfl, hi, rfl⟩ | ⟨rfl, hi, rfl⟩⟩
  ·obtain rfl : t = head_urshort_0 := (Option.some.inj ht).symm
   by_cases hlt : i < v.names.length
   ·obtain ⟨x, hx, hxm, hd⟩ := drop_get hlt
    simp only [head_urshort_0, Tree.holds, Out.den, E.den, E.denL, dn, List.getD_cons_zero, List.getD_cons_succ, List.length_map, phi_1000, rowAt_map hx, wrap_succ hlt hn, tat_0, tat_1, tat_2, toDT_put]
    rw [hd, List.any_cons]
    refine ⟨fun _ => ⟨by omega, fun hb => ?_, fun hb => ⟨⟨v, i + 1, rfl, hl, hn, hs, .inl ⟨hlt, ?_⟩⟩, ?_⟩⟩, fun h => by omega⟩
    ·rw [show longS x = true from decide_eq_true hb]; rfl
    ·rw [show longS x = false from decide_eq_false hb]; rfl
    ·simp only [if_true]; omega
   ·simp only [head_urshort_0, Tree.holds, Out.den, E.den, E.denL, dn, List.getD_cons_zero, List.getD_cons_succ, List.length_map, phi_1000, tat_0, tat_1, tat_2, toDT_put]
    refine ⟨fun h => by omega, fun _ => ⟨⟨v, 0, rfl, hl, hn, hs, .inr ⟨Nat.zero_le _, ?_⟩⟩, ?_⟩⟩
    ·rw [List.drop_eq_nil_of_le (by omega), List.drop_zero]; rfl
    ·simp only [if_true]; rw [if_neg (by decide)]; omega
  ·obtain rfl : t = head_urshort_1 := (Option.some.inj ht).symm
   by_cases hlt : i < v.list.length
   ·obtain ⟨x, hx, hxm, hd⟩ := drop_get hlt
    simp only [head_urshort_1, Tree.holds, Out.den, E.den, E.denL, dn, List.getD_cons_zero, List.getD_cons_succ, List.length_map, phi_1000, rowAt_map hx, wrap_succ hlt hl, tat_0, tat_1, tat_2, toDT_put, phi_urshort]
    rw [hd, List.all_cons]
    refine ⟨fun _ => ⟨by omega, hs x hxm, fun hb => ⟨⟨v, i + 1, rfl, hl, hn, hs, .inr ⟨hlt, ?_⟩⟩, ?_⟩, fun hb => ?_⟩, fun h => by omega⟩
    ·rw [show shortT x = true from hb]; rfl
    ·rw [if_neg (by decide), if_neg (by decide)]; omega
    ·rw [show shortT x = false from hb]; rfl
   ·simp only [head_urshort_1, Tree.holds, Out.den, E.den, E.denL, dn, List.getD_cons_zero, List.getD_cons_succ, List.length_map, phi_1000, tat_0, tat_1, tat_2, toDT_put]
    refine ⟨fun h => by omega, fun _ => ?_⟩
    rw [List.drop_eq_nil_of_le (by omega)]; rfl
theorem urshort_ok : ∀ (n : Nat), @Ok (I n) q_urshort (okD n)
 | 0 => ok_zero
 | n + 1 => ok_irrel (by decide) (urshort_step n (urshort_ok n))
def heads_urcheck : List Hd := []
def entry_urcheck : Tree :=
 (.giv (.app 1000 [(.r3 .v0)])
 (.ite (.app 122 [(.r3 .v0)])
 (.ite (.app 125 [(.r3 .v0)])
 (.ite (.gt (.app 123 [(.r3 .v0)]) (.i 16))
 (.rt (.i 2))
 (.ite (.gt (.app 124 [(.r3 .v0)]) (.i 4096))
 (.rt (.i 2))
 (.rt (.i 0))))
 (.rt (.i 2)))
 (.rt (.i 110))))
def trees_urcheck : List Tree := []
noncomputable def deps_urcheck : List Sig := [q_urformed, q_urshort, q_urdepth, q_ursize]
theorem ok_urcheck : check q_urcheck deps_urcheck heads_urcheck entry_urcheck trees_urcheck = true := by kernel_rfl
theorem urcheck_ok (n : Nat) : @Ok (I n) q_urcheck (okD n) := by
 letI := I n
 refine fn_ok (hphi n) ok_urcheck (by
  intro q hq
  simp only [deps_urcheck, List.mem_cons, List.not_mem_nil, or_false] at hq
  rcases hq with rfl | rfl | rfl | rfl
  ·exact urformed_ok n
  ·exact urshort_ok n
  ·exact urdepth_ok n
  ·exact ursize_ok n) (fun _ _ _ => False) (fun _ _ => 0) ?_ (fun j h t d ds hj => by simp [heads_urcheck] at hj)
 intro ds hf hp
 obtain ⟨v, rfl⟩ := one_typ hf
 simp only [entry_urcheck, q_urcheck, Tree.holds, Out.den, E.den, E.denL, dn, List.getD_cons_zero, List.getD_cons_succ, List.length_map, phi_1000, tat_0, tat_1, tat_2, toDT_put, phi_urformed, phi_urshort, phi_urdepth, phi_ursize, phi_urcheck, hp]
 unfold checkT
 refine ⟨fun h => ⟨fun h' => ⟨fun a => ?_, fun a => ⟨fun b => ?_, fun b => ?_⟩⟩, fun h' => ?_⟩, fun h => ?_⟩
 ·rw [if_pos h, if_pos h', if_pos a]
 ·rw [if_pos h, if_pos h', if_neg a, if_pos b]
 ·rw [if_pos h, if_pos h', if_neg a, if_neg b]
 ·rw [if_pos h, h']; rfl
 ·rw [h]; rfl
end Go.Proofs.YtaeeblcdggjokaaGreatDoor.Vk
/- Contracts of chapter 11's reference: In, Has, Same. -/
namespace Go.Proofs.YtaeeblcdggjokaaGreatDoor.Vk
open Go Go.Ab Go.RowKit
-- head 0 of loop 0: [t2 .rf 26, t3 .rf 33, t5 .sh (.cell (.sc (.i .i64)))]
-- head 1 of loop 1: [t2 .rf 26, t3 .rf 33, t6 .sh (.cell (.sc (.i .i64)))]
def heads_urin : List Hd := [⟨0, [.any, .any, .rf 26, .rf 33, .any, .sh (.cell (.sc (.i .i64))), .any, .any, .any, .any, .any, .any, .any, .any, .any, .any, .any, .any, .any, .any, .any, .any, .any, .any, .any, .any, .any, .any, .any, .any, .any, .any, .any, .any, .any, .any, .any, .any, .any, .any, .any, .any, .any, .any, .any, .any, .any, .any, .any, .any, .any, .any, .any, .any, .any, .any, .any, .any, .any, .any, .any, .any, .any, .any, .any, .any, .any, .any, .any, .any, .any, .any, .any, .any, .any, .any, .any, .any, .any, .any, .any, .any, .any, .any, .any, .any, .any, .any, .any, .any, .any, .any, .any, .any, .any, .any, .any, .any, .any, .any, .any, .any, .any, .any, .any, .any, .any, .any, .any, .any, .any, .any, .any, .any, .any, .any, .any, .any, .any, .any, .any, .any, .any, .any, .any, .any, .any, .any, .any, .any, .any, .any, .any, .any, .any, .any, .any, .any, .any, .any, .any, .any, .any, .any, .any, .any, .any, .any, .any]⟩, ⟨1, [.any, .any, .rf 26, .rf 33, .any, .any, .sh (.cell (.sc (.i .i64))), .any, .any, .any, .any, .any, .any, .any, .any, .any, .any, .any, .any, .any, .any, .any, .any, .any, .any, .any, .any, .any, .any, .any, .any, .any, .any, .any, .any, .any, .any, .any, .any, .any, .any, .any, .any, .any, .any, .any, .any, .any, .any, .any, .any, .any, .any, .any, .any, .any, .any, .any, .any, .any, .any, .any, .any, .any, .any, .any, .any, .any, .any, .any, .any, .any, .any, .any, .any, .any, .any, .any, .any, .any, .any, .any, .any, .any, .any, .any, .any, .any, .any, .any, .any, .any, .any, .any, .any, .any, .any, .any, .any, .any, .any, .any, .any, .any, .any, .any, .any, .any, .any, .any, .any, .any, .any, .any, .any, .any, .any, .any, .any, .any, .any, .any, .any, .any, .any, .any, .any, .any, .any, .any, .any, .any, .any, .any, .any, .any, .any, .any, .any, .any, .any, .any, .any, .any, .any, .any, .any, .any, .any]⟩]
def entry_urin : Tree :=
 (.ite (.eq (.c 0 .v0) (.i 1)) .ye
 (.ite (.eq (.c 0 .v0) (.i 2))
 (.rt (.eq (.c 0 .v1) (.i 1)))
 (.ite (.eq (.c 0 .v0) (.i 3))
 (.rt (.eq (.c 0 .v1) (.i 2)))
 (.ite (.eq (.c 0 .v0) (.i 4))
 (.rt (.eq (.c 0 .v1) (.i 3)))
 (.ite (.eq (.c 0 .v0) (.i 5))
 (.ite (.eq (.c 0 .v1) (.i 3))
 (.rt (.ge (.c 4 .v1) (.i 0))) .no)
 (.ite (.eq (.c 0 .v0) (.i 6))
 (.rt (.eq (.c 0 .v1) (.i 4)))
 (.ite (.eq (.c 0 .v0) (.i 7))
 (.rt (.eq (.c 0 .v1) (.i 5)))
 (.ite (.eq (.c 0 .v0) (.i 8))
 (.rt (.eq (.c 0 .v1) (.i 6)))
 (.ite (.eq (.c 0 .v0) (.i 9))
 (.g 0 [(.r3 .v0), (.r9 .v1), (.i 0)])
 (.ite (.eq (.c 0 .v0) (.i 10))
 (.ite (.ne (.c 0 .v1) (.i 8)) .no
 (.ite (.ne (.n (.c 7 .v1)) (.n (.c 1 .v0))) .no
 (.g 1 [(.r3 .v0), (.r9 .v1), (.i 0)])))
 (.ite (.ne (.c 0 .v1) (.i 9)) .no
 (.giv (.app 1000 [(.c 1 .v0), (.c 6 .v1)])
 (.ite (.ge (.app 120 [(.c 1 .v0), (.c 6 .v1)]) (.i 0))
 (.giv (.le (.i 0) (.app 120 [(.c 1 .v0), (.c 6 .v1)]))
 (.giv (.lt (.app 120 [(.c 1 .v0), (.c 6 .v1)]) (.n (.c 2 .v0)))
 (.giv (.lt (.i 0) (.n (.c 8 .v1)))
 (.giv (.app 1000 [(.r3 (.a (.c 2 .v0) (.app 120 [(.c 1 .v0), (.c 6 .v1)]))), (.r9 (.a (.c 8 .v1) (.i 0)))])
 (.giv (.app 2127 [(.r3 (.a (.c 2 .v0) (.app 120 [(.c 1 .v0), (.c 6 .v1)]))), (.r9 (.a (.c 8 .v1) (.i 0)))])
 (.rt (.app 127 [(.r3 (.a (.c 2 .v0) (.app 120 [(.c 1 .v0), (.c 6 .v1)]))), (.r9 (.a (.c 8 .v1) (.i 0)))]))))))) .no)))))))))))))
def head_urin_0 : Tree :=
 (.ite (.lt .v2 (.n (.c 8 .v1)))
 (.ite (.ne (.c 0 .v1) (.i 7)) .no
 (.giv (.lt (.i 0) (.n (.c 2 .v0)))
 (.giv (.le (.i 0) .v2)
 (.giv (.app 1000 [(.r3 (.a (.c 2 .v0) (.i 0))), (.r9 (.a (.c 8 .v1) .v2))])
 (.giv (.app 2127 [(.r3 (.a (.c 2 .v0) (.i 0))), (.r9 (.a (.c 8 .v1) .v2))])
 (.ite (.app 127 [(.r3 (.a (.c 2 .v0) (.i 0))), (.r9 (.a (.c 8 .v1) .v2))])
 (.g 0 [.v0, .v1, (.pr (.iop .add .i64) [.v2, (.i 1)])]) .no))))))
 (.rt (.eq (.c 0 .v1) (.i 7))))
def head_urin_1 : Tree :=
 (.ite (.lt .v2 (.n (.c 7 .v1)))
 (.giv (.le (.i 0) .v2)
 (.giv (.lt .v2 (.n (.c 1 .v0)))
 (.ite (.pr (.scmp .neq) [(.c 0 (.a (.c 7 .v1) .v2)), (.c 0 (.a (.c 1 .v0) .v2))]) .no
 (.giv (.lt .v2 (.n (.c 2 .v0)))
 (.giv (.lt .v2 (.n (.c 8 .v1)))
 (.giv (.app 1000 [(.r3 (.a (.c 2 .v0) .v2)), (.r9 (.a (.c 8 .v1) .v2))])
 (.giv (.app 2127 [(.r3 (.a (.c 2 .v0) .v2)), (.r9 (.a (.c 8 .v1) .v2))])
 (.ite (.app 127 [(.r3 (.a (.c 2 .v0) .v2)), (.r9 (.a (.c 8 .v1) .v2))])
 (.g 1 [.v0, .v1, (.pr (.iop .add .i64) [.v2, (.i 1)])]) .no)))))))) .ye)
def trees_urin : List Tree := [head_urin_0, head_urin_1]
noncomputable def deps_urin : List Sig := [q_urplace, q_urin]
theorem ok_urin : check q_urin deps_urin heads_urin entry_urin trees_urin = true := by kernel_rfl
theorem urin_step (n : Nat) (ih : @Ok (I n) q_urin (@okS (I n) n q_urin.g)) : @Ok (I n) q_urin (@okS (I n) (n + 1) q_urin.g) := by
 letI := I n
 refine fn_okS (hphi n) ok_urin (by
  intro q hq
  simp only [deps_urin, List.mem_cons, List.not_mem_nil, or_false] at hq
  rcases hq with rfl | rfl
  ·exact okS_of (urplace_ok n)
  ·exact ih)
  (fun j d ds => ∃ (t : Typ) (v : Val) (i : Nat), ds = [t.toD, v.toD, iD i] /\ v.list.length <= lim /\ (∀ x, x ∈ t.list -> formedT x = true) /\ (∀ y, y ∈ v.list -> formedV y = true) /\ (∀ x, x ∈ t.list -> ∀ y, y ∈ v.list -> okD n [x.toD, y.toD]) /\
   ((j = 0 /\ i <= v.list.length /\ ∃ x, t.list = [x] /\ d = bD (decide (v.kind = 7) && (v.list.drop i).all (hasT x))) \/
    (j = 1 /\ i <= v.names.length /\ t.names.length = t.list.length /\ v.names.length = v.list.length /\ t.names.length = v.names.length /\ d = bD (decide (v.names.drop i = t.names.drop i) && ((t.list.zip v.list).drop i).all fun p => hasT p.1 p.2))))
  (fun j ds => (cellAt (ds.getD 1 .nil) 8).rows.length - (ds.getD 2 .nil).int.toNat) ?_ ?_
 ·intro ds hf hp
  obtain ⟨t, v, rfl⟩ := typ_val hf
  obtain ⟨o1, o2, o3, o4, o5, o6⟩ := okD_tv hp.1
  obtain ⟨g1, g2⟩ := (pre_urin n t v).1 (hp.2 rfl)
  obtain ⟨t1, t2, t3, t4, t5, t6⟩ := formedT_parts g1
  obtain ⟨v1, v2, v3⟩ := formedV_parts g2
  simp only [entry_urin, q_urin, Tree.holds, Out.den, E.den, E.denL, dn, List.getD_cons_zero, List.getD_cons_succ, List.length_map, phi_1000, phi_urin, tat_0, tat_1, tat_2, toDT_put, phi_urplace, o5]
  have hH := hasT_eq t v
  have hK : t.kind ≠ 1 -> t.kind ≠ 9 -> t.kind ≠ 10 -> t.kind ≠ 11 -> hasT t v = (decide (v.kind = kindsT t.kind) && (decide (t.kind ≠ 5) || decide (v.exp ≥ 0))) := fun a b c d => by rw [hH, if_neg a, if_neg b, if_neg c, if_neg d]
  have fin : ∀ c e : Int, t.kind = c -> c ≠ 1 -> c ≠ 5 -> c ≠ 9 -> c ≠ 10 -> c ≠ 11 -> kindsT c = e -> bD (eqI v.kind e) = bD (hasT t v) := fun c e hc h1 h5 h9 h10 h11 he => by
   rw [hK (by omega) (by omega) (by omega) (by omega), hc, he, decide_eq_true h5, Bool.true_or, Bool.and_true]; rfl
  have h5K : t.kind = 5 -> hasT t v = (decide (v.kind = 3) && decide (v.exp ≥ 0)) := fun k => by
   rw [hK (by omega) (by omega) (by omega) (by omega), k]; rfl
  refine ⟨fun k1 => ?_, fun k1 => ⟨fun k => fin 2 1 k (by decide) (by decide) (by decide) (by decide) (by decide) rfl, fun k2 => ⟨fun k => fin 3 2 k (by decide) (by decide) (by decide) (by decide) (by decide) rfl, fun k3 => ⟨fun k => fin 4 3 k (by decide) (by decide) (by decide) (by decide) (by decide) rfl, fun k4 => ⟨fun k5 => ⟨fun w => ?_, fun w => ?_⟩, fun k5 => ⟨fun k => fin 6 4 k (by decide) (by decide) (by decide) (by decide) (by decide) rfl, fun k6 => ⟨fun k => fin 7 5 k (by decide) (by decide) (by decide) (by decide) (by decide) rfl, fun k7 => ⟨fun k => fin 8 6 k (by decide) (by decide) (by decide) (by decide) (by decide) rfl, fun k8 => ⟨fun k9 => ?_, fun k9 => ⟨fun k10 => ⟨fun w => ?_, fun w => ⟨fun hl => ?_, fun hl => ?_⟩⟩, fun k10 => ⟨fun w => ?_, fun w => ⟨fun hx => ?_, fun hx => ?_⟩⟩⟩⟩⟩⟩⟩⟩⟩⟩⟩⟩
  ·rw [hH, if_pos k1]
  ·rw [h5K k5, decide_eq_true w]; rfl
  ·rw [h5K k5, decide_eq_false w]; rfl
  ·obtain ⟨x, hx⟩ := List.length_eq_one_iff.1 (t2 k9)
   refine ⟨t, v, 0, rfl, o2, t1, v1, o6, .inl ⟨Nat.zero_le _, x, hx, ?_⟩⟩
   rw [hH, if_neg k1, if_pos k9, hx]; rfl
  ·rw [hH, if_neg k1, if_neg k9, if_pos k10, decide_eq_false w]; rfl
  ·have hne : ¬ v.names = t.names := fun e => by rw [e] at hl; exact hl rfl
   rw [hH, if_neg k1, if_neg k9, if_pos k10, decide_eq_false hne, Bool.and_false]; rfl
  ·have e1 := (t3 (.inl k10)).1
   have e2 := v2 w
   refine ⟨t, v, 0, rfl, o2, t1, v1, o6, .inr ⟨Nat.zero_le _, e1, e2, by omega, ?_⟩⟩
   rw [hH, if_neg k1, if_neg k9, if_pos k10, decide_eq_true w]; rfl
  ·have k11 : t.kind = 11 := by omega
   rw [hH, if_neg k1, if_neg k9, if_neg k10, if_pos k11, decide_eq_false w]; rfl
  ·have k11 : t.kind = 11 := by omega
   have e1 := (t3 (.inr k11)).1
   obtain ⟨i1, i2⟩ := idxI_lt v.text t.names 0 hx
   obtain ⟨y, hy⟩ := List.length_eq_one_iff.1 (v3 w)
   have hxl : (idxI v.text t.names 0).toNat < t.list.length := by omega
   have hx0 := List.getElem?_eq_getElem hxl
   generalize t.list[(idxI v.text t.names 0).toNat] = x at hx0
   have hy0 : v.list[(0 : Int).toNat]? = some y := by rw [hy]; rfl
   rw [rowAt_mapI hx0, rowAt_mapI hy0]
   simp only [tat_0, tat_1, tat_2, toDT_put, at_0, at_1, at_2, at_3, at_4, at_5, at_6, at_7, at_8, toD_put, phi_urin, pre_urin]
   have hxm := List.mem_of_getElem? hx0
   have hym := List.mem_of_getElem? hy0
   refine ⟨hx, by omega, by rw [hy]; simp, o6 x hxm y hym, ⟨t1 x hxm, v1 y hym⟩, ?_⟩
   rw [hH, if_neg k1, if_neg k9, if_neg k10, if_pos k11, decide_eq_true w, decide_eq_true hx, hx0, hy]
   rfl
  ·have k11 : t.kind = 11 := by omega
   rw [hH, if_neg k1, if_neg k9, if_neg k10, if_pos k11, decide_eq_true w, decide_eq_false hx]; rfl
 ·rintro j h tr d ds hj ht hf ⟨t, v, i, rfl, hl, f1, f2, ho, ⟨rfl, hi, x, hx, rfl⟩ | ⟨rfl, hi, e1, e2, e3, rfl⟩⟩
  ·obtain rfl : tr = head_urin_0 := (Option.some.inj ht).symm
   have hr : Ab.rowAt (typsD t.list) 0 = x.toD := by rw [hx]; rfl
   have hxm : x ∈ t.list := by rw [hx]; simp
   have hlen : (t.list.length : Int) = 1 := by rw [hx]; rfl
   by_cases hlt : i < v.list.length
   ·obtain ⟨y, hy, hym, hd⟩ := drop_get hlt
    simp only [head_urin_0, Tree.holds, Out.den, E.den, E.denL, dn, List.getD_cons_zero, List.getD_cons_succ, List.length_map, phi_1000, rowAt_map hy, tat_0, tat_1, tat_2, toDT_put, toD_put, hr, phi_urin, pre_urin, wrap_succ hlt hl, hlen]
    rw [hd, List.all_cons]
    refine ⟨fun _ => ⟨fun w => ?_, fun w => ⟨by omega, by omega, ho x hxm y hym, ⟨f1 x hxm, f2 y hym⟩, fun hb => ⟨⟨t, v, i + 1, rfl, hl, f1, f2, ho, .inl ⟨hlt, x, hx, ?_⟩⟩, ?_⟩, fun hb => ?_⟩⟩, fun h => by omega⟩
    ·rw [decide_eq_false w]; rfl
    ·rw [hb, Bool.true_and]
    ·omega
    ·rw [hb, Bool.false_and, Bool.and_false]
   ·simp only [head_urin_0, Tree.holds, Out.den, E.den, E.denL, dn, List.getD_cons_zero, List.getD_cons_succ, List.length_map, phi_1000, tat_0, tat_1, tat_2, toDT_put]
    refine ⟨fun h => by omega, fun _ => ?_⟩
    rw [List.drop_eq_nil_of_le (by omega), List.all_nil, Bool.and_true]; rfl
  ·obtain rfl : tr = head_urin_1 := (Option.some.inj ht).symm
   by_cases hlt : i < v.names.length
   ·obtain ⟨s, hs, hsm, hd⟩ := drop_get hlt
    obtain ⟨s', hs', hsm', hd'⟩ := drop_get (l := t.names) (i := i) (by omega)
    obtain ⟨y, hy, hym, hdy⟩ := drop_get (l := v.list) (i := i) (by omega)
    obtain ⟨x, hx, hxm, hdx⟩ := drop_get (l := t.list) (i := i) (by omega)
    have hz : (t.list.zip v.list).drop i = (x, y) :: (t.list.zip v.list).drop (i + 1) := by
     rw [zip_drop, zip_drop, hdx, hdy]; rfl
    simp only [head_urin_1, Tree.holds, Out.den, E.den, E.denL, dn, List.getD_cons_zero, List.getD_cons_succ, List.length_map, phi_1000, rowAt_map hs, rowAt_map hs', rowAt_map hx, rowAt_map hy, tat_0, tat_1, tat_2, toDT_put, toD_put, phi_urin, pre_urin, wrap_succ (show i < v.list.length by omega) hl]
    rw [hz, List.all_cons, hd, hd']
    refine ⟨fun _ => ⟨by omega, by omega, fun hb => ?_, fun hb => ⟨by omega, by omega, ho x hxm y hym, ⟨f1 x hxm, f2 y hym⟩, fun hc => ⟨⟨t, v, i + 1, rfl, hl, f1, f2, ho, .inr ⟨hlt, e1, e2, e3, ?_⟩⟩, ?_⟩, fun hc => ?_⟩⟩, fun h => by omega⟩
    ·rw [decide_eq_false fun e => hb (List.cons.inj e).1]; rfl
    ·rw [hc, Bool.true_and, hb]; simp
    ·omega
    ·rw [hc, Bool.false_and, Bool.and_false]
   ·simp only [head_urin_1, Tree.holds, Out.den, E.den, E.denL, dn, List.getD_cons_zero, List.getD_cons_succ, List.length_map, phi_1000, tat_0, tat_1, tat_2, toDT_put]
    refine ⟨fun h => by omega, fun _ => ?_⟩
    rw [List.drop_eq_nil_of_le (show v.names.length <= i by omega), List.drop_eq_nil_of_le (show t.names.length <= i by omega), List.drop_eq_nil_of_le (by rw [List.length_zip]; omega)]
    rfl
theorem urin_ok : ∀ (n : Nat), @Ok (I n) q_urin (@okS (I n) n q_urin.g)
 | 0 => fun W J vs ds hL hI ha hp => absurd hp.1.1 (Nat.not_lt_zero _)
 | n + 1 => ok_irrel (by decide) (urin_step n (urin_ok n))
def heads_urhas : List Hd := []
def entry_urhas : Tree :=
 (.giv (.app 1000 [(.r3 .v0)])
 (.ite (.eq (.app 126 [(.r3 .v0)]) (.i 0))
 (.giv (.app 1000 [(.r9 .v1)])
 (.giv (.app 2047 [(.r9 .v1)])
 (.ite (.ne (.app 47 [(.r9 .v1)]) (.i 0))
 (.rt (.pr .row [(.lit (.bool false)), (.app 47 [(.r9 .v1)])]))
 (.giv (.app 1000 [(.r3 .v0), (.r9 .v1)])
 (.giv (.app 2127 [(.r3 .v0), (.r9 .v1)])
 (.rt (.pr .row [(.app 127 [(.r3 .v0), (.r9 .v1)]), (.i 0)])))))))
 (.ite (.ne (.app 126 [(.r3 .v0)]) (.i 0))
 (.rt (.pr .row [(.lit (.bool false)), (.app 126 [(.r3 .v0)])]))
 (.giv (.app 1000 [(.r3 .v0), (.r9 .v1)])
 (.giv (.app 2127 [(.r3 .v0), (.r9 .v1)])
 (.rt (.pr .row [(.app 127 [(.r3 .v0), (.r9 .v1)]), (.i 0)])))))))
def trees_urhas : List Tree := []
noncomputable def deps_urhas : List Sig := [q_urcheck, q_rcheck, q_urin]
theorem ok_urhas : check q_urhas deps_urhas heads_urhas entry_urhas trees_urhas = true := by kernel_rfl
theorem urhas_ok (n : Nat) : @Ok (I n) q_urhas (okD n) := by
 letI := I n
 refine fn_okS (hphi n) ok_urhas (by
  intro q hq
  simp only [deps_urhas, List.mem_cons, List.not_mem_nil, or_false] at hq
  rcases hq with rfl | rfl | rfl
  ·exact okS_of (urcheck_ok n)
  ·exact rcheck_ok rvalid_ok n
  ·exact urin_ok n) (fun _ _ _ => False) (fun _ _ => 0) ?_ (fun j h t d ds hj => by simp [heads_urhas] at hj)
 intro ds hf hp
 obtain ⟨t, v, rfl⟩ := typ_val hf
 obtain ⟨h1, h2, h3⟩ := okD_two.1 hp
 have e1 := sz_toDT t
 have p1 := D.sz_pos (strsD t.names)
 have p2 := D.sz_pos (typsD t.list)
 have o1 : okD n [t.toD] := okD_one.2 ⟨by omega, h2⟩
 have o2 : okD n [v.toD] := okD_one.2 ⟨by omega, h3⟩
 have o7 : D.szL [v.toD] + 4 < n := by
  simp only [D.szL]
  omega
 simp only [entry_urhas, q_urhas, Tree.holds, Out.den, E.den, E.denL, dn, List.getD_cons_zero, List.getD_cons_succ, List.length_map, phi_1000, phi_urhas, tat_0, tat_1, tat_2, toDT_put, toD_put, phi_urcheck, phi_rcheck, phi_urin, pre_urin, pre_rcheck, o1, o2, o7, hp]
 refine ⟨fun c => ⟨fun c' => ?_, fun c' => ⟨⟨checkT_formed c, checkV_formed c'⟩, ?_⟩⟩, fun c => ⟨fun c' => ?_, fun c' => absurd c' c⟩⟩
 ·unfold HasT; rw [if_neg (by simpa using c), if_pos c']
 ·unfold HasT; rw [if_neg (by simpa using c), if_neg (by simpa using c')]
 ·unfold HasT; rw [if_pos c]
-- head 0 of loop 0: [t2 .rf 26, t3 .rf 26, t5 .sh (.cell (.sc (.i .i64)))]
-- head 1 of loop 1: [t2 .rf 26, t3 .rf 26, t6 .sh (.cell (.sc (.i .i64)))]
def heads_ursame : List Hd := [⟨0, [.any, .any, .rf 26, .rf 26, .any, .sh (.cell (.sc (.i .i64))), .any, .any, .any, .any, .any, .any, .any, .any, .any, .any, .any, .any, .any, .any, .any, .any, .any, .any, .any, .any, .any, .any, .any, .any, .any, .any, .any, .any, .any, .any, .any, .any, .any, .any, .any, .any, .any, .any, .any, .any, .any, .any, .any, .any, .any, .any, .any, .any, .any, .any, .any, .any, .any, .any, .any, .any, .any, .any, .any, .any, .any]⟩, ⟨1, [.any, .any, .rf 26, .rf 26, .any, .any, .sh (.cell (.sc (.i .i64))), .any, .any, .any, .any, .any, .any, .any, .any, .any, .any, .any, .any, .any, .any, .any, .any, .any, .any, .any, .any, .any, .any, .any, .any, .any, .any, .any, .any, .any, .any, .any, .any, .any, .any, .any, .any, .any, .any, .any, .any, .any, .any, .any, .any, .any, .any, .any, .any, .any, .any, .any, .any, .any, .any, .any, .any, .any, .any, .any, .any]⟩]
def entry_ursame : Tree :=
 (.ite (.ne (.c 0 .v0) (.c 0 .v1)) .no
 (.ite (.ne (.n (.c 1 .v0)) (.n (.c 1 .v1))) .no
 (.ite (.ne (.n (.c 2 .v0)) (.n (.c 2 .v1))) .no
 (.g 0 [(.r3 .v0), (.r3 .v1), (.i 0)]))))
def head_ursame_0 : Tree :=
 (.ite (.lt .v2 (.n (.c 1 .v0)))
 (.giv (.le (.i 0) .v2)
 (.giv (.lt .v2 (.n (.c 1 .v1)))
 (.ite (.pr (.scmp .neq) [(.c 0 (.a (.c 1 .v0) .v2)), (.c 0 (.a (.c 1 .v1) .v2))]) .no
 (.g 0 [.v0, .v1, (.pr (.iop .add .i64) [.v2, (.i 1)])]))))
 (.g 1 [.v0, .v1, (.i 0)]))
def head_ursame_1 : Tree :=
 (.ite (.lt .v2 (.n (.c 2 .v0)))
 (.giv (.le (.i 0) .v2)
 (.giv (.lt .v2 (.n (.c 2 .v1)))
 (.giv (.app 1000 [(.r3 (.a (.c 2 .v0) .v2)), (.r3 (.a (.c 2 .v1) .v2))])
 (.ite (.app 129 [(.r3 (.a (.c 2 .v0) .v2)), (.r3 (.a (.c 2 .v1) .v2))])
 (.g 1 [.v0, .v1, (.pr (.iop .add .i64) [.v2, (.i 1)])]) .no)))) .ye)
def trees_ursame : List Tree := [head_ursame_0, head_ursame_1]
noncomputable def deps_ursame : List Sig := [q_ursame]
theorem ok_ursame : check q_ursame deps_ursame heads_ursame entry_ursame trees_ursame = true := by kernel_rfl
theorem ursame_step (n : Nat) (ih : @Ok (I n) q_ursame (okD n)) : @Ok (I n) q_ursame (okD (n + 1)) := by
 letI := I n
 refine fn_ok (hphi n) ok_ursame (by intro q hq; simp only [deps_ursame, List.mem_singleton] at hq; subst hq; exact ih)
  (fun j d ds => ∃ (a b : Typ) (i : Nat), ds = [a.toD, b.toD, iD i] /\ a.list.length = b.list.length /\ a.names.length = b.names.length /\ a.list.length <= lim /\ a.names.length <= lim /\ (∀ x y, x ∈ a.list -> y ∈ b.list -> okD n [x.toD, y.toD]) /\
   ((j = 0 /\ i <= a.names.length /\ d = bD (decide (a.names.drop i = b.names.drop i) && eqTs a.list b.list)) \/ (j = 1 /\ i <= a.list.length /\ d = bD (eqTs (a.list.drop i) (b.list.drop i)))))
  (fun j ds => if j = 0 then (cellAt (ds.getD 0 .nil) 2).rows.length + 1 + ((cellAt (ds.getD 0 .nil) 1).rows.length - (ds.getD 2 .nil).int.toNat) else (cellAt (ds.getD 0 .nil) 2).rows.length - (ds.getD 2 .nil).int.toNat) ?_ ?_
 ·intro ds hf hp
  obtain ⟨a, b, rfl⟩ := two_typ hf
  obtain ⟨h1, h2, h3⟩ := okD_two.1 hp
  obtain ⟨h4, h5⟩ := (lim_toDT a).1 h2
  obtain ⟨h6, h7⟩ := (lim_toDT b).1 h3
  rw [sz_toDT, sz_toDT] at h1
  have hv := eqT_iff a b
  have hs : ∀ x y, x ∈ a.list -> y ∈ b.list -> okD n [x.toD, y.toD] := fun x y hx hy => okD_two.2 ⟨by
   have := sz_typs_mem hx
   have := sz_typs_mem hy
   omega, (lim_typs.1 h5).2 x hx, (lim_typs.1 h7).2 y hy⟩
  simp only [entry_ursame, q_ursame, Tree.holds, Out.den, E.den, E.denL, dn, List.getD_cons_zero, List.getD_cons_succ, List.length_map, phi_1000, tat_0, tat_1, tat_2, toDT_put, phi_ursame]
  have no : ∀ p : Prop, ¬ p -> (eqT a b = true -> p) -> D.v (.bool false) = bD (eqT a b) := fun p h1 h2 => by
   cases h : eqT a b with
   | false => rfl
   | true => exact absurd (h2 h) h1
  refine ⟨fun h => no _ h fun e => (hv.1 e).1, fun c1 => ⟨fun h => no (a.names.length = b.names.length) (by omega) fun e => by rw [(hv.1 e).2.1], fun c6 => ⟨fun h => no (a.list.length = b.list.length) (by omega) fun e => by rw [(hv.1 e).2.2], fun c7 => ⟨a, b, 0, rfl, by omega, by omega, (lim_typs.1 h5).1, (lim_strs.1 h4).1, hs, .inl ⟨Nat.zero_le _, ?_⟩⟩⟩⟩⟩
  have : eqT a b = (decide (a.names.drop 0 = b.names.drop 0) && eqTs a.list b.list) := by
   rw [Bool.eq_iff_iff, hv, List.drop_zero, List.drop_zero, Bool.and_eq_true, decide_eq_true_iff]
   unfold eqTs
   rw [@decide_eq_true_iff _ (Classical.propDecidable _)]
   exact ⟨fun h => h.2, fun h => ⟨c1, h⟩⟩
  rw [this]
 ·rintro j h t d ds hj ht hf ⟨a, b, i, rfl, hab, hnn, hl, hn, hs, ⟨rfl, hi, rfl⟩ | ⟨rfl, hi, rfl⟩⟩
  ·obtain rfl : t = head_ursame_0 := (Option.some.inj ht).symm
   by_cases hlt : i < a.names.length
   ·obtain ⟨x, hx, hxm, hd⟩ := drop_get hlt
    obtain ⟨y, hy, hym, hd'⟩ := drop_get (show i < b.names.length by omega)
    simp only [head_ursame_0, Tree.holds, Out.den, E.den, E.denL, dn, List.getD_cons_zero, List.getD_cons_succ, List.length_map, phi_1000, rowAt_map hx, rowAt_map hy, wrap_succ hlt hn, tat_0, tat_1, tat_2, toDT_put]
    rw [hd, hd']
    refine ⟨fun _ => ⟨by omega, by omega, fun hb => ?_, fun hb => ⟨⟨a, b, i + 1, rfl, hab, hnn, hl, hn, hs, .inl ⟨hlt, ?_⟩⟩, ?_⟩⟩, fun h => by omega⟩
    ·rw [decide_eq_false (fun e => hb (List.cons.inj e).1)]; rfl
    ·rw [hb]; simp
    ·simp only [if_true]; omega
   ·simp only [head_ursame_0, Tree.holds, Out.den, E.den, E.denL, dn, List.getD_cons_zero, List.getD_cons_succ, List.length_map, phi_1000, tat_0, tat_1, tat_2, toDT_put]
    refine ⟨fun h => by omega, fun _ => ⟨⟨a, b, 0, rfl, hab, hnn, hl, hn, hs, .inr ⟨Nat.zero_le _, ?_⟩⟩, ?_⟩⟩
    ·rw [List.drop_eq_nil_of_le (show a.names.length <= i by omega), List.drop_eq_nil_of_le (show b.names.length <= i by omega), List.drop_zero, List.drop_zero]; rfl
    ·simp only [if_true]; rw [if_neg (by decide)]; omega
  ·obtain rfl : t = head_ursame_1 := (Option.some.inj ht).symm
   by_cases hlt : i < a.list.length
   ·obtain ⟨x, hx, hxm, hd⟩ := drop_get hlt
    obtain ⟨y, hy, hym, hd'⟩ := drop_get (show i < b.list.length by omega)
    simp only [head_ursame_1, Tree.holds, Out.den, E.den, E.denL, dn, List.getD_cons_zero, List.getD_cons_succ, List.length_map, phi_1000, rowAt_map hx, rowAt_map hy, wrap_succ hlt hl, tat_0, tat_1, tat_2, toDT_put, phi_ursame]
    have e : eqTs (x :: a.list.drop (i + 1)) (y :: b.list.drop (i + 1)) = (eqT x y && eqTs (a.list.drop (i + 1)) (b.list.drop (i + 1))) := by
     unfold eqTs eqT
     rw [Bool.eq_iff_iff]
     simp
    rw [hd, hd', e]
    refine ⟨fun _ => ⟨by omega, by omega, hs x y hxm hym, fun hb => ⟨⟨a, b, i + 1, rfl, hab, hnn, hl, hn, hs, .inr ⟨hlt, ?_⟩⟩, ?_⟩, fun hb => ?_⟩, fun h => by omega⟩
    ·rw [hb]; rfl
    ·rw [if_neg (by decide), if_neg (by decide)]; omega
    ·rw [hb]; rfl
   ·simp only [head_ursame_1, Tree.holds, Out.den, E.den, E.denL, dn, List.getD_cons_zero, List.getD_cons_succ, List.length_map, phi_1000, tat_0, tat_1, tat_2, toDT_put]
    refine ⟨fun h => by omega, fun _ => ?_⟩
    rw [List.drop_eq_nil_of_le (show a.list.length <= i by omega), List.drop_eq_nil_of_le (show b.list.length <= i by omega)]
    unfold eqTs
    simp
theorem ursame_ok : ∀ (n : Nat), @Ok (I n) q_ursame (okD n)
 | 0 => ok_zero
 | n + 1 => ok_irrel (by decide) (ursame_step n (ursame_ok n))
end Go.Proofs.YtaeeblcdggjokaaGreatDoor.Vk
/- The chapter's examples. -/
namespace Go.Proofs.YtaeeblcdggjokaaGreatDoor.Vk
open Go Go.Ab Go.RowKit
def muT (f : Nat) : Bool := match f with | 125 => true | _ => false
theorem tawake_run : isTrue (evFn Tryz.prog (tabsG tabs) muT (evDrawnX Tryz.prog (tabsG tabs)) 100000 noOrc 200 (.func 13) [] none0) = true := by kernel_rfl
theorem tawake {W : World} (h : TabsMet tabs W) : Calls Tryz.prog 13 #[] W fun e W' => e = .returned (.bool true) /\ Below W.heap.size W W' := by
 haveI : Interp := ⟨fun _ _ => .nil⟩
 exact calls_of_true noOrc_ok noNum Tryz.checked.mixed (glob_of_tabs h) (fun _ => VRl_nil) tawake_run
theorem tawake_ok (n : Nat) (pre : List D -> Prop) : @Ok (I n) q_tawake pre := by
 letI := I n
 refine ok_scalar (t := .b) rfl fun W vs ds hL ha hp => ?_
 have hv : vs = #[] /\ ds = [] := by
  obtain ⟨vs⟩ := vs
  cases vs with
  | nil => cases ds with | nil => exact ⟨rfl, rfl⟩ | cons _ _ => exact ha.elim
  | cons _ _ => cases ds <;> exact ha.elim
 obtain ⟨rfl, rfl⟩ := hv
 refine (tawake hL).mono ?_
 rintro e W' ⟨rfl, hb⟩
 exact ⟨_, rfl, hb, phi_tawake n, rfl⟩
end Go.Proofs.YtaeeblcdggjokaaGreatDoor.Vk
/- TypesChecks: its function answers true. -/
namespace Go.Proofs.YtaeeblcdggjokaaGreatDoor.Vk
open Go Go.Ab Go.RowKit
theorem smallL_all : ∀ (l : List Val), smallL l = true ↔ ∀ x, x ∈ l -> smallV x = true
 | [] => by unfold smallL; simp
 | v :: r => by
  unfold smallL
  rw [Bool.and_eq_true, smallL_all r]
  simp
theorem smallV_iff (v : Val) : smallV v = true ↔ v.names.length <= 1000000 /\ v.list.length <= 1000000 /\ ∀ x, x ∈ v.list -> smallV x = true := by
 cases v with
 | mk k f ng d e b t ns l =>
  show smallV _ = true ↔ ns.length <= 1000000 /\ l.length <= 1000000 /\ ∀ x, x ∈ l -> smallV x = true
  rw [smallV, Bool.and_eq_true, Bool.and_eq_true, decide_eq_true_iff, decide_eq_true_iff, smallL_all, and_assoc]
theorem manyL_all : ∀ (l : List Val), manyL l = false -> ∀ x, x ∈ l -> manyV x = false
 | [], _, x, hx => by cases hx
 | v :: r, h, x, hx => by
  unfold manyL at h
  cases hv : manyV v with
  | true => rw [hv] at h; cases h
  | false =>
   rw [hv] at h
   rcases List.mem_cons.1 hx with rfl | hx
   ·exact hv
   ·exact manyL_all r h x hx
theorem sizs_len : ∀ (l : List Val), l.length <= sizs l
 | [] => Nat.zero_le _
 | v :: r => by
  rw [sizs, List.length_cons]
  have := siz_pos v
  have := sizs_len r
  omega
theorem sizs_mem : ∀ {l : List Val} {x : Val}, x ∈ l -> siz x <= sizs l
 | v :: r, x, h => by
  rw [sizs]
  rcases List.mem_cons.1 h with rfl | h
  ·omega
  ·have := sizs_mem h; omega
theorem small_many : ∀ v : Val, manyV v = false -> siz v <= 65536 -> smallV v = true := by
 intro v
 induction v using val_ind with
 | h v ih =>
  intro hm hz
  rw [smallV_iff]
  rw [siz_eq] at hz
  have hl := sizs_len v.list
  have hn : v.names.length <= 2000 /\ manyL v.list = false := by
   cases v with
   | mk k f ng d e b t ns l =>
    show ns.length <= 2000 /\ manyL l = false
    unfold manyV at hm
    split at hm
    ·cases hm
    ·exact ⟨by omega, hm⟩
  refine ⟨by omega, by omega, fun x hx => ih x hx (manyL_all _ hn.2 x hx) ?_⟩
  have := sizs_mem hx
  omega
theorem take_map {l : List Val} {i : Nat} {x : Val} (h : l[i]? = some x) : (l.take i).map Val.toD ++ [x.toD] = (l.take (i + 1)).map Val.toD := by
 rw [List.take_add_one, h, List.map_append]; rfl
-- head 0 of loop 0: [t1 .bx 33 0, t2 .bx 33 146028888064, t3 .sh (.cell (.sl 9)), t4 .own 33, t5 .sh (.cell (.sc (.i .i64)))]
-- head 1 of loop 0: [t1 .bx 33 0, t2 .bx 33 146028888064, t3 .sh (.cell (.sl 9)), t4 .con (.v (.slice none 0 0)), t5 .sh (.cell (.sc (.i .i64)))]
def heads_copy : List Hd := [⟨0, [.any, .bx 33 0, .bx 33 146028888064, .sh (.cell (.sl 9)), .own 33, .sh (.cell (.sc (.i .i64))), .any, .any, .any, .any, .any, .any, .any, .any, .any, .any, .any, .any, .any, .any, .any, .any, .any, .any, .any, .any, .any, .any, .any, .any, .any]⟩, ⟨0, [.any, .bx 33 0, .bx 33 146028888064, .sh (.cell (.sl 9)), .con (.v (.slice none 0 0)), .sh (.cell (.sc (.i .i64))), .any, .any, .any, .any, .any, .any, .any, .any, .any, .any, .any, .any, .any, .any, .any, .any, .any, .any, .any, .any, .any, .any, .any, .any, .any]⟩]
def entry_copy : Tree :=
 (.giv (.le (.n (.c 7 .v0)) (.i 4294967296))
 (.g 1 [(.r9 .v0), (.pr .row [(.i 0), (.lit (.bool false)), (.lit (.bool false)), (.lit (.string .empty)), (.i 0), (.lit (.int .u64 0)), (.lit (.string .empty)), (.pr .lst []), (.pr .lst [])]), (.c 7 .v0), (.i 0)]))
def head_copy_0 : Tree :=
 (.ite (.lt .v4 (.n (.c 8 .v0)))
 (.giv (.le (.i 0) .v4)
 (.giv (.app 1000 [(.r9 (.a (.c 8 .v0) .v4))])
 (.giv (.app 2051 [(.r9 (.a (.c 8 .v0) .v4))])
 (.giv (.le (.n (.pr .cat [.v3, (.pr .lst [(.r9 (.app 51 [(.r9 (.a (.c 8 .v0) .v4))]))])])) (.i 4294967296))
 (.g 0 [(.r9 .v0), (.r9 .v1), .v2, (.pr .cat [.v3, (.pr .lst [(.r9 (.app 51 [(.r9 (.a (.c 8 .v0) .v4))]))])]), (.pr (.iop .add .i64) [.v4, (.i 1)])])))))
 (.rt (.pr .row [(.c 0 .v0), (.c 1 .v0), (.c 2 .v0), (.c 3 .v0), (.c 4 .v0), (.c 5 .v0), (.c 6 .v0), .v2, .v3])))
def head_copy_1 : Tree :=
 (.ite (.lt .v3 (.n (.c 8 .v0)))
 (.giv (.le (.i 0) .v3)
 (.giv (.app 1000 [(.r9 (.a (.c 8 .v0) .v3))])
 (.giv (.app 2051 [(.r9 (.a (.c 8 .v0) .v3))])
 (.g 0 [(.r9 .v0), (.r9 .v1), .v2, (.pr .lst [(.r9 (.app 51 [(.r9 (.a (.c 8 .v0) .v3))]))]), (.pr (.iop .add .i64) [.v3, (.i 1)])]))))
 (.rt (.pr .row [(.c 0 .v0), (.c 1 .v0), (.c 2 .v0), (.c 3 .v0), (.c 4 .v0), (.c 5 .v0), (.c 6 .v0), .v2, (.pr .lst [])])))
def trees_copy : List Tree := [head_copy_0, head_copy_1]
noncomputable def deps_copy : List Sig := [q_copy]
theorem ok_copy : check q_copy deps_copy heads_copy entry_copy trees_copy = true := by kernel_rfl
theorem copy_step (n : Nat) (ih : @Ok (I n) q_copy (@okS (I n) n q_copy.g)) : @Ok (I n) q_copy (@okS (I n) (n + 1) q_copy.g) := by
 letI := I n
 refine fn_okS (hphi n) ok_copy (by intro q hq; simp only [deps_copy, List.mem_singleton] at hq; subst hq; exact ih)
  (fun j d ds => ∃ (v : Val) (r : D) (i : Nat), smallV v = true /\ i <= v.list.length /\ v.list.length <= lim /\ (∀ x, x ∈ v.list -> okD n [x.toD]) /\ d = v.toD /\
   ((j = 0 /\ ds = [v.toD, r, strsD v.names, valsD (v.list.take i), iD i]) \/ (j = 1 /\ i = 0 /\ ds = [v.toD, r, strsD v.names, iD i])))
  (fun j ds => (ds.getD 0 .nil).val1.list.length - (if j = 0 then (ds.getD 4 .nil).int.toNat else (ds.getD 3 .nil).int.toNat)) ?_ ?_
 ·intro ds hf hp
  obtain ⟨v, rfl⟩ := one_val hf
  obtain ⟨h1, h2, h3⟩ := okD_list hp.1
  have hs := (pre_copy n v).1 (hp.2 rfl)
  have hs' := (smallV_iff v).1 hs
  simp only [entry_copy, q_copy, Tree.holds, Out.den, E.den, E.denL, dn, List.getD_cons_zero, List.getD_cons_succ, List.length_map, phi_1000, phi_copy]
  exact ⟨by omega, v, _, 0, hs, Nat.zero_le _, h2, h3, rfl, .inr ⟨rfl, rfl⟩⟩
 ·rintro j h t d ds hj ht hf ⟨v, r, i, hs, hi, hl, ho, rfl, ⟨rfl, rfl⟩ | ⟨rfl, rfl, rfl⟩⟩
  ·obtain rfl : t = head_copy_0 := (Option.some.inj ht).symm
   obtain ⟨s1, s2, s3⟩ := (smallV_iff v).1 hs
   by_cases hlt : i < v.list.length
   ·obtain ⟨x, hx, hxm, hd⟩ := drop_get hlt
    simp only [head_copy_0, Tree.holds, Out.den, E.den, E.denL, dn, List.getD_cons_zero, List.getD_cons_succ, List.length_map, phi_1000, rowAt_map hx, phi_copy, pre_copy, wrap_succ hlt hl, take_map hx, s3 x hxm, val1_toD]
    refine ⟨fun _ => ⟨by omega, ho x hxm, ?_, ⟨v, _, i + 1, hs, hlt, hl, ho, rfl, .inl rfl⟩, ?_⟩, fun h => by omega⟩
    ·rw [List.length_take]; omega
    ·simp only [if_true]; omega
   ·simp only [head_copy_0, Tree.holds, Out.den, E.den, E.denL, dn, List.getD_cons_zero, List.getD_cons_succ, List.length_map, phi_1000]
    refine ⟨fun h => by omega, fun _ => ?_⟩
    rw [List.take_of_length_le (by omega), toD_put]
  ·obtain rfl : t = head_copy_1 := (Option.some.inj ht).symm
   obtain ⟨s1, s2, s3⟩ := (smallV_iff v).1 hs
   by_cases hlt : 0 < v.list.length
   ·obtain ⟨x, hx, hxm, hd⟩ := drop_get hlt
    have e : [x.toD] = (v.list.take 1).map Val.toD := take_map hx
    simp only [head_copy_1, Tree.holds, Out.den, E.den, E.denL, dn, List.getD_cons_zero, List.getD_cons_succ, List.length_map, phi_1000, rowAt_map hx, phi_copy, pre_copy, wrap_succ hlt hl, s3 x hxm, val1_toD]
    refine ⟨fun _ => ⟨by omega, ho x hxm, ⟨v, .row [cellAt r 0, cellAt r 1, cellAt r 2, cellAt r 3, cellAt r 4, cellAt r 5, cellAt r 6, cellAt r 7, cellAt r 8], 1, hs, hlt, hl, ho, rfl, .inl ?_⟩, ?_⟩, fun h => by omega⟩
    ·rw [e]
    ·simp; omega
   ·simp only [head_copy_1, Tree.holds, Out.den, E.den, E.denL, dn, List.getD_cons_zero, List.getD_cons_succ, List.length_map, phi_1000]
    refine ⟨fun h => by omega, fun _ => ?_⟩
    have : v.list = [] := List.length_eq_zero_iff.1 (by omega)
    have e2 : (D.lst [] : D) = valsD v.list := by rw [this]; rfl
    rw [e2, toD_put]
theorem copy_ok : ∀ (n : Nat), @Ok (I n) q_copy (@okS (I n) n q_copy.g)
 | 0 => fun W J vs ds hL hI ha hp => absurd hp.1.1 (Nat.not_lt_zero _)
 | n + 1 => ok_irrel (by decide) (copy_step n (copy_ok n))
theorem take_mapT {l : List Typ} {i : Nat} {x : Typ} (h : l[i]? = some x) : (l.take i).map Typ.toD ++ [x.toD] = (l.take (i + 1)).map Typ.toD := by
 rw [List.take_add_one, h, List.map_append]; rfl
-- head 0 of loop 0: [t1 .bx 26 0, t2 .bx 26 115964116992, t3 .sh (.cell (.sl 9)), t4 .own 26, t5 .sh (.cell (.sc (.i .i64)))]
-- head 1 of loop 0: [t1 .bx 26 0, t2 .bx 26 115964116992, t3 .sh (.cell (.sl 9)), t4 .con (.v (.slice none 0 0)), t5 .sh (.cell (.sc (.i .i64)))]
def heads_tcopy : List Hd := [⟨0, [.any, .bx 26 0, .bx 26 115964116992, .sh (.cell (.sl 9)), .own 26, .sh (.cell (.sc (.i .i64))), .any, .any, .any, .any, .any, .any, .any, .any, .any, .any, .any, .any, .any, .any, .any, .any, .any, .any, .any, .any, .any, .any, .any, .any, .any, .any, .any]⟩, ⟨0, [.any, .bx 26 0, .bx 26 115964116992, .sh (.cell (.sl 9)), .con (.v (.slice none 0 0)), .sh (.cell (.sc (.i .i64))), .any, .any, .any, .any, .any, .any, .any, .any, .any, .any, .any, .any, .any, .any, .any, .any, .any, .any, .any, .any, .any, .any, .any, .any, .any, .any, .any]⟩]
def entry_tcopy : Tree :=
 (.giv (.le (.n (.c 1 .v0)) (.i 4294967296))
 (.g 1 [(.r3 .v0), (.pr .row [(.i 0), (.pr .lst []), (.pr .lst [])]), (.c 1 .v0), (.i 0)]))
def head_tcopy_0 : Tree :=
 (.ite (.lt .v4 (.n (.c 2 .v0)))
 (.giv (.le (.i 0) .v4)
 (.giv (.app 1000 [(.r3 (.a (.c 2 .v0) .v4))])
 (.giv (.app 2130 [(.r3 (.a (.c 2 .v0) .v4))])
 (.giv (.le (.n (.pr .cat [.v3, (.pr .lst [(.r3 (.app 130 [(.r3 (.a (.c 2 .v0) .v4))]))])])) (.i 4294967296))
 (.g 0 [(.r3 .v0), (.r3 .v1), .v2, (.pr .cat [.v3, (.pr .lst [(.r3 (.app 130 [(.r3 (.a (.c 2 .v0) .v4))]))])]), (.pr (.iop .add .i64) [.v4, (.i 1)])])))))
 (.rt (.pr .row [(.c 0 .v0), .v2, .v3])))
def head_tcopy_1 : Tree :=
 (.ite (.lt .v3 (.n (.c 2 .v0)))
 (.giv (.le (.i 0) .v3)
 (.giv (.app 1000 [(.r3 (.a (.c 2 .v0) .v3))])
 (.giv (.app 2130 [(.r3 (.a (.c 2 .v0) .v3))])
 (.g 0 [(.r3 .v0), (.r3 .v1), .v2, (.pr .lst [(.r3 (.app 130 [(.r3 (.a (.c 2 .v0) .v3))]))]), (.pr (.iop .add .i64) [.v3, (.i 1)])]))))
 (.rt (.pr .row [(.c 0 .v0), .v2, (.pr .lst [])])))
def trees_tcopy : List Tree := [head_tcopy_0, head_tcopy_1]
noncomputable def deps_tcopy : List Sig := [q_tcopy]
theorem ok_tcopy : check q_tcopy deps_tcopy heads_tcopy entry_tcopy trees_tcopy = true := by kernel_rfl
theorem tcopy_step (n : Nat) (ih : @Ok (I n) q_tcopy (@okS (I n) n q_tcopy.g)) : @Ok (I n) q_tcopy (@okS (I n) (n + 1) q_tcopy.g) := by
 letI := I n
 refine fn_okS (hphi n) ok_tcopy (by intro q hq; simp only [deps_tcopy, List.mem_singleton] at hq; subst hq; exact ih)
  (fun j d ds => ∃ (v : Typ) (r : D) (i : Nat), smallT v = true /\ i <= v.list.length /\ v.list.length <= lim /\ (∀ x, x ∈ v.list -> okD n [x.toD]) /\ d = v.toD /\
   ((j = 0 /\ ds = [v.toD, r, strsD v.names, typsD (v.list.take i), iD i]) \/ (j = 1 /\ i = 0 /\ ds = [v.toD, r, strsD v.names, iD i])))
  (fun j ds => (ds.getD 0 .nil).typ1.list.length - (if j = 0 then (ds.getD 4 .nil).int.toNat else (ds.getD 3 .nil).int.toNat)) ?_ ?_
 ·intro ds hf hp
  obtain ⟨v, rfl⟩ := one_typ hf
  obtain ⟨h1, h2, h3, _⟩ := okD_listT hp.1
  have hs := (pre_tcopy n v).1 (hp.2 rfl)
  have hs' := (smallT_iff v).1 hs
  simp only [entry_tcopy, q_tcopy, Tree.holds, Out.den, E.den, E.denL, dn, List.getD_cons_zero, List.getD_cons_succ, List.length_map, phi_1000, tat_0, tat_1, tat_2, toDT_put, phi_tcopy]
  exact ⟨by omega, v, _, 0, hs, Nat.zero_le _, h1, h3, rfl, .inr ⟨rfl, rfl⟩⟩
 ·rintro j h t d ds hj ht hf ⟨v, r, i, hs, hi, hl, ho, rfl, ⟨rfl, rfl⟩ | ⟨rfl, rfl, rfl⟩⟩
  ·obtain rfl : t = head_tcopy_0 := (Option.some.inj ht).symm
   obtain ⟨s1, s2, s3⟩ := (smallT_iff v).1 hs
   by_cases hlt : i < v.list.length
   ·obtain ⟨x, hx, hxm, hd⟩ := drop_get hlt
    simp only [head_tcopy_0, Tree.holds, Out.den, E.den, E.denL, dn, List.getD_cons_zero, List.getD_cons_succ, List.length_map, phi_1000, rowAt_map hx, tat_0, tat_1, tat_2, toDT_put, phi_tcopy, pre_tcopy, wrap_succ hlt hl, take_mapT hx, s3 x hxm, typ1_toD]
    refine ⟨fun _ => ⟨by omega, ho x hxm, ?_, ⟨v, _, i + 1, hs, hlt, hl, ho, rfl, .inl rfl⟩, ?_⟩, fun h => by omega⟩
    ·rw [List.length_take]; omega
    ·simp only [if_true]; omega
   ·simp only [head_tcopy_0, Tree.holds, Out.den, E.den, E.denL, dn, List.getD_cons_zero, List.getD_cons_succ, List.length_map, phi_1000, tat_0, tat_1, tat_2, toDT_put]
    refine ⟨fun h => by omega, fun _ => ?_⟩
    rw [List.take_of_length_le (by omega), toDT_put]
  ·obtain rfl : t = head_tcopy_1 := (Option.some.inj ht).symm
   obtain ⟨s1, s2, s3⟩ := (smallT_iff v).1 hs
   by_cases hlt : 0 < v.list.length
   ·obtain ⟨x, hx, hxm, hd⟩ := drop_get hlt
    have e : [x.toD] = (v.list.take 1).map Typ.toD := take_mapT hx
    simp only [head_tcopy_1, Tree.holds, Out.den, E.den, E.denL, dn, List.getD_cons_zero, List.getD_cons_succ, List.length_map, phi_1000, rowAt_map hx, tat_0, tat_1, tat_2, toDT_put, phi_tcopy, pre_tcopy, wrap_succ hlt hl, s3 x hxm, typ1_toD]
    refine ⟨fun _ => ⟨by omega, ho x hxm, ⟨v, .row [cellAt r 0, cellAt r 1, cellAt r 2], 1, hs, hlt, hl, ho, rfl, .inl ?_⟩, ?_⟩, fun h => by omega⟩
    ·rw [e]
    ·simp; omega
   ·simp only [head_tcopy_1, Tree.holds, Out.den, E.den, E.denL, dn, List.getD_cons_zero, List.getD_cons_succ, List.length_map, phi_1000, tat_0, tat_1, tat_2, toDT_put]
    refine ⟨fun h => by omega, fun _ => ?_⟩
    have : v.list = [] := List.length_eq_zero_iff.1 (by omega)
    have e2 : (D.lst [] : D) = typsD v.list := by rw [this]; rfl
    rw [e2, toDT_put]
theorem tcopy_ok : ∀ (n : Nat), @Ok (I n) q_tcopy (@okS (I n) n q_tcopy.g)
 | 0 => fun W J vs ds hL hI ha hp => absurd hp.1.1 (Nat.not_lt_zero _)
 | n + 1 => ok_irrel (by decide) (tcopy_step n (tcopy_ok n))
def heads_lchecks : List Hd := []
def entry_lchecks : Tree :=
 (.giv (.app 1000 [])
 (.giv (.app 1000 [(.r3 .v0), (.i 0), (.i 32768), (.i 0)])
 (.ite (.gt (.app 72 [(.r3 .v0), (.i 0), (.i 32768), (.i 0)]) (.i 32768)) .ye
 (.giv (.app 1000 [(.r3 .v0)])
 (.ite (.app 73 [(.r3 .v0)]) .ye
 (.giv (.app 1000 [(.r9 .v1), (.i 0), (.i 65536), (.i 0)])
 (.ite (.gt (.app 11 [(.r9 .v1), (.i 0), (.i 65536), (.i 0)]) (.i 65536)) .ye
 (.giv (.app 1000 [(.r9 .v1)])
 (.ite (.app 12 [(.r9 .v1)]) .ye
 (.giv (.app 2130 [(.r3 .v0)])
 (.giv (.app 2051 [(.r9 .v1)])
 (.giv (.app 1000 [(.r3 (.app 130 [(.r3 .v0)]))])
 (.giv (.app 1000 [(.r3 (.app 130 [(.r3 .v0)])), (.r9 (.app 51 [(.r9 .v1)]))])
 (.giv (.app 1000 [(.r3 .v0), (.r9 .v1)])
 (.ite (.app 74 [])
 (.ite (.eq (.app 63 [(.r3 (.app 130 [(.r3 .v0)]))]) (.app 126 [(.r3 .v0)]))
 (.ite (.pr (.bcmp .eql) [(.c 0 (.app 67 [(.r3 (.app 130 [(.r3 .v0)])), (.r9 (.app 51 [(.r9 .v1)]))])), (.c 0 (.app 128 [(.r3 .v0), (.r9 .v1)]))])
 (.ite (.eq (.c 1 (.app 67 [(.r3 (.app 130 [(.r3 .v0)])), (.r9 (.app 51 [(.r9 .v1)]))])) (.c 1 (.app 128 [(.r3 .v0), (.r9 .v1)])))
 (.giv (.app 1000 [(.r3 (.app 130 [(.r3 .v0)])), (.r3 .v0)])
 (.rt (.app 129 [(.r3 (.app 130 [(.r3 .v0)])), (.r3 .v0)]))) .no) .no) .no) .no)))))))))))))))
def trees_lchecks : List Tree := []
noncomputable def deps_lchecks : List Sig := [q_kparts, q_kwide, q_parts, q_many, q_tcopy, q_copy, q_tcheck, q_tHas, q_urhas, q_tawake, q_urcheck, q_ursame]
theorem ok_lchecks : check q_lchecks deps_lchecks heads_lchecks entry_lchecks trees_lchecks = true := by kernel_rfl
theorem lchecks_ok (n : Nat) : @Ok (I n) q_lchecks (fun ds => 4 * D.szL ds + 200 <= n /\ D.LimL ds) := by
 letI := I n
 refine fn_okS (hphi n) ok_lchecks (by
  intro q hq
  simp only [deps_lchecks, List.mem_cons, List.not_mem_nil, or_false] at hq
  rcases hq with rfl | rfl | rfl | rfl | rfl | rfl | rfl | rfl | rfl | rfl | rfl | rfl
  ·exact okS_of (kparts_ok n)
  ·exact okS_of (kwide_ok n)
  ·exact okS_of (parts_ok n)
  ·exact okS_of (many_ok n)
  ·exact tcopy_ok n
  ·exact copy_ok n
  ·exact okS_of (tcheck_ok n)
  ·exact okS_of (tHas_ok n)
  ·exact okS_of (urhas_ok n)
  ·exact okS_of (tawake_ok n _)
  ·exact okS_of (urcheck_ok n)
  ·exact okS_of (ursame_ok n)) (fun _ _ _ => False) (fun _ _ => 0) ?_ (fun j h t d ds hj => by simp [heads_lchecks] at hj)
 intro ds hf hp
 obtain ⟨a, v, rfl⟩ := typ_val hf
 obtain ⟨hp1, hp2, hp4⟩ := hp
 simp only [D.szL, D.LimL, and_true] at hp1 hp2 hp4
 have oz : okD n [] := ⟨by simp only [D.szL]; omega, by simp only [D.LimL]⟩
 have oa : okD n [a.toD, iD 0, iD 32768, iD 0] := okD_typ3.2 ⟨by omega, hp2⟩
 have ov : okD n [v.toD, iD 0, iD 65536, iD 0] := okD_val3.2 ⟨by omega, hp4⟩
 have oa1 : okD n [a.toD] := okD_one.2 ⟨by omega, hp2⟩
 have ov1 : okD n [v.toD] := okD_one.2 ⟨by omega, hp4⟩
 have oav : okD n [a.toD, v.toD] := okD_two.2 ⟨by omega, hp2, hp4⟩
 have oaa : okD n [a.toD, a.toD] := okD_two.2 ⟨by omega, hp2, hp2⟩
 have hsm := @small_of v hp4
 have hst := @small_ofT a hp2
 simp only [entry_lchecks, q_lchecks, Tree.holds, Out.den, E.den, E.denL, dn, List.getD_cons_zero, List.getD_cons_succ, List.length_map, phi_1000, tat_0, tat_1, tat_2, toDT_put, toD_put, phi_kparts, phi_kwide, phi_parts, phi_many, phi_tcopy, phi_copy, phi_tcheck, phi_tHas, phi_urhas, phi_tawake, phi_urcheck, phi_ursame, phi_lchecks, pre_tcopy, pre_copy, oz, oa, ov, oa1, ov1, oav, oaa, row_at0, row_at1]
 refine ⟨fun _ => trivial, fun h1 => ⟨fun _ => trivial, fun h2 => ⟨fun _ => trivial, fun h3 => ⟨fun _ => trivial, fun h4 => ?_⟩⟩⟩⟩
 have hs1 := hst h1 h2
 have hs2 : smallV v = true := small_many v h4 (hsm h3).2.2
 have he : eqT a a = true := eqT_self a
 simp [hs1, hs2, he]
end Go.Proofs.YtaeeblcdggjokaaGreatDoor.Vk
/- The law TypesChecks: whatever is handed in, the law's function answers true and leaves it as it was. Conditions: those of the row alone. -/
namespace Go.Proofs.YtaeeblcdggjokaaGreatDoor.VkTypesChecks
open Go Go.Ab Go.RowKit Go.ChangeShapes Go.WideShapes Go.ChangeAt Go.Proofs.YtaeeblcdggjokaaGreatDoor.Vk

theorem own : ownKnob Tryz.prog.godebug = none := by kernel_rfl
theorem laidOut : laidOutB Tryz.prog = true := by kernel_rfl
theorem met {W : World} (h : laidMetH Tryz.prog Rows.typesChecksRow.laid W) : TabsMet tabs W := by
 rw [MakeChecks.laidMetH_plain _ _ _ (by kernel_rfl)] at h
 obtain ⟨ps, h, _, _⟩ := h
 haveI : Interp := ⟨fun _ _ => .nil⟩
 exact tabs_of_laid h
theorem tbIs : tbOk Tryz.prog tb = true := by kernel_rfl
theorem argsAre : argsOk Tryz.prog tb Tryz.f3.params.toList q_lchecks.args = true := by kernel_rfl

theorem trodAll_len {H : Type} {enc : TypeId × Value -> H} {P : Program} {w : World} {sp : Nat -> Bool} {held : Bool} : ∀ {ts : List TypeId} {vs : List Value} {ds : List (DataW H)} {ps : List MemPlace}, DataW.TrodAll enc P w 0 sp held ts vs ds ps -> ds.length = ts.length
 | [], [], [], _, _ => rfl
 | t :: ts, v :: vs, d :: ds, ps, h => by
  obtain ⟨p, q, h1, h2, rfl⟩ := h
  rw [List.length_cons, List.length_cons, trodAll_len h2]
 | [], [], _ :: _, _, h => h.elim
 | [], _ :: _, [], _, h => h.elim
 | [], _ :: _, _ :: _, _, h => h.elim
 | _ :: _, [], [], _, h => h.elim
 | _ :: _, [], _ :: _, _, h => h.elim
 | _ :: _, _ :: _, [], _, h => h.elim

theorem len_two {α : Type} {l : List α} (h : l.length = 2) : ∃ a b, l = [a, b] := by
 match l, h with
 | [a, b], _ => exact ⟨a, b, rfl⟩
theorem len_three {α : Type} {l : List α} (h : l.length = 3) : ∃ a b c, l = [a, b, c] := by
 match l, h with
 | [a, b, c], _ => exact ⟨a, b, c, rfl⟩
theorem contract (H : Type) (enc : TypeId × Value -> H) (W : World) (base : Nat) (args : Array Value) (ds gs : List (DataW H)) (before : List MemPlace)
  (hval : ∀ (j : Nat) t v, Tryz.f3.params[j]? = some t -> args[j]? = some v -> Value.okWide Tryz.prog W .any base t v)
  (hW : DataW.Whole enc Tryz.prog Tryz.f3.params.toList Rows.typesChecksSpec.vars false W args.toList ds gs before)
  (hR : (DataW.weightsEach Tryz.prog (Tryz.f3.params.toList ++ (OpenSpec.ofChange Rows.typesChecksSpec).bare.plain.varTypes Tryz.prog) (ds ++ gs)).all (· <= reachBytes) = true)
  (hL : laidMetH Tryz.prog Rows.typesChecksRow.laid W) :
  Calls Tryz.prog 3 args W fun e W' => ∃ v, e = .returned v /\ Rows.typesChecksSpec.post enc Tryz.prog Tryz.f3 false true false false W args v W' := by
 have hW' := hW
 obtain ⟨p, q, hA0, hV, rfl, hfz, hnd⟩ := hW
 have hA : DataW.TrodAll enc Tryz.prog W 0 (fun _ => true) true Tryz.f3.params.toList args.toList ds p := hA0
 obtain ⟨rfl, rfl⟩ := trodVars_none hV
 have hw : ∀ m, m ∈ DataW.weightsEach Tryz.prog Tryz.f3.params.toList ds -> m <= lim := fun m hm => by
  have h1 : m ∈ DataW.weightsEach Tryz.prog (Tryz.f3.params.toList ++ (OpenSpec.ofChange Rows.typesChecksSpec).bare.plain.varTypes Tryz.prog) (ds ++ []) := by
   rw [show (OpenSpec.ofChange Rows.typesChecksSpec).bare.plain.varTypes Tryz.prog = [] from rfl, List.append_nil, List.append_nil]; exact hm
  have h2 := List.all_eq_true.1 hR m h1
  exact Nat.le_trans (of_decide_eq_true h2) (by show 0x7ffffffff000 <= lim; decide)
 obtain ⟨xs, hx, hlim⟩ := args_read (P := Tryz.prog) tbIs argsAre (fun j t v h1 h2 => hval j t v (by simpa using h1) (by simpa using h2)) hA hw
 letI := I (4 * D.szL xs + 200)
 have hok := lchecks_ok (4 * D.szL xs + 200) W (fun _ _ => True) args xs (met hL) (fun _ _ _ _ _ => trivial) hx ⟨by omega, hlim⟩
 refine (callsIn_wide.1 hok).mono fun e' W' hq => ?_
 obtain ⟨v, rfl, hb, hr⟩ := hq
 refine ⟨v, rfl, ?_⟩
 obtain rfl : v = .bool true := by
  have e : @Interp.phi (I (4 * D.szL xs + 200)) q_lchecks.g xs = bD true := phi_lchecks _ _
  rw [e] at hr
  have := hr.1
  unfold bD DV at this
  exact this.1
 obtain ⟨d0, d1, rfl⟩ := len_two (trodAll_len hA)
 exact post_true (t := 4) laidOut (by kernel_rfl) (by kernel_rfl) Tryz.underlying4 hW' rfl rfl rfl rfl hb

/- A world for the witness: the settled one, each listed table holding what its initialiser lays. -/
noncomputable def wargs : Array Value := #[.agg #[.int .i64 0, .slice none 0 0, .slice none 0 0], .agg #[.int .i64 0, .bool false, .bool false, .string ByteArray.empty, .int .i64 0, .int .u64 0, .string ByteArray.empty, .slice none 0 0, .slice none 0 0]]
theorem laid_met (os : Os) (args : Array Value) : laidMetH Tryz.prog Rows.typesChecksRow.laid ((World.laidAll Tryz.prog os Rows.typesChecksRow.laid).forCall (fun _ _ => 0) ⟨#[], args, []⟩).memory := by
 rw [MakeChecks.laidMetH_plain _ _ _ (by kernel_rfl)]
 exact laidMet_laidAll _ (by kernel_rfl) (by kernel_rfl)
noncomputable def wds (os : Os) {H : Type} (enc : TypeId × Value -> H) : List (DataW H) :=
 match DataW.whole enc Tryz.prog ((World.laidAll Tryz.prog os Rows.typesChecksRow.laid).forCall (fun _ _ => 0) ⟨#[], wargs, []⟩).memory Tryz.f3.params.toList Rows.typesChecksSpec.vars false wargs.toList 16 with
 | some (ds, _, _) => ds
 | none => []
theorem reads (os : Os) {H : Type} (enc : TypeId × Value -> H) : DataW.whole enc Tryz.prog ((World.laidAll Tryz.prog os Rows.typesChecksRow.laid).forCall (fun _ _ => 0) ⟨#[], wargs, []⟩).memory Tryz.f3.params.toList Rows.typesChecksSpec.vars false wargs.toList 16 =
  some (wds os enc, [], []) := by kernel_rfl

theorem lifted (os : Os) (started : os.Started) (H : Type) (enc : TypeId × Value -> H) (F : Stop.Interp) :
  ReturnsInHanded {} Tryz.checked os 3 .any ((OpenSpec.ofChange Rows.typesChecksSpec).preRow enc Tryz.prog Tryz.f3 Rows.typesChecksRow.domain false Rows.typesChecksRow.laid) (((OpenSpec.ofChange Rows.typesChecksSpec).at F).post enc Tryz.prog Tryz.f3 false true false false) := by
 refine returnsInHanded_of_row (C := Tryz.checked) (s := OpenSpec.ofChange Rows.typesChecksSpec) own started (by kernel_rfl) Tryz.func3
  (witness_row_at (enc := enc) (C := Tryz.checked) false (World.laidAll Tryz.prog os Rows.typesChecksRow.laid) wargs (World.laidAll_os _ _ _) (by kernel_rfl) (by kernel_rfl) (by kernel_rfl)
   (OpenSpec.preRow_of_cond 16 (reads os enc) (by kernel_rfl) (fun k hk => by cases hk) (by kernel_rfl) (laid_met os _))) ?_
 intro W base args ds gs before hval hW _ _ hR hL _ _
 exact contract H enc W base args ds gs before hval hW hR hL

theorem said : Rows.TypesChecksSaid :=
 OpenClaim.holds_of_cond 3 Tryz.f3 rfl rfl rfl rfl rfl rfl rfl ⟨rfl, rfl, rfl, rfl, rfl⟩ rfl rfl rfl rfl rfl (by kernel_rfl) Tryz.func3 (by kernel_rfl)
  (of_decide_eq_true (by kernel_rfl)) (by unfold Func.isWrapper; first | (rw [if_pos (by decide +kernel)]; kernel_rfl) | (rw [if_neg (by decide +kernel)]; exact ⟨rfl, rfl⟩))
  (fun os started H enc _ F => by rw [OpenClaim.pre_eq_preRow]; exact lifted os started H enc F)

theorem plain (f : FuncId) (fn : Func) (hf : Tryz.pinned.checked.prog.funcNamed "calamus/calamuslaw11.TypesChecks" = some f) (hfn : Tryz.pinned.checked.prog.funcs[f]? = some fn) :
  false = Tryz.pinned.checked.prog.looks [] /\ ∀ (j : Nat) t, fn.params[j]? = some t -> Tryz.pinned.checked.prog.wantsStandIn t = false := by
 obtain rfl : f = 3 := Option.some.inj ((show Tryz.prog.funcNamed "calamus/calamuslaw11.TypesChecks" = some 3 by kernel_rfl).symm.trans hf) |>.symm
 obtain rfl : fn = Tryz.f3 := (Option.some.inj (Tryz.func3.symm.trans hfn)).symm
 refine ⟨by kernel_rfl, fun j t ht => ?_⟩
 have h : (Tryz.f3.params.all fun t => !Tryz.prog.wantsStandIn t) = true := by kernel_rfl
 have := Array.all_eq_true_iff_forall_mem.1 h t (Array.mem_of_getElem? ht)
 show Tryz.prog.wantsStandIn t = false
 simpa using this

theorem card : Rows.TypesChecksCardSaid :=
 Claim7.holds_tied_plain_at .later [] _ _ _ _ said (fun _ h => by cases h) (by kernel_rfl) (fun _ h => by cases h) typesChecks_row_tie rfl ⟨rfl, rfl⟩ (by kernel_rfl) rfl plain (by kernel_rfl)
end Go.Proofs.YtaeeblcdggjokaaGreatDoor.VkTypesChecks
