/- What the functions come to, in plain Lean. -/
import Derived.Test.YtaeeblcdggjokaaDoorVkFn
import Derived.Lib.SlTrimSet
import Derived.Lib.ValidLaws
import Derived.Lib.Bytealg
namespace Go.Proofs.YtaeeblcdggjokaaDoor.Vk
open Go Go.Ab Go.RowKit
set_option maxRecDepth 100000
set_option linter.unusedVariables false
set_option linter.unusedSimpArgs false
set_option linter.unusedSectionVars false
set_option linter.constructorNameAsVariable false
abbrev wrap := IntKind.i64.wrap
def one : ByteArray := mkS [48]
def tenDigits : ByteArray := mkS [48, 49, 50, 51, 52, 53, 54, 55, 56, 57]

/-! ### value.Depth, Size -/
mutual
def depV : Val → Int
  | .mk _ _ _ _ _ _ _ _ l => wrap (depL 0 l + 1)
def depL : Int → List Val → Int
  | acc, [] => acc
  | acc, v :: r => depL (if depV v > acc then depV v else acc) r
end
mutual
def sizV : Val → Int
  | .mk _ _ _ _ _ _ _ _ l => sizL 1 l
def sizL : Int → List Val → Int
  | acc, [] => acc
  | acc, v :: r => sizL (wrap (acc + sizV v)) r
end
/-! ### num.Check -/
def trimV (s c : ByteArray) : ByteArray := ⟨(Lib.trimS s.data.toList c.data.toList).toArray⟩
def validV (s : ByteArray) : Bool := Lib.validD s.data.toList
def numV (neg : Bool) (d : ByteArray) (e : Int) : Int :=
  if neg = false ∧ d = one ∧ e = 0 then 0 else
  if d = ByteArray.empty then 10 else
  if ¬ trimV d tenDigits = ByteArray.empty then 10 else
  if 40 < (d.size : Int) then 10 else
  if (d.data.toList.getD 0 0).toNat = 48 then 10 else
  if d.extract (d.size - 1) d.size = one then 10 else
  if e < -400 then 10 else if 400 < e then 10 else 0
/-! ### value.names -/
def namesV (seen : D) : List ByteArray → Bool
  | [] => true
  | s :: r => if ((mfind (sD s) seen.rows).getD (bD false)).bool then false else if validV s then namesV (.lst (mput (sD s) (bD true) seen.rows)) r else false
/-! ### slices.IndexFunc -/
def ixL {α : Type} (p : α → Bool) : List α → Nat → Int
  | [], _ => -1
  | x :: r, i => if p x then (i : Int) else ixL p r (i + 1)
/-! ### value.formed, short -/
mutual
def formedV : Val → Bool
  | .mk k f ng d e b t ns l =>
    if k = 1 then !f && (ng == false && eqS d .empty && eqI e 0) && eqI b 0 && eqS t .empty && ns.length == 0 && l.length == 0
    else if k = 2 then (ng == false && eqS d .empty && eqI e 0) && eqI b 0 && eqS t .empty && ns.length == 0 && l.length == 0
    else if k = 3 then eqI (numV ng d e) 0 && !f && eqI b 0 && eqS t .empty && ns.length == 0 && l.length == 0
    else if k = 4 then !f && (ng == false && eqS d .empty && eqI e 0) && eqS t .empty && ns.length == 0 && l.length == 0
    else if k = 5 then validV t && !f && (ng == false && eqS d .empty && eqI e 0) && eqI b 0 && ns.length == 0 && l.length == 0
    else if k = 6 then !f && (ng == false && eqS d .empty && eqI e 0) && eqI b 0 && ns.length == 0 && l.length == 0
    else if k = 7 then !f && (ng == false && eqS d .empty && eqI e 0) && eqI b 0 && eqS t .empty && ns.length == 0 && ltI (formedL l 0) 0
    else if k = 8 then ns.length == l.length && namesV (.lst []) ns && !f && (ng == false && eqS d .empty && eqI e 0) && eqI b 0 && eqS t .empty && ltI (formedL l 0) 0
    else if k = 9 then l.length == 1 && validV t && !f && (ng == false && eqS d .empty && eqI e 0) && eqI b 0 && ns.length == 0 && ltI (formedL l 0) 0
    else false
def formedL : List Val → Nat → Int
  | [], _ => -1
  | v :: r, i => if formedV v then formedL r (i + 1) else (i : Int)
end
/-- What is looked at of a value by its kind. -/
theorem formedV_iff (k : Int) (f ng : Bool) (d : ByteArray) (e b : Int) (t : ByteArray) (ns : List ByteArray) (l : List Val) :
    (k = 1 → (formedV (.mk k f ng d e b t ns l) = true ↔ f = false ∧ (ng = false ∧ d = .empty ∧ e = 0) ∧ b = 0 ∧ t = .empty ∧ ns.length = 0 ∧ l.length = 0)) ∧
    (k = 2 → (formedV (.mk k f ng d e b t ns l) = true ↔ (ng = false ∧ d = .empty ∧ e = 0) ∧ b = 0 ∧ t = .empty ∧ ns.length = 0 ∧ l.length = 0)) ∧
    (k = 3 → (formedV (.mk k f ng d e b t ns l) = true ↔ numV ng d e = 0 ∧ f = false ∧ b = 0 ∧ t = .empty ∧ ns.length = 0 ∧ l.length = 0)) ∧
    (k = 4 → (formedV (.mk k f ng d e b t ns l) = true ↔ f = false ∧ (ng = false ∧ d = .empty ∧ e = 0) ∧ t = .empty ∧ ns.length = 0 ∧ l.length = 0)) ∧
    (k = 5 → (formedV (.mk k f ng d e b t ns l) = true ↔ validV t = true ∧ f = false ∧ (ng = false ∧ d = .empty ∧ e = 0) ∧ b = 0 ∧ ns.length = 0 ∧ l.length = 0)) ∧
    (k = 6 → (formedV (.mk k f ng d e b t ns l) = true ↔ f = false ∧ (ng = false ∧ d = .empty ∧ e = 0) ∧ b = 0 ∧ ns.length = 0 ∧ l.length = 0)) ∧
    (k = 7 → (formedV (.mk k f ng d e b t ns l) = true ↔ f = false ∧ (ng = false ∧ d = .empty ∧ e = 0) ∧ b = 0 ∧ t = .empty ∧ ns.length = 0 ∧ formedL l 0 < 0)) ∧
    (k = 8 → (formedV (.mk k f ng d e b t ns l) = true ↔ ns.length = l.length ∧ namesV (.lst []) ns = true ∧ f = false ∧ (ng = false ∧ d = .empty ∧ e = 0) ∧ b = 0 ∧ t = .empty ∧ formedL l 0 < 0)) ∧
    (k = 9 → (formedV (.mk k f ng d e b t ns l) = true ↔ l.length = 1 ∧ validV t = true ∧ f = false ∧ (ng = false ∧ d = .empty ∧ e = 0) ∧ b = 0 ∧ ns.length = 0 ∧ formedL l 0 < 0)) ∧
    (k ≠ 1 → k ≠ 2 → k ≠ 3 → k ≠ 4 → k ≠ 5 → k ≠ 6 → k ≠ 7 → k ≠ 8 → k ≠ 9 → formedV (.mk k f ng d e b t ns l) = false) := by
  refine ⟨?_, ?_, ?_, ?_, ?_, ?_, ?_, ?_, ?_, ?_⟩
  all_goals intros
  all_goals (try subst k)
  all_goals simp [formedV, eqI_t, eqS_t, ltI_t, and_assoc, *]
theorem formedL_nil : formedL [] 0 = -1 := by rw [formedL]
mutual
def shortV : Val → Bool
  | .mk k f ng d e b t ns l =>
    if (t.size : Int) > (if k = 9 then 64 else 4096) then false
    else if (l.length : Int) > 256 then false
    else if ixL (fun s : ByteArray => decide ((s.size : Int) > 64)) ns 0 ≥ 0 then false
    else !(decide (shortL l 0 ≥ 0))
def shortL : List Val → Nat → Int
  | [], _ => -1
  | v :: r, i => if shortV v then shortL r (i + 1) else (i : Int)
end
/-! ### value.Check -/
def checkV (v : Val) : Int := if formedV v then (if shortV v then (if 16 < depV v then 2 else if 4096 < sizV v then 2 else 0) else 2) else 40
/-! ### value.Equal, Cmp -/
noncomputable def eqV (a b : Val) : Bool := @decide (a = b) (Classical.propDecidable _)
noncomputable def eqVs (a b : List Val) : Bool := @decide (a = b) (Classical.propDecidable _)
def cmpZ (a b : Int) : Int := if a < b then -1 else if b < a then 1 else 0
def cmpS (a b : ByteArray) : Int := Lib.compareBytes a.data.toList b.data.toList
def zer (i : Int) : ByteArray := ⟨(List.replicate i.toNat (48 : UInt8)).toArray⟩
def levX (e e' : Int) : Int := if e' < e then e' else e
def levP (d : ByteArray) (e x : Int) : ByteArray := d ++ zer (wrap (e - x))
def levQ (p q : ByteArray) : ByteArray := zer (if wrap ((q.size : Int) - p.size) > 0 then wrap ((q.size : Int) - p.size) else 0) ++ p
def numcmpV (ng : Bool) (d : ByteArray) (e : Int) (ng' : Bool) (d' : ByteArray) (e' : Int) : Int × Int :=
  if ¬ numV ng d e = 0 then (0, 10) else if ¬ numV ng' d' e' = 0 then (0, 10) else
  if ng = ng' ∧ d = d' ∧ e = e' then (0, 0) else if ng = true ∧ ng' = false then (-1, 0) else if ng = false ∧ ng' = true then (1, 0) else
  let p := levP d e (levX e e'); let q := levP d' e' (levX e e'); let p := levQ p q; let q := levQ q p
  (if ng then wrap (-(cmpS p q)) else cmpS p q, 0)
def rowsG {α : Type} (c : α → α → Int) : List α → List α → Int
  | [], [] => 0
  | [], _ :: _ => -1
  | _ :: _, [] => 1
  | x :: r, y :: t => if c x y = 0 then rowsG c r t else c x y
def pairC (c : Val → Val → Int) (p q : ByteArray × Val) : Int := if cmpS p.1 q.1 = 0 then c p.2 q.2 else cmpS p.1 q.1
mutual
def hgt : Val → Nat
  | .mk _ _ _ _ _ _ _ _ l => hgts l + 1
def hgts : List Val → Nat
  | [] => 0
  | v :: r => max (hgt v) (hgts r)
end
def orderF : Nat → Val → Val → Int
  | 0, _, _ => 0
  | n + 1, a, b =>
    if a.kind < b.kind then -1 else if b.kind < a.kind then 1 else
    if a.kind = 2 then (if a.flag = b.flag then 0 else if b.flag then -1 else 1)
    else if a.kind = 3 then (numcmpV a.neg a.dig a.exp b.neg b.dig b.exp).1
    else if a.kind = 4 then cmpZ a.bits b.bits
    else if a.kind = 5 then cmpS a.text b.text
    else if a.kind = 6 then cmpS a.text b.text
    else if a.kind = 8 then rowsG (pairC (orderF n)) (a.names.zip a.list) (b.names.zip b.list)
    else if a.kind = 9 then (if cmpS a.text b.text = 0 then rowsG (orderF n) a.list b.list else cmpS a.text b.text)
    else rowsG (orderF n) a.list b.list
def orderV (a b : Val) : Int := orderF (hgt a) a b
def vcmpV (a b : Val) : Int × Int := if ¬ checkV a = 0 then (0, checkV a) else if ¬ checkV b = 0 then (0, checkV b) else (orderV a b, 0)
/-- What stands in an order. -/
def good (v : Val) : Bool := formedV v && shortV v
/-! ### calamuskeep -/
def partsN (most : Int) : Int → List ByteArray → Int
  | n, [] => n
  | n, s :: r => if n ≤ most then partsN most (wrap (n + s.size)) r else n
mutual
def partsV (most : Int) : Int → Int → Val → Int
  | n, within, .mk k f ng d e b t ns l =>
    if within > 300 then wrap (most + 1) else partsL most within (partsN most (wrap (wrap (wrap (wrap (n + 1) + t.size) + d.size) + ns.length)) ns) l
def partsL (most : Int) (within : Int) : Int → List Val → Int
  | n, [] => n
  | n, v :: r => if n ≤ most then partsL most within (partsV most n (wrap (within + 1)) v) r else n
end
mutual
def manyV : Val → Bool
  | .mk k f ng d e b t ns l => if (ns.length : Int) > 2000 then true else manyL l
def manyL : List Val → Bool
  | [] => false
  | v :: r => if manyV v then true else manyL r
end

noncomputable def phi (n : Nat) (g : Nat) (ds : List D) : D :=
  let d0 := ds.getD 0 .nil
  let d1 := ds.getD 1 .nil
  match g with
  | 0 => iD (depV d0.val1)
  | 1 => iD (sizV d0.val1)
  | 2 => bD (formedV d0.val1)
  | 3 => iD (formedL d0.vals 0)
  | 4 => bD (namesV (.lst []) d0.strs)
  | 5 => iD (numV (d0.cells.getD 0 .nil).bool (d0.cells.getD 1 .nil).str (d0.cells.getD 2 .nil).int)
  | 6 => sD (trimV d0.str d1.str)
  | 7 => bD (validV d0.str)
  | 8 => bD (shortV d0.val1)
  | 9 => iD (ixL (fun s : ByteArray => decide ((s.size : Int) > 64)) d0.strs 0)
  | 10 => iD (shortL d0.vals 0)
  | 11 => iD (partsV (ds.getD 2 .nil).int d1.int (ds.getD 3 .nil).int d0.val1)
  | 12 => bD (manyV d0.val1)
  | 13 => iD (checkV d0.val1)
  | 14 => bD true
  | 15 => bD true
  | 16 => bD (decide (d0.strs = d1.strs))
  | 17 => bD (eqV d0.val1 d1.val1)
  | 18 => bD (eqVs d0.vals d1.vals)
  | 19 => iD (cmpS d0.str d1.str)
  | 20 => sD (zer d1.int)
  | 21 =>
    let x := levX (d0.cells.getD 2 .nil).int (d1.cells.getD 2 .nil).int
    let p := levP (d0.cells.getD 1 .nil).str (d0.cells.getD 2 .nil).int x
    let q := levP (d1.cells.getD 1 .nil).str (d1.cells.getD 2 .nil).int x
    .row [sD (levQ p q), sD (levQ q (levQ p q)), iD x]
  | 22 =>
    let r := numcmpV (d0.cells.getD 0 .nil).bool (d0.cells.getD 1 .nil).str (d0.cells.getD 2 .nil).int (d1.cells.getD 0 .nil).bool (d1.cells.getD 1 .nil).str (d1.cells.getD 2 .nil).int
    .row [iD r.1, iD r.2]
  | 23 => pairsD (d0.val1.names.zip d0.val1.list)
  | 24 => iD (orderV d0.val1 d1.val1)
  | 25 => iD (rowsG orderV d0.vals d1.vals)
  | 26 => iD (rowsG (pairC orderV) d0.pairs d1.pairs)
  | 27 => .row [iD (vcmpV d0.val1 d1.val1).1, iD (vcmpV d0.val1 d1.val1).2]
  | 28 => bD true
  | 29 => bD true
  | 2020 => bD (decide (0 ≤ d1.int ∧ d1.int ≤ 1000000))
  | 2021 => bD (decide ((d0.cells.getD 1 .nil).str.size ≤ 40 ∧ (d1.cells.getD 1 .nil).str.size ≤ 40 ∧ -400 ≤ (d0.cells.getD 2 .nil).int ∧ (d0.cells.getD 2 .nil).int ≤ 400 ∧ -400 ≤ (d1.cells.getD 2 .nil).int ∧ (d1.cells.getD 2 .nil).int ≤ 400))
  | 2023 => bD (decide (d0.val1.names.length = d0.val1.list.length ∧ d0.val1.list.length ≤ 256))
  | 2024 => bD (good d0.val1 && good d1.val1)
  | 2025 => bD (d0.vals.all good && d1.vals.all good)
  | 2026 => bD ((d0.pairs.all fun p => good p.2) && (d1.pairs.all fun p => good p.2))
  | 1000 => bD (@decide (okD n ds) (Classical.propDecidable _))
  | _ => .nil
@[instance_reducible] noncomputable def I (n : Nat) : Interp := ⟨phi n⟩
theorem hphi (n : Nat) (ds : List D) (h : @Interp.phi (I n) 1000 ds = .v (.bool true)) : okD n ds := by
  have h : D.v (.bool (@decide (okD n ds) (Classical.propDecidable _))) = .v (.bool true) := h
  simp only [D.v.injEq, Value.bool.injEq, decide_eq_true_eq] at h
  exact h
theorem phi_irrel {n m g : Nat} (hg : g ≠ 1000) (ds : List D) : phi n g ds = phi m g ds := by
  unfold phi
  simp only
  split <;> first | rfl | exact absurd rfl hg
/-- A contract does not hang on how far the facts reach. -/
theorem ok_irrel {n m : Nat} {q : Sig} {pre : List D → Prop} (hg : q.g ≠ 1000) (h : @Ok (I n) q pre) : @Ok (I m) q pre := by
  intro W J vs ds hL hI ha hp
  refine (h W J vs ds hL hI ha hp).mono ?_
  rintro e W' ⟨v, h1, h2, h3⟩
  refine ⟨v, h1, h2, ?_⟩
  have : @Interp.phi (I m) q.g ds = @Interp.phi (I n) q.g ds := phi_irrel hg ds
  rw [this]; exact h3
theorem ok_zero {n : Nat} {q : Sig} : @Ok (I n) q (okD 0) := fun W J vs ds hL hI ha hp => absurd hp.1 (Nat.not_lt_zero _)
theorem phi_1000 {n : Nat} {ds : List D} : (@Interp.phi (I n) 1000 ds = .v (.bool true)) ↔ okD n ds := by
  show (D.v (.bool (@decide (okD n ds) (Classical.propDecidable _))) = .v (.bool true)) ↔ _
  simp only [D.v.injEq, Value.bool.injEq, decide_eq_true_eq]
theorem phi_ok {n : Nat} {ds : List D} (h : okD n ds) : @Interp.phi (I n) 1000 ds = .v (.bool true) := by
  show D.v (.bool (@decide (okD n ds) (Classical.propDecidable _))) = .v (.bool true)
  rw [@decide_eq_true _ (Classical.propDecidable _) h]
section
variable (n : Nat)
theorem phi_depth (v : Val) : @Interp.phi (I n) 0 [v.toD] = iD (depV v) := by show iD (depV v.toD.val1) = _; rw [val1_toD]
theorem phi_size (v : Val) : @Interp.phi (I n) 1 [v.toD] = iD (sizV v) := by show iD (sizV v.toD.val1) = _; rw [val1_toD]
theorem phi_formed (v : Val) : @Interp.phi (I n) 2 [v.toD] = bD (formedV v) := by show bD (formedV v.toD.val1) = _; rw [val1_toD]
theorem phi_ixformed (l : List Val) (d : D) : @Interp.phi (I n) 3 [valsD l, d] = iD (formedL l 0) := by show iD (formedL (valsD l).vals 0) = _; rw [vals_valsD]
theorem phi_names (l : List ByteArray) : @Interp.phi (I n) 4 [strsD l] = bD (namesV (.lst []) l) := by show bD (namesV _ (strsD l).strs) = _; rw [strs_strsD]
theorem phi_numcheck (a : Bool) (b : ByteArray) (c : Int) : @Interp.phi (I n) 5 [.row [bD a, sD b, iD c]] = iD (numV a b c) := rfl
theorem phi_trim (a b : ByteArray) : @Interp.phi (I n) 6 [sD a, sD b] = sD (trimV a b) := rfl
theorem phi_valid (a : ByteArray) : @Interp.phi (I n) 7 [sD a] = bD (validV a) := rfl
theorem phi_short (v : Val) : @Interp.phi (I n) 8 [v.toD] = bD (shortV v) := by show bD (shortV v.toD.val1) = _; rw [val1_toD]
theorem phi_ixshort1 (l : List ByteArray) (d : D) : @Interp.phi (I n) 9 [strsD l, d] = iD (ixL (fun s : ByteArray => decide ((s.size : Int) > 64)) l 0) := by show iD (ixL _ (strsD l).strs 0) = _; rw [strs_strsD]
theorem phi_ixshort2 (l : List Val) (d : D) : @Interp.phi (I n) 10 [valsD l, d] = iD (shortL l 0) := by show iD (shortL (valsD l).vals 0) = _; rw [vals_valsD]
theorem phi_parts (v : Val) (a b c : Int) : @Interp.phi (I n) 11 [v.toD, iD a, iD b, iD c] = iD (partsV b a c v) := by show iD (partsV b a c v.toD.val1) = _; rw [val1_toD]
theorem phi_check (v : Val) : @Interp.phi (I n) 13 [v.toD] = iD (checkV v) := by show iD (checkV v.toD.val1) = _; rw [val1_toD]
theorem phi_awake : @Interp.phi (I n) 14 [] = bD true := rfl
theorem phi_grows (ds : List D) : @Interp.phi (I n) 15 ds = bD true := rfl
theorem phi_many (v : Val) : @Interp.phi (I n) 12 [v.toD] = bD (manyV v) := by show bD (manyV v.toD.val1) = _; rw [val1_toD]
theorem phi_eqstrs (a b : List ByteArray) : @Interp.phi (I n) 16 [strsD a, strsD b] = bD (decide (a = b)) := by show bD (decide ((strsD a).strs = (strsD b).strs)) = _; rw [strs_strsD, strs_strsD]
theorem phi_equal (a b : Val) : @Interp.phi (I n) 17 [a.toD, b.toD] = bD (eqV a b) := by show bD (eqV a.toD.val1 b.toD.val1) = _; rw [val1_toD, val1_toD]
theorem phi_eqvals (a b : List Val) (d : D) : @Interp.phi (I n) 18 [valsD a, valsD b, d] = bD (eqVs a b) := by show bD (eqVs (valsD a).vals (valsD b).vals) = _; rw [vals_valsD, vals_valsD]
theorem phi_scmp (a b : ByteArray) : @Interp.phi (I n) 19 [sD a, sD b] = iD (cmpS a b) := rfl
theorem phi_repeat (a : D) (i : Int) : @Interp.phi (I n) 20 [a, iD i] = sD (zer i) := rfl
theorem phi_level (a a' : Bool) (d d' : ByteArray) (e e' : Int) : @Interp.phi (I n) 21 [.row [bD a, sD d, iD e], .row [bD a', sD d', iD e']] = .row [sD (levQ (levP d e (levX e e')) (levP d' e' (levX e e'))), sD (levQ (levP d' e' (levX e e')) (levQ (levP d e (levX e e')) (levP d' e' (levX e e')))), iD (levX e e')] := rfl
theorem phi_numcmp (a a' : Bool) (d d' : ByteArray) (e e' : Int) : @Interp.phi (I n) 22 [.row [bD a, sD d, iD e], .row [bD a', sD d', iD e']] = .row [iD (numcmpV a d e a' d' e').1, iD (numcmpV a d e a' d' e').2] := rfl
theorem phi_pairs (v : Val) : @Interp.phi (I n) 23 [v.toD] = pairsD (v.names.zip v.list) := by show pairsD (v.toD.val1.names.zip v.toD.val1.list) = _; rw [val1_toD]
theorem phi_order (a b : Val) : @Interp.phi (I n) 24 [a.toD, b.toD] = iD (orderV a b) := by show iD (orderV a.toD.val1 b.toD.val1) = _; rw [val1_toD, val1_toD]
theorem phi_rowsV (a b : List Val) (d : D) : @Interp.phi (I n) 25 [valsD a, valsD b, d] = iD (rowsG orderV a b) := by show iD (rowsG orderV (valsD a).vals (valsD b).vals) = _; rw [vals_valsD, vals_valsD]
theorem phi_rowsP (a b : List (ByteArray × Val)) (d : D) : @Interp.phi (I n) 26 [pairsD a, pairsD b, d] = iD (rowsG (pairC orderV) a b) := by show iD (rowsG _ (pairsD a).pairs (pairsD b).pairs) = _; rw [pairs_pairsD, pairs_pairsD]
theorem phi_vcmp (a b : Val) : @Interp.phi (I n) 27 [a.toD, b.toD] = .row [iD (vcmpV a b).1, iD (vcmpV a b).2] := by show D.row [iD (vcmpV a.toD.val1 b.toD.val1).1, iD (vcmpV a.toD.val1 b.toD.val1).2] = _; rw [val1_toD, val1_toD]
theorem phi_lists (ds : List D) : @Interp.phi (I n) 28 ds = bD true := rfl
theorem phi_three (ds : List D) : @Interp.phi (I n) 29 ds = bD true := rfl
theorem pre_repeat (a : D) (i : Int) : (@Interp.phi (I n) 2020 [a, iD i] = .v (.bool true)) ↔ 0 ≤ i ∧ i ≤ 1000000 := by
  show (bD (decide (0 ≤ i ∧ i ≤ 1000000)) = _) ↔ _
  rw [bD_true, decide_eq_true_iff]
theorem pre_level (a a' : Bool) (d d' : ByteArray) (e e' : Int) : (@Interp.phi (I n) 2021 [.row [bD a, sD d, iD e], .row [bD a', sD d', iD e']] = .v (.bool true)) ↔ d.size ≤ 40 ∧ d'.size ≤ 40 ∧ -400 ≤ e ∧ e ≤ 400 ∧ -400 ≤ e' ∧ e' ≤ 400 := by
  show (bD (decide (d.size ≤ 40 ∧ d'.size ≤ 40 ∧ -400 ≤ e ∧ e ≤ 400 ∧ -400 ≤ e' ∧ e' ≤ 400)) = _) ↔ _
  rw [bD_true, decide_eq_true_iff]
theorem pre_pairs (v : Val) : (@Interp.phi (I n) 2023 [v.toD] = .v (.bool true)) ↔ v.names.length = v.list.length ∧ v.list.length ≤ 256 := by
  show (bD (decide (v.toD.val1.names.length = v.toD.val1.list.length ∧ v.toD.val1.list.length ≤ 256)) = _) ↔ _
  rw [bD_true, decide_eq_true_iff, val1_toD]
theorem pre_order (a b : Val) : (@Interp.phi (I n) 2024 [a.toD, b.toD] = .v (.bool true)) ↔ good a = true ∧ good b = true := by
  show (bD (good a.toD.val1 && good b.toD.val1) = _) ↔ _
  rw [bD_true, Bool.and_eq_true, val1_toD, val1_toD]
theorem pre_rowsV (a b : List Val) (d : D) : (@Interp.phi (I n) 2025 [valsD a, valsD b, d] = .v (.bool true)) ↔ (∀ x, x ∈ a → good x = true) ∧ ∀ x, x ∈ b → good x = true := by
  show (bD ((valsD a).vals.all good && (valsD b).vals.all good) = _) ↔ _
  rw [bD_true, Bool.and_eq_true, vals_valsD, vals_valsD, List.all_eq_true, List.all_eq_true]
theorem pre_rowsP (a b : List (ByteArray × Val)) (d : D) : (@Interp.phi (I n) 2026 [pairsD a, pairsD b, d] = .v (.bool true)) ↔ (∀ x, x ∈ a → good x.2 = true) ∧ ∀ x, x ∈ b → good x.2 = true := by
  show (bD (((pairsD a).pairs.all fun p => good p.2) && ((pairsD b).pairs.all fun p => good p.2)) = _) ↔ _
  rw [bD_true, Bool.and_eq_true, pairs_pairsD, pairs_pairsD, List.all_eq_true, List.all_eq_true]
end
end Go.Proofs.YtaeeblcdggjokaaDoor.Vk
