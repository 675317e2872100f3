/- What the functions come to, in plain Lean. -/
import Derived.Test.YtaeeblcdggjokaaDoorVkFn
import Derived.Test.YtaeeblcdggjokaaDoorVkTyp
import Derived.Lib.SlTrimSet
import Derived.Lib.ValidLaws
import Derived.Lib.Bytealg
namespace Go.Proofs.YtaeeblcdggjokaaDoor.Vk
open Go Go.Ab Go.RowKit
set_option maxRecDepth 100000
set_option linter.unusedVariables false
set_option linter.unusedSimpArgs false
set_option linter.unusedSectionVars false
set_option linter.constructorNameAsVariable false
abbrev wrap := IntKind.i64.wrap
def one : ByteArray := mkS [48]
def tenDigits : ByteArray := mkS [48, 49, 50, 51, 52, 53, 54, 55, 56, 57]

/-! ### value.Depth, Size -/
mutual
def depV : Val → Int
  | .mk _ _ _ _ _ _ _ _ l => wrap (depL 0 l + 1)
def depL : Int → List Val → Int
  | acc, [] => acc
  | acc, v :: r => depL (if depV v > acc then depV v else acc) r
end
mutual
def sizV : Val → Int
  | .mk _ _ _ _ _ _ _ _ l => sizL 1 l
def sizL : Int → List Val → Int
  | acc, [] => acc
  | acc, v :: r => sizL (wrap (acc + sizV v)) r
end
/-! ### num.Check -/
def trimV (s c : ByteArray) : ByteArray := ⟨(Lib.trimS s.data.toList c.data.toList).toArray⟩
def validV (s : ByteArray) : Bool := Lib.validD s.data.toList
def numV (neg : Bool) (d : ByteArray) (e : Int) : Int :=
  if neg = false ∧ d = one ∧ e = 0 then 0 else
  if d = ByteArray.empty then 10 else
  if ¬ trimV d tenDigits = ByteArray.empty then 10 else
  if 40 < (d.size : Int) then 10 else
  if (d.data.toList.getD 0 0).toNat = 48 then 10 else
  if d.extract (d.size - 1) d.size = one then 10 else
  if e < -400 then 10 else if 400 < e then 10 else 0
/-! ### value.names -/
def namesV (seen : D) : List ByteArray → Bool
  | [] => true
  | s :: r => if ((mfind (sD s) seen.rows).getD (bD false)).bool then false else if validV s then namesV (.lst (mput (sD s) (bD true) seen.rows)) r else false
/-! ### slices.IndexFunc -/
def ixL {α : Type} (p : α → Bool) : List α → Nat → Int
  | [], _ => -1
  | x :: r, i => if p x then (i : Int) else ixL p r (i + 1)
/-! ### value.formed, short -/
mutual
def formedV : Val → Bool
  | .mk k f ng d e b t ns l =>
    if k = 1 then !f && (ng == false && eqS d .empty && eqI e 0) && eqI b 0 && eqS t .empty && ns.length == 0 && l.length == 0
    else if k = 2 then (ng == false && eqS d .empty && eqI e 0) && eqI b 0 && eqS t .empty && ns.length == 0 && l.length == 0
    else if k = 3 then eqI (numV ng d e) 0 && !f && eqI b 0 && eqS t .empty && ns.length == 0 && l.length == 0
    else if k = 4 then !f && (ng == false && eqS d .empty && eqI e 0) && eqS t .empty && ns.length == 0 && l.length == 0
    else if k = 5 then validV t && !f && (ng == false && eqS d .empty && eqI e 0) && eqI b 0 && ns.length == 0 && l.length == 0
    else if k = 6 then !f && (ng == false && eqS d .empty && eqI e 0) && eqI b 0 && ns.length == 0 && l.length == 0
    else if k = 7 then !f && (ng == false && eqS d .empty && eqI e 0) && eqI b 0 && eqS t .empty && ns.length == 0 && ltI (formedL l 0) 0
    else if k = 8 then ns.length == l.length && namesV (.lst []) ns && !f && (ng == false && eqS d .empty && eqI e 0) && eqI b 0 && eqS t .empty && ltI (formedL l 0) 0
    else if k = 9 then l.length == 1 && validV t && !f && (ng == false && eqS d .empty && eqI e 0) && eqI b 0 && ns.length == 0 && ltI (formedL l 0) 0
    else false
def formedL : List Val → Nat → Int
  | [], _ => -1
  | v :: r, i => if formedV v then formedL r (i + 1) else (i : Int)
end
/-- What is looked at of a value by its kind. -/
theorem formedV_iff (k : Int) (f ng : Bool) (d : ByteArray) (e b : Int) (t : ByteArray) (ns : List ByteArray) (l : List Val) :
    (k = 1 → (formedV (.mk k f ng d e b t ns l) = true ↔ f = false ∧ (ng = false ∧ d = .empty ∧ e = 0) ∧ b = 0 ∧ t = .empty ∧ ns.length = 0 ∧ l.length = 0)) ∧
    (k = 2 → (formedV (.mk k f ng d e b t ns l) = true ↔ (ng = false ∧ d = .empty ∧ e = 0) ∧ b = 0 ∧ t = .empty ∧ ns.length = 0 ∧ l.length = 0)) ∧
    (k = 3 → (formedV (.mk k f ng d e b t ns l) = true ↔ numV ng d e = 0 ∧ f = false ∧ b = 0 ∧ t = .empty ∧ ns.length = 0 ∧ l.length = 0)) ∧
    (k = 4 → (formedV (.mk k f ng d e b t ns l) = true ↔ f = false ∧ (ng = false ∧ d = .empty ∧ e = 0) ∧ t = .empty ∧ ns.length = 0 ∧ l.length = 0)) ∧
    (k = 5 → (formedV (.mk k f ng d e b t ns l) = true ↔ validV t = true ∧ f = false ∧ (ng = false ∧ d = .empty ∧ e = 0) ∧ b = 0 ∧ ns.length = 0 ∧ l.length = 0)) ∧
    (k = 6 → (formedV (.mk k f ng d e b t ns l) = true ↔ f = false ∧ (ng = false ∧ d = .empty ∧ e = 0) ∧ b = 0 ∧ ns.length = 0 ∧ l.length = 0)) ∧
    (k = 7 → (formedV (.mk k f ng d e b t ns l) = true ↔ f = false ∧ (ng = false ∧ d = .empty ∧ e = 0) ∧ b = 0 ∧ t = .empty ∧ ns.length = 0 ∧ formedL l 0 < 0)) ∧
    (k = 8 → (formedV (.mk k f ng d e b t ns l) = true ↔ ns.length = l.length ∧ namesV (.lst []) ns = true ∧ f = false ∧ (ng = false ∧ d = .empty ∧ e = 0) ∧ b = 0 ∧ t = .empty ∧ formedL l 0 < 0)) ∧
    (k = 9 → (formedV (.mk k f ng d e b t ns l) = true ↔ l.length = 1 ∧ validV t = true ∧ f = false ∧ (ng = false ∧ d = .empty ∧ e = 0) ∧ b = 0 ∧ ns.length = 0 ∧ formedL l 0 < 0)) ∧
    (k ≠ 1 → k ≠ 2 → k ≠ 3 → k ≠ 4 → k ≠ 5 → k ≠ 6 → k ≠ 7 → k ≠ 8 → k ≠ 9 → formedV (.mk k f ng d e b t ns l) = false) := by
  refine ⟨?_, ?_, ?_, ?_, ?_, ?_, ?_, ?_, ?_, ?_⟩
  all_goals intros
  all_goals (try subst k)
  all_goals simp [formedV, eqI_t, eqS_t, ltI_t, and_assoc, *]
theorem formedL_nil : formedL [] 0 = -1 := by rw [formedL]
mutual
def shortV : Val → Bool
  | .mk k f ng d e b t ns l =>
    if (t.size : Int) > (if k = 9 then 64 else 4096) then false
    else if (l.length : Int) > 256 then false
    else if ixL (fun s : ByteArray => decide ((s.size : Int) > 64)) ns 0 ≥ 0 then false
    else !(decide (shortL l 0 ≥ 0))
def shortL : List Val → Nat → Int
  | [], _ => -1
  | v :: r, i => if shortV v then shortL r (i + 1) else (i : Int)
end
/-! ### value.Check -/
def checkV (v : Val) : Int := if formedV v then (if shortV v then (if 16 < depV v then 2 else if 4096 < sizV v then 2 else 0) else 2) else 40
/-! ### value.Equal, Cmp -/
noncomputable def eqV (a b : Val) : Bool := @decide (a = b) (Classical.propDecidable _)
noncomputable def eqVs (a b : List Val) : Bool := @decide (a = b) (Classical.propDecidable _)
def cmpZ (a b : Int) : Int := if a < b then -1 else if b < a then 1 else 0
def cmpS (a b : ByteArray) : Int := Lib.compareBytes a.data.toList b.data.toList
def zer (i : Int) : ByteArray := ⟨(List.replicate i.toNat (48 : UInt8)).toArray⟩
def levX (e e' : Int) : Int := if e' < e then e' else e
def levP (d : ByteArray) (e x : Int) : ByteArray := d ++ zer (wrap (e - x))
def levQ (p q : ByteArray) : ByteArray := zer (if wrap ((q.size : Int) - p.size) > 0 then wrap ((q.size : Int) - p.size) else 0) ++ p
def numcmpV (ng : Bool) (d : ByteArray) (e : Int) (ng' : Bool) (d' : ByteArray) (e' : Int) : Int × Int :=
  if ¬ numV ng d e = 0 then (0, 10) else if ¬ numV ng' d' e' = 0 then (0, 10) else
  if ng = ng' ∧ d = d' ∧ e = e' then (0, 0) else if ng = true ∧ ng' = false then (-1, 0) else if ng = false ∧ ng' = true then (1, 0) else
  let p := levP d e (levX e e'); let q := levP d' e' (levX e e'); let p := levQ p q; let q := levQ q p
  (if ng then wrap (-(cmpS p q)) else cmpS p q, 0)
def rowsG {α : Type} (c : α → α → Int) : List α → List α → Int
  | [], [] => 0
  | [], _ :: _ => -1
  | _ :: _, [] => 1
  | x :: r, y :: t => if c x y = 0 then rowsG c r t else c x y
def pairC (c : Val → Val → Int) (p q : ByteArray × Val) : Int := if cmpS p.1 q.1 = 0 then c p.2 q.2 else cmpS p.1 q.1
mutual
def hgt : Val → Nat
  | .mk _ _ _ _ _ _ _ _ l => hgts l + 1
def hgts : List Val → Nat
  | [] => 0
  | v :: r => max (hgt v) (hgts r)
end
def orderF : Nat → Val → Val → Int
  | 0, _, _ => 0
  | n + 1, a, b =>
    if a.kind < b.kind then -1 else if b.kind < a.kind then 1 else
    if a.kind = 2 then (if a.flag = b.flag then 0 else if b.flag then -1 else 1)
    else if a.kind = 3 then (numcmpV a.neg a.dig a.exp b.neg b.dig b.exp).1
    else if a.kind = 4 then cmpZ a.bits b.bits
    else if a.kind = 5 then cmpS a.text b.text
    else if a.kind = 6 then cmpS a.text b.text
    else if a.kind = 8 then rowsG (pairC (orderF n)) (a.names.zip a.list) (b.names.zip b.list)
    else if a.kind = 9 then (if cmpS a.text b.text = 0 then rowsG (orderF n) a.list b.list else cmpS a.text b.text)
    else rowsG (orderF n) a.list b.list
def orderV (a b : Val) : Int := orderF (hgt a) a b
def vcmpV (a b : Val) : Int × Int := if ¬ checkV a = 0 then (0, checkV a) else if ¬ checkV b = 0 then (0, checkV b) else (orderV a b, 0)
/-- What stands in an order. -/
def good (v : Val) : Bool := formedV v && shortV v
/-! ### The references -/
def digV (s : ByteArray) : Bool := (s.data.toList.all fun c => decide (48 ≤ c.toNat ∧ c.toNat ≤ 57)) && decide (s.data.toList ≠ [])
def plainV (v : Val) : Bool := decide (1 ≤ v.kind ∧ v.kind ≤ 9 ∧ (v.kind ≠ 2 → v.flag = false) ∧ (v.kind ≠ 3 → v.neg = false ∧ v.dig = .empty ∧ v.exp = 0) ∧ (v.kind ≠ 4 → v.bits = 0) ∧ (v.kind ≠ 5 → v.kind ≠ 6 → v.kind ≠ 9 → v.text = .empty) ∧ (v.kind ≠ 8 → v.names.length = 0) ∧ (v.kind < 7 → v.list.length = 0))
def ownV (v : Val) : Bool :=
  if v.kind = 3 then decide (numV v.neg v.dig v.exp = 0) else
  if v.kind = 5 then validV v.text else
  if v.kind = 9 then validV v.text && decide (v.list.length = 1) else
  if v.kind = 8 then v.names.all validV && decide (v.names.length = v.list.length) && decide v.names.Nodup else true
def numbV (s : ByteArray) (n : Int) : Int :=
  if n = 1 then ((s.data.toList.getD 0 0).toNat : Int) else
  ((s.data.toList.take n.toNat).drop 1).foldl (fun a c => wrap (wrap (64 * a) + (c.toNat : Int).tmod 64)) (((s.data.toList.getD 0 0).toNat : Int).tmod ((128 : Int).fdiv (2 ^ (min n.toNat 64))))
def c8 (i : Int) : UInt8 := UInt8.ofNat (IntKind.u8.wrap i).toNat
def encV (r : Int) : ByteArray :=
  if r < 128 then ⟨#[c8 r]⟩ else
  if r < 2048 then ⟨#[c8 (wrap (192 + wrap (r.tdiv 64))), c8 (wrap (128 + r.tmod 64))]⟩ else
  if r < 65536 then ⟨#[c8 (wrap (224 + wrap (r.tdiv 4096))), c8 (wrap (128 + (wrap (r.tdiv 64)).tmod 64)), c8 (wrap (128 + r.tmod 64))]⟩ else
  ⟨#[c8 (wrap (240 + wrap (r.tdiv 262144))), c8 (wrap (128 + (wrap (r.tdiv 4096)).tmod 64)), c8 (wrap (128 + (wrap (r.tdiv 64)).tmod 64)), c8 (wrap (128 + r.tmod 64))]⟩
def longV (c : Nat) : Int := if c < 128 then 1 else if 192 ≤ c ∧ c < 224 then 2 else if 224 ≤ c ∧ c < 240 then 3 else if 240 ≤ c ∧ c < 248 then 4 else 0
def isR (r : Int) : Bool := decide (0 ≤ r ∧ r ≤ 1114111 ∧ (r < 55296 ∨ 57343 < r))
def headOk (t : ByteArray) (n : Int) : Bool := isR (numbV t n) && decide (encV (numbV t n) = t.extract 0 n.toNat)
def padV (t : ByteArray) (n : Nat) (c : UInt8) : ByteArray := t ++ ⟨(List.replicate (n - t.size) c).toArray⟩
def chkV (s : ByteArray) (n r : Int) : Bool := isR r && (decide ((encV r).extract 0 (min s.size (encV r).size) = s) && decide (((encV r).size : Int) = n))
def leastV (n : Nat) : Int := [0, 0, 128, 2048, 65536].getD n 0
def beginsV (s : ByteArray) : Bool :=
  let n := longV (s.data.toList.getD 0 0).toNat
  if n ≤ s.size then false else
  let a := numbV (padV s n.toNat 128) n
  let b := numbV (padV s n.toNat 191) n
  if chkV s n a then true else if chkV s n b then true else
  decide (a ≤ leastV n.toNat) && (decide (leastV n.toNat ≤ b) && decide ((encV (leastV n.toNat)).extract 0 s.size = s))
def decV (s : ByteArray) (i : Int) : Int × Int × Int :=
  if i < 0 then (0, 0, 1) else if (s.size : Int) ≤ i then (0, 0, 1) else
  let t := s.extract i.toNat s.size
  let n := longV (t.data.toList.getD 0 0).toNat
  if 0 < n ∧ n ≤ t.size ∧ headOk t n = true then (numbV t n, n, 0) else if (t.size : Int) < n ∧ beginsV t = true then (0, 0, 31) else (0, 0, 30)
def countF : Nat → ByteArray → Int → Int → Int × Int
  | 0, _, c, _ => (c, 0)
  | k + 1, s, c, i => if i < s.size then (if (decV s i).2.2 = 0 then countF k s (wrap (c + 1)) (wrap (i + (decV s i).2.1)) else (0, (decV s i).2.2)) else (c, 0)
/-! ### calamuskeep -/
def partsN (most : Int) : Int → List ByteArray → Int
  | n, [] => n
  | n, s :: r => if n ≤ most then partsN most (wrap (n + s.size)) r else n
mutual
def partsV (most : Int) : Int → Int → Val → Int
  | n, within, .mk k f ng d e b t ns l =>
    if within > 300 then wrap (most + 1) else partsL most within (partsN most (wrap (wrap (wrap (wrap (n + 1) + t.size) + d.size) + ns.length)) ns) l
def partsL (most : Int) (within : Int) : Int → List Val → Int
  | n, [] => n
  | n, v :: r => if n ≤ most then partsL most within (partsV most n (wrap (within + 1)) v) r else n
end
mutual
def manyV : Val → Bool
  | .mk k f ng d e b t ns l => if (ns.length : Int) > 2000 then true else manyL l
def manyL : List Val → Bool
  | [] => false
  | v :: r => if manyV v then true else manyL r
end
/-! ### types -/
def idxI (s : ByteArray) : List ByteArray → Nat → Int
  | [], _ => -1
  | x :: r, i => if s = x then (i : Int) else idxI s r (i + 1)
def placesL : List ByteArray → Nat → List D → List D
  | [], _, m => m
  | s :: r, i, m => placesL r (i + 1) (mput (sD s) (iD i) m)
mutual
def formedT : Typ → Bool
  | .mk k ns l =>
    if k = 9 then ns.length == 0 && l.length == 1 && ltI (formedTL l 0) 0
    else if k = 10 ∨ k = 11 then ns.length == l.length && decide ns.Nodup && ltI (ixL (fun s => !validV s) ns 0) 0 && ltI (formedTL l 0) 0
    else decide (1 ≤ k ∧ k ≤ 8) && ns.length == 0 && l.length == 0
def formedTL : List Typ → Nat → Int
  | [], _ => -1
  | t :: r, i => if formedT t then formedTL r (i + 1) else (i : Int)
end
mutual
def spanT : Typ → Int × Int × Bool
  | .mk k ns l =>
    let s := spanTL l (0, 1, if (l.length : Int) ≤ 256 then !decide (ixL (fun s : ByteArray => decide ((s.size : Int) > 64)) ns 0 ≥ 0) else false)
    (wrap (s.1 + 1), s.2.1, s.2.2)
def spanTL : List Typ → Int × Int × Bool → Int × Int × Bool
  | [], acc => acc
  | t :: r, acc => spanTL r (if (spanT t).1 > acc.1 then (spanT t).1 else acc.1, wrap (acc.2.1 + (spanT t).2.1), acc.2.2 && (spanT t).2.2)
end
def checkT (t : Typ) : Int := if formedT t then (if (spanT t).2.2 then (if (spanT t).1 > 16 then 2 else if (spanT t).2.1 > 4096 then 2 else 0) else 2) else 110
mutual
def hgtT : Typ → Nat
  | .mk _ _ l => hgtTs l + 1
def hgtTs : List Typ → Nat
  | [] => 0
  | v :: r => max (hgtT v) (hgtTs r)
end
def kindsT (k : Int) : Int := [0, 0, 1, 2, 3, 3, 4, 5, 6].getD k.toNat 0
def optB {α : Type} (o : Option α) (f : α → Bool) : Bool := match o with | some x => f x | none => false
def hasF : Nat → Typ → Val → Bool
  | 0, _, _ => false
  | n + 1, t, v =>
    if t.kind = 1 then true
    else if t.kind = 9 then decide (v.kind = 7) && optB t.list[0]? fun x => v.list.all (hasF n x)
    else if t.kind = 10 then decide (v.kind = 8) && decide (v.names = t.names) && (t.list.zip v.list).all fun p => hasF n p.1 p.2
    else if t.kind = 11 then decide (v.kind = 9) && (decide (0 ≤ idxI v.text t.names 0) && optB t.list[(idxI v.text t.names 0).toNat]? fun x => optB v.list[0]? (hasF n x))
    else decide (v.kind = kindsT t.kind) && (decide (t.kind ≠ 5) || decide (v.exp ≥ 0))
def hasT (t : Typ) (v : Val) : Bool := hasF (hgtT t) t v
def subF : Nat → Typ → Typ → Bool
  | 0, _, _ => false
  | n + 1, a, b =>
    if b.kind = 1 ∨ (a.kind = 5 ∧ b.kind = 4) then true
    else if a.kind ≠ b.kind then false
    else if a.kind = 11 then (a.names.zip a.list).all fun p => decide (0 ≤ idxI p.1 b.names 0) && optB b.list[(idxI p.1 b.names 0).toNat]? (subF n p.2)
    else decide (a.names = b.names) && (decide (a.list.length = b.list.length) && (a.list.zip b.list).all fun p => subF n p.1 p.2)
def subT (a b : Typ) : Bool := subF (hgtT a) a b
def HasT (t : Typ) (v : Val) : Bool × Int := if ¬ checkT t = 0 then (false, checkT t) else if ¬ checkV v = 0 then (false, checkV v) else (hasT t v, 0)
def SubT (a b : Typ) : Bool × Int := if ¬ checkT a = 0 then (false, checkT a) else if ¬ checkT b = 0 then (false, checkT b) else (subT a b, 0)
mutual
def partsT (most : Int) : Int → Int → Typ → Int
  | n, within, .mk k ns l => if within > 300 then wrap (most + 1) else partsTL most within (partsN most (wrap (wrap (n + 1) + ns.length)) ns) l
def partsTL (most : Int) (within : Int) : Int → List Typ → Int
  | n, [] => n
  | n, v :: r => if n ≤ most then partsTL most within (partsT most n (wrap (within + 1)) v) r else n
end
mutual
def wideT : Typ → Bool
  | .mk k ns l => if (ns.length : Int) > 1000 then true else wideTL l
def wideTL : List Typ → Bool
  | [] => false
  | v :: r => if wideT v then true else wideTL r
end
/-! ### What may be copied -/
mutual
def smallV : Val → Bool
  | .mk k f ng d e b t ns l => decide (ns.length ≤ 1000000) && decide (l.length ≤ 1000000) && smallL l
def smallL : List Val → Bool
  | [] => true
  | v :: r => smallV v && smallL r
end

noncomputable def phi (n : Nat) (g : Nat) (ds : List D) : D :=
  let d0 := ds.getD 0 .nil
  let d1 := ds.getD 1 .nil
  match g with
  | 0 => iD (depV d0.val1)
  | 1 => iD (sizV d0.val1)
  | 2 => bD (formedV d0.val1)
  | 3 => iD (formedL d0.vals 0)
  | 4 => bD (namesV (.lst []) d0.strs)
  | 5 => iD (numV (d0.cells.getD 0 .nil).bool (d0.cells.getD 1 .nil).str (d0.cells.getD 2 .nil).int)
  | 6 => sD (trimV d0.str d1.str)
  | 7 => bD (validV d0.str)
  | 8 => bD (shortV d0.val1)
  | 9 => iD (ixL (fun s : ByteArray => decide ((s.size : Int) > 64)) d0.strs 0)
  | 10 => iD (shortL d0.vals 0)
  | 11 => iD (partsV (ds.getD 2 .nil).int d1.int (ds.getD 3 .nil).int d0.val1)
  | 12 => bD (manyV d0.val1)
  | 13 => iD (checkV d0.val1)
  | 14 => bD true
  | 15 => bD true
  | 16 => bD (decide (d0.strs = d1.strs))
  | 17 => bD (eqV d0.val1 d1.val1)
  | 18 => bD (eqVs d0.vals d1.vals)
  | 19 => iD (cmpS d0.str d1.str)
  | 20 => sD (zer d1.int)
  | 21 =>
    let x := levX (d0.cells.getD 2 .nil).int (d1.cells.getD 2 .nil).int
    let p := levP (d0.cells.getD 1 .nil).str (d0.cells.getD 2 .nil).int x
    let q := levP (d1.cells.getD 1 .nil).str (d1.cells.getD 2 .nil).int x
    .row [sD (levQ p q), sD (levQ q (levQ p q)), iD x]
  | 22 =>
    let r := numcmpV (d0.cells.getD 0 .nil).bool (d0.cells.getD 1 .nil).str (d0.cells.getD 2 .nil).int (d1.cells.getD 0 .nil).bool (d1.cells.getD 1 .nil).str (d1.cells.getD 2 .nil).int
    .row [iD r.1, iD r.2]
  | 23 => pairsD (d0.val1.names.zip d0.val1.list)
  | 24 => iD (orderV d0.val1 d1.val1)
  | 25 => iD (rowsG orderV d0.vals d1.vals)
  | 26 => iD (rowsG (pairC orderV) d0.pairs d1.pairs)
  | 27 => .row [iD (vcmpV d0.val1 d1.val1).1, iD (vcmpV d0.val1 d1.val1).2]
  | 44 => iD (depV d0.val1)
  | 45 => iD (sizV d0.val1)
  | 46 => bD (shortV d0.val1)
  | 48 => bD (eqV d0.val1 d1.val1)
  | 40 => bD (decide d0.strs.Nodup)
  | 36 => bD (digV d0.str)
  | 30 => bD (validV d0.str)
  | 42 => bD (ownV d0.val1)
  | 41 => bD (plainV d0.val1)
  | 43 => bD (formedV d0.val1)
  | 47 => iD (checkV d0.val1)
  | 35 => iD (numbV d0.str d1.int)
  | 34 => sD (encV d0.int)
  | 37 => sD (zer d0.int)
  | 38 => bD (decide (cmpS d0.str d1.str = -1))
  | 39 => bD (decide ((numcmpV (d0.cells.getD 0 .nil).bool (d0.cells.getD 1 .nil).str (d0.cells.getD 2 .nil).int (d1.cells.getD 0 .nil).bool (d1.cells.getD 1 .nil).str (d1.cells.getD 2 .nil).int).1 = -1))
  | 33 => bD (beginsV d0.str)
  | 32 => .row [iD (decV d0.str d1.int).1, iD (decV d0.str d1.int).2.1, iD (decV d0.str d1.int).2.2]
  | 31 => .row [iD (countF (d0.str.size + 1) d0.str 0 0).1, iD (countF (d0.str.size + 1) d0.str 0 0).2]
  | 49 => bD (decide (orderV d0.val1 d1.val1 = -1))
  | 50 => .row [iD (vcmpV d0.val1 d1.val1).1, iD (vcmpV d0.val1 d1.val1).2]
  | 54 => iD (longV d0.int.toNat)
  | 55 => bD (isR d0.int)
  | 56 =>
    let x := levX (d0.cells.getD 2 .nil).int (d1.cells.getD 2 .nil).int
    let p := levP (d0.cells.getD 1 .nil).str (d0.cells.getD 2 .nil).int x
    let q := levP (d1.cells.getD 1 .nil).str (d1.cells.getD 2 .nil).int x
    .row [sD (levQ p q), sD (levQ q (levQ p q)), iD x]
  | 53 => bD true
  | 57 => .row [.lst (placesL d0.strs 0 [])]
  | 58 => bD (formedT d0.typ1)
  | 59 => iD (ixL (fun s => !validV s) d0.strs 0)
  | 60 => iD (formedTL d0.typs 0)
  | 61 => .row [iD (spanT d0.typ1).1, iD (spanT d0.typ1).2.1, bD (spanT d0.typ1).2.2]
  | 62 => iD (ixL (fun s : ByteArray => decide ((s.size : Int) > 64)) d0.strs 0)
  | 63 => iD (checkT d0.typ1)
  | 64 => bD (hasT d0.typ1 d1.val1)
  | 65 => iD (ixL (fun v => !optB (d1.cells.getD 0 .nil).typ1.list[0]? fun x => hasT x v) d0.vals 0)
  | 66 => iD (idxI d1.str d0.strs 0)
  | 67 => .row [bD (HasT d0.typ1 d1.val1).1, iD (HasT d0.typ1 d1.val1).2]
  | 68 => bD (subT d0.typ1 d1.typ1)
  | 69 => bD (decide (d0.typs.length = d1.typs.length) && (d0.typs.zip d1.typs).all fun p => subT p.1 p.2)
  | 70 => iD (if ¬ checkT d0.typ1 = 0 then checkT d0.typ1 else checkT d1.typ1)
  | 71 => .row [bD (SubT d0.typ1 d1.typ1).1, iD (SubT d0.typ1 d1.typ1).2]
  | 72 => iD (partsT (ds.getD 2 .nil).int d1.int (ds.getD 3 .nil).int d0.typ1)
  | 73 => bD (wideT d0.typ1)
  | 74 => bD true
  | 75 => bD true
  | 76 => bD true
  | 51 => d0.val1.toD
  | 52 => bD true
  | 28 => bD true
  | 29 => bD true
  | 2037 => bD (decide (0 ≤ d0.int ∧ d0.int ≤ 1000000))
  | 2038 => bD (decide (d0.str.size = d1.str.size))
  | 2049 => bD (good d0.val1 && good d1.val1)
  | 2033 => bD (decide (0 < d0.str.size))
  | 2039 => bD (decide (numV (d0.cells.getD 0 .nil).bool (d0.cells.getD 1 .nil).str (d0.cells.getD 2 .nil).int = 0 ∧ numV (d1.cells.getD 0 .nil).bool (d1.cells.getD 1 .nil).str (d1.cells.getD 2 .nil).int = 0))
  | 2035 => bD (decide (1 ≤ d1.int ∧ d1.int ≤ 4 ∧ d1.int ≤ d0.str.size))
  | 2043 => bD (decide (D.szL ds + 2 < n))
  | 2047 => bD (decide (D.szL ds + 4 < n))
  | 2050 => bD (decide (D.szL ds + 4 < n))
  | 2020 => bD (decide (0 ≤ d1.int ∧ d1.int ≤ 1000000))
  | 2021 => bD (decide ((d0.cells.getD 1 .nil).str.size ≤ 40 ∧ (d1.cells.getD 1 .nil).str.size ≤ 40 ∧ -400 ≤ (d0.cells.getD 2 .nil).int ∧ (d0.cells.getD 2 .nil).int ≤ 400 ∧ -400 ≤ (d1.cells.getD 2 .nil).int ∧ (d1.cells.getD 2 .nil).int ≤ 400))
  | 2056 => bD (decide ((d0.cells.getD 1 .nil).str.size ≤ 40 ∧ (d1.cells.getD 1 .nil).str.size ≤ 40 ∧ -400 ≤ (d0.cells.getD 2 .nil).int ∧ (d0.cells.getD 2 .nil).int ≤ 400 ∧ -400 ≤ (d1.cells.getD 2 .nil).int ∧ (d1.cells.getD 2 .nil).int ≤ 400))
  | 2051 => bD (smallV d0.val1)
  | 2064 => bD (formedT d0.typ1 && formedV d1.val1)
  | 2065 => bD (formedT (d1.cells.getD 0 .nil).typ1 && (decide ((d1.cells.getD 0 .nil).typ1.list.length = 1) && d0.vals.all formedV))
  | 2068 => bD (formedT d0.typ1 && formedT d1.typ1)
  | 2069 => bD (d0.typs.all formedT && d1.typs.all formedT)
  | 2023 => bD (decide (d0.val1.names.length = d0.val1.list.length ∧ d0.val1.list.length ≤ 256))
  | 2024 => bD (good d0.val1 && good d1.val1)
  | 2025 => bD (d0.vals.all good && d1.vals.all good)
  | 2026 => bD ((d0.pairs.all fun p => good p.2) && (d1.pairs.all fun p => good p.2))
  | 1000 => bD (@decide (okD n ds) (Classical.propDecidable _))
  | _ => .nil
@[instance_reducible] noncomputable def I (n : Nat) : Interp := ⟨phi n⟩
theorem hphi (n : Nat) (ds : List D) (h : @Interp.phi (I n) 1000 ds = .v (.bool true)) : okD n ds := by
  have h : D.v (.bool (@decide (okD n ds) (Classical.propDecidable _))) = .v (.bool true) := h
  simp only [D.v.injEq, Value.bool.injEq, decide_eq_true_eq] at h
  exact h
theorem phi_irrel {n m g : Nat} (hg : g < 1000) (ds : List D) : phi n g ds = phi m g ds := by
  unfold phi
  simp only
  split <;> first | rfl | (exfalso; omega)
/-- A contract does not hang on how far the facts reach. -/
theorem ok_irrel {n m : Nat} {q : Sig} {pre : List D → Prop} (hg : q.g < 1000) (h : @Ok (I n) q pre) : @Ok (I m) q pre := by
  intro W J vs ds hL hI ha hp
  refine (h W J vs ds hL hI ha hp).mono ?_
  rintro e W' ⟨v, h1, h2, h3⟩
  refine ⟨v, h1, h2, ?_⟩
  have : @Interp.phi (I m) q.g ds = @Interp.phi (I n) q.g ds := phi_irrel hg ds
  rw [this]; exact h3
theorem ok_zero {n : Nat} {q : Sig} : @Ok (I n) q (okD 0) := fun W J vs ds hL hI ha hp => absurd hp.1 (Nat.not_lt_zero _)
theorem okM_irrel {n m : Nat} {q : SigM} {pre : List D → Prop} (hg : q.g < 1000) (h : @OkM (I n) q pre) : @OkM (I m) q pre := by
  intro W J vs ds bs hL hI ha hn hd hp
  have e : @Interp.phi (I m) q.g ds = @Interp.phi (I n) q.g ds := phi_irrel hg ds
  rw [e]
  exact h W J vs ds bs hL hI ha hn hd hp
theorem phi_1000 {n : Nat} {ds : List D} : (@Interp.phi (I n) 1000 ds = .v (.bool true)) ↔ okD n ds := by
  show (D.v (.bool (@decide (okD n ds) (Classical.propDecidable _))) = .v (.bool true)) ↔ _
  simp only [D.v.injEq, Value.bool.injEq, decide_eq_true_eq]
theorem phi_ok {n : Nat} {ds : List D} (h : okD n ds) : @Interp.phi (I n) 1000 ds = .v (.bool true) := by
  show D.v (.bool (@decide (okD n ds) (Classical.propDecidable _))) = .v (.bool true)
  rw [@decide_eq_true _ (Classical.propDecidable _) h]
section
variable (n : Nat)
theorem phi_depth (v : Val) : @Interp.phi (I n) 0 [v.toD] = iD (depV v) := by show iD (depV v.toD.val1) = _; rw [val1_toD]
theorem phi_size (v : Val) : @Interp.phi (I n) 1 [v.toD] = iD (sizV v) := by show iD (sizV v.toD.val1) = _; rw [val1_toD]
theorem phi_formed (v : Val) : @Interp.phi (I n) 2 [v.toD] = bD (formedV v) := by show bD (formedV v.toD.val1) = _; rw [val1_toD]
theorem phi_ixformed (l : List Val) (d : D) : @Interp.phi (I n) 3 [valsD l, d] = iD (formedL l 0) := by show iD (formedL (valsD l).vals 0) = _; rw [vals_valsD]
theorem phi_names (l : List ByteArray) : @Interp.phi (I n) 4 [strsD l] = bD (namesV (.lst []) l) := by show bD (namesV _ (strsD l).strs) = _; rw [strs_strsD]
theorem phi_numcheck (a : Bool) (b : ByteArray) (c : Int) : @Interp.phi (I n) 5 [.row [bD a, sD b, iD c]] = iD (numV a b c) := rfl
theorem phi_trim (a b : ByteArray) : @Interp.phi (I n) 6 [sD a, sD b] = sD (trimV a b) := rfl
theorem phi_valid (a : ByteArray) : @Interp.phi (I n) 7 [sD a] = bD (validV a) := rfl
theorem phi_short (v : Val) : @Interp.phi (I n) 8 [v.toD] = bD (shortV v) := by show bD (shortV v.toD.val1) = _; rw [val1_toD]
theorem phi_ixshort1 (l : List ByteArray) (d : D) : @Interp.phi (I n) 9 [strsD l, d] = iD (ixL (fun s : ByteArray => decide ((s.size : Int) > 64)) l 0) := by show iD (ixL _ (strsD l).strs 0) = _; rw [strs_strsD]
theorem phi_ixshort2 (l : List Val) (d : D) : @Interp.phi (I n) 10 [valsD l, d] = iD (shortL l 0) := by show iD (shortL (valsD l).vals 0) = _; rw [vals_valsD]
theorem phi_parts (v : Val) (a b c : Int) : @Interp.phi (I n) 11 [v.toD, iD a, iD b, iD c] = iD (partsV b a c v) := by show iD (partsV b a c v.toD.val1) = _; rw [val1_toD]
theorem phi_check (v : Val) : @Interp.phi (I n) 13 [v.toD] = iD (checkV v) := by show iD (checkV v.toD.val1) = _; rw [val1_toD]
theorem phi_awake : @Interp.phi (I n) 14 [] = bD true := rfl
theorem phi_grows (ds : List D) : @Interp.phi (I n) 15 ds = bD true := rfl
theorem phi_many (v : Val) : @Interp.phi (I n) 12 [v.toD] = bD (manyV v) := by show bD (manyV v.toD.val1) = _; rw [val1_toD]
theorem phi_eqstrs (a b : List ByteArray) : @Interp.phi (I n) 16 [strsD a, strsD b] = bD (decide (a = b)) := by show bD (decide ((strsD a).strs = (strsD b).strs)) = _; rw [strs_strsD, strs_strsD]
theorem phi_equal (a b : Val) : @Interp.phi (I n) 17 [a.toD, b.toD] = bD (eqV a b) := by show bD (eqV a.toD.val1 b.toD.val1) = _; rw [val1_toD, val1_toD]
theorem phi_eqvals (a b : List Val) (d : D) : @Interp.phi (I n) 18 [valsD a, valsD b, d] = bD (eqVs a b) := by show bD (eqVs (valsD a).vals (valsD b).vals) = _; rw [vals_valsD, vals_valsD]
theorem phi_scmp (a b : ByteArray) : @Interp.phi (I n) 19 [sD a, sD b] = iD (cmpS a b) := rfl
theorem phi_repeat (a : D) (i : Int) : @Interp.phi (I n) 20 [a, iD i] = sD (zer i) := rfl
theorem phi_level (a a' : Bool) (d d' : ByteArray) (e e' : Int) : @Interp.phi (I n) 21 [.row [bD a, sD d, iD e], .row [bD a', sD d', iD e']] = .row [sD (levQ (levP d e (levX e e')) (levP d' e' (levX e e'))), sD (levQ (levP d' e' (levX e e')) (levQ (levP d e (levX e e')) (levP d' e' (levX e e')))), iD (levX e e')] := rfl
theorem phi_numcmp (a a' : Bool) (d d' : ByteArray) (e e' : Int) : @Interp.phi (I n) 22 [.row [bD a, sD d, iD e], .row [bD a', sD d', iD e']] = .row [iD (numcmpV a d e a' d' e').1, iD (numcmpV a d e a' d' e').2] := rfl
theorem phi_pairs (v : Val) : @Interp.phi (I n) 23 [v.toD] = pairsD (v.names.zip v.list) := by show pairsD (v.toD.val1.names.zip v.toD.val1.list) = _; rw [val1_toD]
theorem phi_order (a b : Val) : @Interp.phi (I n) 24 [a.toD, b.toD] = iD (orderV a b) := by show iD (orderV a.toD.val1 b.toD.val1) = _; rw [val1_toD, val1_toD]
theorem phi_rowsV (a b : List Val) (d : D) : @Interp.phi (I n) 25 [valsD a, valsD b, d] = iD (rowsG orderV a b) := by show iD (rowsG orderV (valsD a).vals (valsD b).vals) = _; rw [vals_valsD, vals_valsD]
theorem phi_rowsP (a b : List (ByteArray × Val)) (d : D) : @Interp.phi (I n) 26 [pairsD a, pairsD b, d] = iD (rowsG (pairC orderV) a b) := by show iD (rowsG _ (pairsD a).pairs (pairsD b).pairs) = _; rw [pairs_pairsD, pairs_pairsD]
theorem phi_vcmp (a b : Val) : @Interp.phi (I n) 27 [a.toD, b.toD] = .row [iD (vcmpV a b).1, iD (vcmpV a b).2] := by show D.row [iD (vcmpV a.toD.val1 b.toD.val1).1, iD (vcmpV a.toD.val1 b.toD.val1).2] = _; rw [val1_toD, val1_toD]
theorem phi_lists (ds : List D) : @Interp.phi (I n) 28 ds = bD true := rfl
theorem phi_three (ds : List D) : @Interp.phi (I n) 29 ds = bD true := rfl
theorem pre_repeat (a : D) (i : Int) : (@Interp.phi (I n) 2020 [a, iD i] = .v (.bool true)) ↔ 0 ≤ i ∧ i ≤ 1000000 := by
  show (bD (decide (0 ≤ i ∧ i ≤ 1000000)) = _) ↔ _
  rw [bD_true, decide_eq_true_iff]
theorem pre_level (a a' : Bool) (d d' : ByteArray) (e e' : Int) : (@Interp.phi (I n) 2021 [.row [bD a, sD d, iD e], .row [bD a', sD d', iD e']] = .v (.bool true)) ↔ d.size ≤ 40 ∧ d'.size ≤ 40 ∧ -400 ≤ e ∧ e ≤ 400 ∧ -400 ≤ e' ∧ e' ≤ 400 := by
  show (bD (decide (d.size ≤ 40 ∧ d'.size ≤ 40 ∧ -400 ≤ e ∧ e ≤ 400 ∧ -400 ≤ e' ∧ e' ≤ 400)) = _) ↔ _
  rw [bD_true, decide_eq_true_iff]
theorem pre_pairs (v : Val) : (@Interp.phi (I n) 2023 [v.toD] = .v (.bool true)) ↔ v.names.length = v.list.length ∧ v.list.length ≤ 256 := by
  show (bD (decide (v.toD.val1.names.length = v.toD.val1.list.length ∧ v.toD.val1.list.length ≤ 256)) = _) ↔ _
  rw [bD_true, decide_eq_true_iff, val1_toD]
theorem pre_order (a b : Val) : (@Interp.phi (I n) 2024 [a.toD, b.toD] = .v (.bool true)) ↔ good a = true ∧ good b = true := by
  show (bD (good a.toD.val1 && good b.toD.val1) = _) ↔ _
  rw [bD_true, Bool.and_eq_true, val1_toD, val1_toD]
theorem pre_rowsV (a b : List Val) (d : D) : (@Interp.phi (I n) 2025 [valsD a, valsD b, d] = .v (.bool true)) ↔ (∀ x, x ∈ a → good x = true) ∧ ∀ x, x ∈ b → good x = true := by
  show (bD ((valsD a).vals.all good && (valsD b).vals.all good) = _) ↔ _
  rw [bD_true, Bool.and_eq_true, vals_valsD, vals_valsD, List.all_eq_true, List.all_eq_true]
theorem pre_rowsP (a b : List (ByteArray × Val)) (d : D) : (@Interp.phi (I n) 2026 [pairsD a, pairsD b, d] = .v (.bool true)) ↔ (∀ x, x ∈ a → good x.2 = true) ∧ ∀ x, x ∈ b → good x.2 = true := by
  show (bD (((pairsD a).pairs.all fun p => good p.2) && ((pairsD b).pairs.all fun p => good p.2)) = _) ↔ _
  rw [bD_true, Bool.and_eq_true, pairs_pairsD, pairs_pairsD, List.all_eq_true, List.all_eq_true]
theorem phi_rdepth (v : Val) : @Interp.phi (I n) 44 [v.toD] = iD (depV v) := by show iD (depV v.toD.val1) = _; rw [val1_toD]
theorem phi_rsize (v : Val) : @Interp.phi (I n) 45 [v.toD] = iD (sizV v) := by show iD (sizV v.toD.val1) = _; rw [val1_toD]
theorem phi_rshort (v : Val) : @Interp.phi (I n) 46 [v.toD] = bD (shortV v) := by show bD (shortV v.toD.val1) = _; rw [val1_toD]
theorem phi_requal (a b : Val) : @Interp.phi (I n) 48 [a.toD, b.toD] = bD (eqV a b) := by show bD (eqV a.toD.val1 b.toD.val1) = _; rw [val1_toD, val1_toD]
theorem phi_runlike (l : List ByteArray) : @Interp.phi (I n) 40 [strsD l] = bD (decide l.Nodup) := by show bD (decide (strsD l).strs.Nodup) = _; rw [strs_strsD]
theorem phi_rall (a : ByteArray) : @Interp.phi (I n) 36 [sD a] = bD (digV a) := rfl
theorem phi_rvalid (a : ByteArray) : @Interp.phi (I n) 30 [sD a] = bD (validV a) := rfl
theorem phi_rplain (v : Val) : @Interp.phi (I n) 41 [v.toD] = bD (plainV v) := by show bD (plainV v.toD.val1) = _; rw [val1_toD]
theorem phi_rown (v : Val) : @Interp.phi (I n) 42 [v.toD] = bD (ownV v) := by show bD (ownV v.toD.val1) = _; rw [val1_toD]
theorem phi_rformed (v : Val) : @Interp.phi (I n) 43 [v.toD] = bD (formedV v) := by show bD (formedV v.toD.val1) = _; rw [val1_toD]
theorem phi_rcheck (v : Val) : @Interp.phi (I n) 47 [v.toD] = iD (checkV v) := by show iD (checkV v.toD.val1) = _; rw [val1_toD]
theorem phi_rzeros (i : Int) : @Interp.phi (I n) 37 [iD i] = sD (zer i) := rfl
theorem phi_rnumber (a : ByteArray) (i : Int) : @Interp.phi (I n) 35 [sD a, iD i] = iD (numbV a i) := rfl
theorem phi_rbytes (i : Int) : @Interp.phi (I n) 34 [iD i] = sD (encV i) := rfl
theorem phi_rvless (a b : Val) : @Interp.phi (I n) 49 [a.toD, b.toD] = bD (decide (orderV a b = -1)) := by show bD (decide (orderV a.toD.val1 b.toD.val1 = -1)) = _; rw [val1_toD, val1_toD]
theorem phi_rcmp (a b : Val) : @Interp.phi (I n) 50 [a.toD, b.toD] = .row [iD (vcmpV a b).1, iD (vcmpV a b).2] := by show D.row [iD (vcmpV a.toD.val1 b.toD.val1).1, iD (vcmpV a.toD.val1 b.toD.val1).2] = _; rw [val1_toD, val1_toD]
theorem phi_orders (ds : List D) : @Interp.phi (I n) 53 ds = bD true := rfl
theorem phi_checks (ds : List D) : @Interp.phi (I n) 52 ds = bD true := rfl
theorem pre_rformed (ds : List D) : (@Interp.phi (I n) 2043 ds = .v (.bool true)) ↔ D.szL ds + 2 < n := by
  show (bD (decide (D.szL ds + 2 < n)) = _) ↔ _
  rw [bD_true, decide_eq_true_iff]
theorem pre_rcheck (ds : List D) : (@Interp.phi (I n) 2047 ds = .v (.bool true)) ↔ D.szL ds + 4 < n := by
  show (bD (decide (D.szL ds + 4 < n)) = _) ↔ _
  rw [bD_true, decide_eq_true_iff]
theorem pre_rcmp (ds : List D) : (@Interp.phi (I n) 2050 ds = .v (.bool true)) ↔ D.szL ds + 4 < n := by
  show (bD (decide (D.szL ds + 4 < n)) = _) ↔ _
  rw [bD_true, decide_eq_true_iff]
theorem pre_rnumber (a : ByteArray) (i : Int) : (@Interp.phi (I n) 2035 [sD a, iD i] = .v (.bool true)) ↔ 1 ≤ i ∧ i ≤ 4 ∧ i ≤ a.size := by
  show (bD (decide (1 ≤ i ∧ i ≤ 4 ∧ i ≤ a.size)) = _) ↔ _
  rw [bD_true, decide_eq_true_iff]
theorem phi_rless (a b : ByteArray) : @Interp.phi (I n) 38 [sD a, sD b] = bD (decide (cmpS a b = -1)) := rfl
theorem pre_rzeros (i : Int) : (@Interp.phi (I n) 2037 [iD i] = .v (.bool true)) ↔ 0 ≤ i ∧ i ≤ 1000000 := by
  show (bD (decide (0 ≤ i ∧ i ≤ 1000000)) = _) ↔ _
  rw [bD_true, decide_eq_true_iff]
theorem pre_rless (a b : ByteArray) : (@Interp.phi (I n) 2038 [sD a, sD b] = .v (.bool true)) ↔ a.size = b.size := by
  show (bD (decide (a.size = b.size)) = _) ↔ _
  rw [bD_true, decide_eq_true_iff]
theorem pre_rvless (a b : Val) : (@Interp.phi (I n) 2049 [a.toD, b.toD] = .v (.bool true)) ↔ good a = true ∧ good b = true := by
  show (bD (good a.toD.val1 && good b.toD.val1) = _) ↔ _
  rw [bD_true, Bool.and_eq_true, val1_toD, val1_toD]
theorem phi_rnumless (a a' : Bool) (d d' : ByteArray) (e e' : Int) : @Interp.phi (I n) 39 [.row [bD a, sD d, iD e], .row [bD a', sD d', iD e']] = bD (decide ((numcmpV a d e a' d' e').1 = -1)) := rfl
theorem phi_rlong (i : Int) : @Interp.phi (I n) 54 [.v (.int .u8 i)] = iD (longV i.toNat) := rfl
theorem phi_ris (i : Int) : @Interp.phi (I n) 55 [iD i] = bD (isR i) := rfl
theorem phi_raligned (a a' : Bool) (d d' : ByteArray) (e e' : Int) : @Interp.phi (I n) 56 [.row [bD a, sD d, iD e], .row [bD a', sD d', iD e']] = .row [sD (levQ (levP d e (levX e e')) (levP d' e' (levX e e'))), sD (levQ (levP d' e' (levX e e')) (levQ (levP d e (levX e e')) (levP d' e' (levX e e')))), iD (levX e e')] := rfl
theorem pre_raligned (a a' : Bool) (d d' : ByteArray) (e e' : Int) : (@Interp.phi (I n) 2056 [.row [bD a, sD d, iD e], .row [bD a', sD d', iD e']] = .v (.bool true)) ↔ d.size ≤ 40 ∧ d'.size ≤ 40 ∧ -400 ≤ e ∧ e ≤ 400 ∧ -400 ≤ e' ∧ e' ≤ 400 := by
  show (bD (decide (d.size ≤ 40 ∧ d'.size ≤ 40 ∧ -400 ≤ e ∧ e ≤ 400 ∧ -400 ≤ e' ∧ e' ≤ 400)) = _) ↔ _
  rw [bD_true, decide_eq_true_iff]
theorem phi_copy (v : Val) : @Interp.phi (I n) 51 [v.toD] = v.toD := by show v.toD.val1.toD = _; rw [val1_toD]
theorem pre_copy (v : Val) : (@Interp.phi (I n) 2051 [v.toD] = .v (.bool true)) ↔ smallV v = true := by
  show (bD (smallV v.toD.val1) = _) ↔ _
  rw [bD_true, val1_toD]
theorem phi_tplaces (l : List ByteArray) : @Interp.phi (I n) 57 [strsD l] = .row [.lst (placesL l 0 [])] := by show D.row [.lst (placesL (strsD l).strs 0 [])] = _; rw [strs_strsD]
theorem phi_tformed (v : Typ) : @Interp.phi (I n) 58 [v.toD] = bD (formedT v) := by show bD (formedT v.toD.typ1) = _; rw [typ1_toD]
theorem phi_tixval (l : List ByteArray) (d : D) : @Interp.phi (I n) 59 [strsD l, d] = iD (ixL (fun s => !validV s) l 0) := by show iD (ixL _ (strsD l).strs 0) = _; rw [strs_strsD]
theorem phi_tixform (l : List Typ) (d : D) : @Interp.phi (I n) 60 [typsD l, d] = iD (formedTL l 0) := by show iD (formedTL (typsD l).typs 0) = _; rw [typs_typsD]
theorem phi_tspan (v : Typ) : @Interp.phi (I n) 61 [v.toD] = .row [iD (spanT v).1, iD (spanT v).2.1, bD (spanT v).2.2] := by show D.row [iD (spanT v.toD.typ1).1, iD (spanT v.toD.typ1).2.1, bD (spanT v.toD.typ1).2.2] = _; rw [typ1_toD]
theorem phi_tixspan (l : List ByteArray) (d : D) : @Interp.phi (I n) 62 [strsD l, d] = iD (ixL (fun s : ByteArray => decide ((s.size : Int) > 64)) l 0) := by show iD (ixL _ (strsD l).strs 0) = _; rw [strs_strsD]
theorem phi_tcheck (v : Typ) : @Interp.phi (I n) 63 [v.toD] = iD (checkT v) := by show iD (checkT v.toD.typ1) = _; rw [typ1_toD]
theorem phi_thas (a : Typ) (v : Val) : @Interp.phi (I n) 64 [a.toD, v.toD] = bD (hasT a v) := by show bD (hasT a.toD.typ1 v.toD.val1) = _; rw [typ1_toD, val1_toD]
theorem phi_tixhas (l : List Val) (a : Typ) : @Interp.phi (I n) 65 [valsD l, .row [a.toD]] = iD (ixL (fun v => !optB a.list[0]? fun x => hasT x v) l 0) := by show iD (ixL (fun v => !optB a.toD.typ1.list[0]? fun x => hasT x v) (valsD l).vals 0) = _; rw [typ1_toD, vals_valsD]
theorem phi_sindex (l : List ByteArray) (s : ByteArray) : @Interp.phi (I n) 66 [strsD l, sD s] = iD (idxI s l 0) := by show iD (idxI s (strsD l).strs 0) = _; rw [strs_strsD]
theorem phi_tHas (a : Typ) (v : Val) : @Interp.phi (I n) 67 [a.toD, v.toD] = .row [bD (HasT a v).1, iD (HasT a v).2] := by show D.row [bD (HasT a.toD.typ1 v.toD.val1).1, iD (HasT a.toD.typ1 v.toD.val1).2] = _; rw [typ1_toD, val1_toD]
theorem phi_tsub (a b : Typ) : @Interp.phi (I n) 68 [a.toD, b.toD] = bD (subT a b) := by show bD (subT a.toD.typ1 b.toD.typ1) = _; rw [typ1_toD, typ1_toD]
theorem phi_eqtyps (a b : List Typ) (d : D) : @Interp.phi (I n) 69 [typsD a, typsD b, d] = bD (decide (a.length = b.length) && (a.zip b).all fun p => subT p.1 p.2) := by show bD (decide ((typsD a).typs.length = (typsD b).typs.length) && ((typsD a).typs.zip (typsD b).typs).all fun p => subT p.1 p.2) = _; rw [typs_typsD, typs_typsD]
theorem phi_tboth (a b : Typ) : @Interp.phi (I n) 70 [a.toD, b.toD] = iD (if ¬ checkT a = 0 then checkT a else checkT b) := by show iD (if ¬ checkT a.toD.typ1 = 0 then checkT a.toD.typ1 else checkT b.toD.typ1) = _; rw [typ1_toD, typ1_toD]
theorem phi_tSub (a b : Typ) : @Interp.phi (I n) 71 [a.toD, b.toD] = .row [bD (SubT a b).1, iD (SubT a b).2] := by show D.row [bD (SubT a.toD.typ1 b.toD.typ1).1, iD (SubT a.toD.typ1 b.toD.typ1).2] = _; rw [typ1_toD, typ1_toD]
theorem phi_kparts (v : Typ) (a b c : Int) : @Interp.phi (I n) 72 [v.toD, iD a, iD b, iD c] = iD (partsT b a c v) := by show iD (partsT b a c v.toD.typ1) = _; rw [typ1_toD]
theorem phi_kwide (v : Typ) : @Interp.phi (I n) 73 [v.toD] = bD (wideT v) := by show bD (wideT v.toD.typ1) = _; rw [typ1_toD]
theorem phi_tawake : @Interp.phi (I n) 74 [] = bD true := rfl
theorem phi_lparts (ds : List D) : @Interp.phi (I n) 75 ds = bD true := rfl
theorem phi_lany (ds : List D) : @Interp.phi (I n) 76 ds = bD true := rfl
theorem pre_thas (a : Typ) (v : Val) : (@Interp.phi (I n) 2064 [a.toD, v.toD] = .v (.bool true)) ↔ formedT a = true ∧ formedV v = true := by
  show (bD (formedT a.toD.typ1 && formedV v.toD.val1) = _) ↔ _
  rw [bD_true, Bool.and_eq_true, typ1_toD, val1_toD]
theorem pre_tixhas (l : List Val) (a : Typ) : (@Interp.phi (I n) 2065 [valsD l, .row [a.toD]] = .v (.bool true)) ↔ formedT a = true ∧ a.list.length = 1 ∧ ∀ x, x ∈ l → formedV x = true := by
  show (bD (formedT a.toD.typ1 && (decide (a.toD.typ1.list.length = 1) && (valsD l).vals.all formedV)) = _) ↔ _
  rw [bD_true, Bool.and_eq_true, Bool.and_eq_true, typ1_toD, vals_valsD, List.all_eq_true, decide_eq_true_iff]
theorem pre_tsub (a b : Typ) : (@Interp.phi (I n) 2068 [a.toD, b.toD] = .v (.bool true)) ↔ formedT a = true ∧ formedT b = true := by
  show (bD (formedT a.toD.typ1 && formedT b.toD.typ1) = _) ↔ _
  rw [bD_true, Bool.and_eq_true, typ1_toD, typ1_toD]
theorem pre_eqtyps (a b : List Typ) (d : D) : (@Interp.phi (I n) 2069 [typsD a, typsD b, d] = .v (.bool true)) ↔ (∀ x, x ∈ a → formedT x = true) ∧ ∀ x, x ∈ b → formedT x = true := by
  show (bD ((typsD a).typs.all formedT && (typsD b).typs.all formedT) = _) ↔ _
  rw [bD_true, Bool.and_eq_true, typs_typsD, typs_typsD, List.all_eq_true, List.all_eq_true]
theorem phi_rbegins (s : ByteArray) : @Interp.phi (I n) 33 [sD s] = bD (beginsV s) := rfl
theorem phi_rdecode (s : ByteArray) (i : Int) : @Interp.phi (I n) 32 [sD s, iD i] = .row [iD (decV s i).1, iD (decV s i).2.1, iD (decV s i).2.2] := rfl
theorem phi_rcount (s : ByteArray) : @Interp.phi (I n) 31 [sD s] = .row [iD (countF (s.size + 1) s 0 0).1, iD (countF (s.size + 1) s 0 0).2] := rfl
theorem pre_rbegins (s : ByteArray) : (@Interp.phi (I n) 2033 [sD s] = .v (.bool true)) ↔ 0 < s.size := by
  show (bD (decide (0 < s.size)) = _) ↔ _
  rw [bD_true, decide_eq_true_iff]
theorem pre_rnumless (a a' : Bool) (d d' : ByteArray) (e e' : Int) : (@Interp.phi (I n) 2039 [.row [bD a, sD d, iD e], .row [bD a', sD d', iD e']] = .v (.bool true)) ↔ numV a d e = 0 ∧ numV a' d' e' = 0 := by
  show (bD (decide (numV a d e = 0 ∧ numV a' d' e' = 0)) = _) ↔ _
  rw [bD_true, decide_eq_true_iff]
end
end Go.Proofs.YtaeeblcdggjokaaDoor.Vk
