/- Merged own texts, without what this claim does not use. -/
import Derived.Calls
import Derived.Laws.Sem
import Derived.LoopN
import Derived.ScopeJumps
import Derived.Orders
import Derived.Below
import Derived.RangeFuncRecord
import Derived.RangeFuncLeaves
import Derived.Laws.IdiomCopy
import Derived.Laws.Entries
import Derived.LoopNIn
import Derived.Laws.Append
import Derived.Laws.MakeOwn
import Derived.Laws.BytesString
set_option linter.unusedVariables false
set_option linter.unusedSimpArgs false
set_option linter.unusedSectionVars false
set_option linter.constructorNameAsVariable false
/- Plain data, expressions over it, and what they stand for. -/
namespace Go.Ab
open Go

inductive D where
 | v (x : Value)
 | nil
 | lst (rows : List D)
 | row (cells : List D)
instance : Inhabited D := ⟨.nil⟩

inductive Ty where
 | i (k : IntKind)
 | b
 | s
 deriving DecidableEq
inductive CT where
 | sc (t : Ty)
 | sl (t : Nat)
 deriving DecidableEq
def tyV : Ty -> Value -> Bool
 | .i k, .int k' _ => k == k'
 | .b, .bool _ => true
 | .s, .string _ => true
 | _, _ => false

inductive Prim where
 | iop (op : BinOp) (k : IntKind)
 | icmp (op : BinOp)
 | scmp (op : BinOp)
 | bcmp (op : BinOp)
 | not
 | neg (k : IntKind)
 | conv (k : IntKind)
 | slen
 | sat
 | ssub
 | scat
 | len
 | at
 | cell (j : Nat)
 | row
 | lst
 | snoc
 | cat
 | sub
 | ite
 | and
 | mhas
 | mget
 | mset
 | upd
 | sofb
 | sofl
 | los
 | rep
 deriving DecidableEq
inductive E where
 | var (i : Nat)
 | lit (x : Value)
 | nil
 | pr (p : Prim) (args : List E)
 | app (g : Nat) (args : List E)
instance : Inhabited E := ⟨.nil⟩

class Interp where
 phi : Nat -> List D -> D

namespace D
def rows : D -> List D
 | .lst r => r
 | _ => []
def cells : D -> List D
 | .row c => c
 | _ => []
def val : D -> Value
 | .v x => x
 | _ => .tuple #[]
def int : D -> Int
 | .v (.int _ i) => i
 | _ => 0
def bool : D -> Bool
 | .v (.bool b) => b
 | _ => false
def str : D -> ByteArray
 | .v (.string s) => s
 | _ => .empty
def ofBool (b : Bool) : D := .v (.bool b)
def ofInt (k : IntKind) (i : Int) : D := .v (.int k i)
def ofStr (s : ByteArray) : D := .v (.string s)
end D

def dkeyIs : D -> D -> Bool
 | .v (.int k a), .v (.int l b) => decide (k = l) && decide (a = b)
 | .v (.string a), .v (.string b) => decide (a = b)
 | _, _ => false
def mfind (k : D) : List D -> Option D
 | [] => none
 | .row [x, v] :: r => bif dkeyIs k x then some v else mfind k r
 | _ :: r => mfind k r
def mput (k v : D) : List D -> List D
 | [] => [.row [k, v]]
 | .row [x, u] :: r => bif dkeyIs k x then .row [k, v] :: r else .row [x, u] :: mput k v r
 | d :: r => d :: mput k v r
def cmpI : BinOp -> Int -> Int -> Bool
 | .eql, a, b => a == b
 | .neq, a, b => a != b
 | .lss, a, b => decide (a < b)
 | .leq, a, b => decide (a <= b)
 | .gtr, a, b => decide (a > b)
 | .geq, a, b => decide (a ≥ b)
 | _, _, _ => false
def isCmp : BinOp -> Bool
 | .eql | .neq | .lss | .leq | .gtr | .geq => true
 | _ => false
def cmpS : BinOp -> ByteArray -> ByteArray -> Bool
 | .eql, a, b => a.toList == b.toList
 | .neq, a, b => !(a.toList == b.toList)
 | .lss, a, b => Op.bytesLess a.toList b.toList
 | .leq, a, b => Op.bytesLess a.toList b.toList || a.toList == b.toList
 | .gtr, a, b => !(Op.bytesLess a.toList b.toList || a.toList == b.toList)
 | .geq, a, b => !(Op.bytesLess a.toList b.toList)
 | _, _, _ => false
def iopV (op : BinOp) (k : IntKind) (x y : Int) : Int :=
 match op with
 | .add => k.wrap (x + y)
 | .sub => k.wrap (x - y)
 | .mul => k.wrap (x * y)
 | .quo => k.wrap (x.tdiv y)
 | .rem => x.tmod y
 | .and => k.wrap (BitVec.ofInt k.bits x &&& BitVec.ofInt k.bits y).toNat
 | .or => k.wrap (BitVec.ofInt k.bits x ||| BitVec.ofInt k.bits y).toNat
 | .xor => k.wrap (BitVec.ofInt k.bits x ^^^ BitVec.ofInt k.bits y).toNat
 | .andNot => k.wrap (BitVec.ofInt k.bits x &&& ~~~BitVec.ofInt k.bits y).toNat
 | .shl => k.wrap (x * 2 ^ (min y.toNat k.bits))
 | .shr => x.fdiv (2 ^ (min y.toNat k.bits))
 | _ => 0
def Prim.den : Prim -> List D -> D
 | .iop op k, [a, b] => .ofInt k (iopV op k a.int b.int)
 | .icmp op, [a, b] => .ofBool (cmpI op a.int b.int)
 | .scmp op, [a, b] => .ofBool (cmpS op a.str b.str)
 | .bcmp .eql, [a, b] => .ofBool (a.bool == b.bool)
 | .bcmp _, [a, b] => .ofBool (a.bool != b.bool)
 | .not, [a] => .ofBool (!a.bool)
 | .neg k, [a] => .ofInt k (k.wrap (-a.int))
 | .conv k, [a] => .ofInt k (k.wrap a.int)
 | .slen, [a] => .ofInt .i64 a.str.size
 | .sat, [a, i] => .ofInt .u8 ((a.str.data.toList.getD i.int.toNat 0).toNat)
 | .ssub, [a, lo, hi] => .ofStr (a.str.extract lo.int.toNat hi.int.toNat)
 | .scat, [a, b] => .ofStr (a.str ++ b.str)
 | .len, [a] => .ofInt .i64 a.rows.length
 | .at, [a, i] => a.rows.getD i.int.toNat (.row [])
 | .cell j, [a] => a.cells.getD j .nil
 | .row, l => .row l
 | .lst, l => .lst l
 | .snoc, [a, x] => .lst (a.rows ++ [x])
 | .cat, [a, b] => .lst (a.rows ++ b.rows)
 | .sub, [a, lo, hi] => .lst ((a.rows.take hi.int.toNat).drop lo.int.toNat)
 | .ite, [c, a, b] => if c.bool then a else b
 | .and, l => .ofBool (l.all D.bool)
 | .mhas, [m, k] => .ofBool (mfind k m.rows).isSome
 | .mget, [m, k, z] => (mfind k m.rows).getD z
 | .mset, [m, k, v] => .lst (mput k v m.rows)
 | .upd, [l, i, x] => .lst (l.rows.set i.int.toNat x)
 | .sofb, l => .ofStr (l.foldl (fun r d => r.push (UInt8.ofNat d.int.toNat)) .empty)
 | .sofl, [l] => .ofStr (l.rows.foldl (fun r d => r.push (UInt8.ofNat (d.cells.getD 0 .nil).int.toNat)) .empty)
 | .los, [a] => .lst (a.str.data.toList.map fun c => .row [.v (.int .u8 c.toNat)])
 | .rep, [n, x] => .lst (List.replicate n.int.toNat x)
 | _, _ => .nil
section
variable [Interp]
mutual
def E.den (env : Nat -> D) : E -> D
 | .var i => env i
 | .lit x => .v x
 | .nil => .nil
 | .pr p l => p.den (E.denL env l)
 | .app g l => Interp.phi g (E.denL env l)
def E.denL (env : Nat -> D) : List E -> List D
 | [] => []
 | e :: r => e.den env :: E.denL env r
end
end

def scEq : Value -> Value -> Bool
 | .bool a, .bool b => a == b
 | .int k a, .int l b => decide (k = l) && decide (a = b)
 | .string a, .string b => decide (a = b)
 | _, _ => false
mutual
def eEq : E -> E -> Bool
 | .var i, .var j => Nat.beq i j
 | .lit x, .lit y => scEq x y
 | .nil, .nil => true
 | .pr p l, .pr q m => decide (p = q) && eEqL l m
 | .app g l, .app h m => Nat.beq g h && eEqL l m
 | _, _ => false
def eEqL : List E -> List E -> Bool
 | [], [] => true
 | a :: r, b :: t => eEq a b && eEqL r t
 | _, _ => false
end
theorem scEq_eq {a b : Value} (h : scEq a b = true) : a = b := by
 unfold scEq at h
 split at h
 ·rw [beq_iff_eq] at h; rw [h]
 ·rw [Bool.and_eq_true, decide_eq_true_eq, decide_eq_true_eq] at h; rw [h.1, h.2]
 ·rw [decide_eq_true_eq] at h; rw [h]
 ·cases h
mutual
theorem eEq_eq : ∀ {a b : E}, eEq a b = true -> a = b
 | .var i, .var j, h => by unfold eEq at h; rw [Nat.eq_of_beq_eq_true h]
 | .lit x, .lit y, h => by unfold eEq at h; rw [scEq_eq h]
 | .nil, .nil, _ => rfl
 | .pr p l, .pr q m, h => by
  unfold eEq at h
  rw [Bool.and_eq_true, decide_eq_true_eq] at h
  rw [h.1, eEqL_eq h.2]
 | .app g l, .app k m, h => by
  unfold eEq at h
  rw [Bool.and_eq_true] at h
  rw [Nat.eq_of_beq_eq_true h.1, eEqL_eq h.2]
 | .var _, .lit _, h | .var _, .nil, h | .var _, .pr _ _, h | .var _, .app _ _, h | .lit _, .var _, h | .lit _, .nil, h | .lit _, .pr _ _, h | .lit _, .app _ _, h | .nil, .var _, h | .nil, .lit _, h | .nil, .pr _ _, h | .nil, .app _ _, h
 | .pr _ _, .var _, h | .pr _ _, .lit _, h | .pr _ _, .nil, h | .pr _ _, .app _ _, h | .app _ _, .var _, h | .app _ _, .lit _, h | .app _ _, .nil, h | .app _ _, .pr _ _, h => by unfold eEq at h; cases h
theorem eEqL_eq : ∀ {a b : List E}, eEqL a b = true -> a = b
 | [], [], _ => rfl
 | a :: r, b :: t, h => by
  unfold eEqL at h
  rw [Bool.and_eq_true] at h
  rw [eEq_eq h.1, eEqL_eq h.2]
 | [], _ :: _, h => by unfold eEqL at h; cases h
 | _ :: _, [], h => by unfold eEqL at h; cases h
end
def hasE (e : E) : List E -> Bool
 | [] => false
 | f :: r => eEq e f || hasE e r
theorem hasE_mem {e : E} : ∀ {l : List E}, hasE e l = true -> e ∈ l
 | [], h => by cases h
 | f :: r, h => by
  unfold hasE at h
  rw [Bool.or_eq_true] at h
  rcases h with h | h
  ·rw [eEq_eq h]; simp
  ·exact List.mem_cons_of_mem _ (hasE_mem h)

section
variable (C : Nat -> Nat -> Option Value) (I : Nat -> Nat -> Prop)
def okScalar : Value -> Prop
 | .bool _ | .int _ _ | .string _ => True
 | _ => False
mutual
/-- What a value holds. -/
def DV : D -> Value -> Prop
 | .v x, y => y = x /\ okScalar x
 | .nil, _ => False
 | .lst rows, y => (rows = [] /\ ∃ a cap, y = .slice a 0 cap) \/ ∃ b off cap, y = .slice (some ⟨b, off, none⟩) rows.length cap /\ rows.length <= cap /\ DVr rows b off
 | .row _, _ => False
/-- Rows, one behind the other. -/
def DVr : List D -> Nat -> Nat -> Prop
 | [], _, _ => True
 | d :: r, b, off => DVw d b off /\ DVr r b (off + d.cells.length)
def DVw : D -> Nat -> Nat -> Prop
 | .row cs, b, off => DVs cs b off
 | .v _, _, _ | .nil, _, _ | .lst _, _, _ => False
def DVs : List D -> Nat -> Nat -> Prop
 | [], _, _ => True
 | d :: r, b, off => (∃ v, C b off = some v /\ DV d v) /\ I b off /\ DVs r b (off + 1)
end
end
section
variable {C C' : Nat -> Nat -> Option Value} {I I' : Nat -> Nat -> Prop} (h : ∀ b off v, C b off = some v -> I b off -> C' b off = some v /\ I' b off)
include h
mutual
theorem DV.mono : ∀ {d : D} {y : Value}, DV C I d y -> DV C' I' d y
 | .v x, y, k => by unfold DV at k ⊢; exact k
 | .nil, y, k => by unfold DV at k; exact k.elim
 | .lst rows, y, k => by
  unfold DV at k ⊢
  rcases k with k | ⟨b, off, cap, e, hl, k⟩
  ·exact .inl k
  ·exact .inr ⟨b, off, cap, e, hl, DVr.mono k⟩
 | .row _, _, k => by unfold DV at k; exact k.elim
theorem DVr.mono : ∀ {l : List D} {b off : Nat}, DVr C I l b off -> DVr C' I' l b off
 | [], _, _, _ => by unfold DVr; trivial
 | d :: r, _, _, k => by
  unfold DVr at k ⊢
  exact ⟨DVw.mono k.1, DVr.mono k.2⟩
theorem DVw.mono : ∀ {d : D} {b off : Nat}, DVw C I d b off -> DVw C' I' d b off
 | .row cs, _, _, k => by unfold DVw at k ⊢; exact DVs.mono k
 | .v _, _, _, k => by unfold DVw at k; exact k.elim
 | .nil, _, _, k => by unfold DVw at k; exact k.elim
 | .lst _, _, _, k => by unfold DVw at k; exact k.elim
theorem DVs.mono : ∀ {l : List D} {b off : Nat}, DVs C I l b off -> DVs C' I' l b off
 | [], _, _, _ => by unfold DVs; trivial
 | d :: r, b, off, k => by
  unfold DVs at k ⊢
  obtain ⟨⟨v, k0, k1⟩, k2, k3⟩ := k
  obtain ⟨g1, g2⟩ := h b off v k0 k2
  exact ⟨⟨v, g1, DV.mono k1⟩, g2, DVs.mono k3⟩
end
end

def flat (rows : List D) : List D := rows.flatMap D.cells
section
variable {C C' : Nat -> Nat -> Option Value} {I I' : Nat -> Nat -> Prop}
def DVl (C : Nat -> Nat -> Option Value) (I : Nat -> Nat -> Prop) : List D -> List Value -> Prop
 | [], vs => vs = []
 | d :: r, vs => ∃ v t, vs = v :: t /\ DV C I d v /\ DVl C I r t
theorem DVl.mono (h : ∀ b off v, C b off = some v -> I b off -> C' b off = some v /\ I' b off) : ∀ {ds : List D} {vs : List Value}, DVl C I ds vs -> DVl C' I' ds vs
 | [], _, k => k
 | _ :: _, _, ⟨v, t, e, k1, k2⟩ => ⟨v, t, e, k1.mono h, DVl.mono h k2⟩
theorem DVl.append : ∀ {ds es : List D} {vs us : List Value}, DVl C I ds vs -> DVl C I es us -> DVl C I (ds ++ es) (vs ++ us)
 | [], _, _, _, k, k' => by
  obtain rfl : _ = [] := k
  exact k'
 | _ :: _, _, _, _, ⟨v, t, rfl, k1, k2⟩, k' => ⟨v, t ++ _, rfl, k1, DVl.append k2 k'⟩
theorem DVl.length : ∀ {ds : List D} {vs : List Value}, DVl C I ds vs -> vs.length = ds.length
 | [], _, k => by
  obtain rfl : _ = [] := k
  rfl
 | _ :: _, _, ⟨v, t, rfl, k1, k2⟩ => by rw [List.length_cons, List.length_cons, DVl.length k2]
end

section
variable (tb : Nat -> List CT)
mutual
def fits : D -> CT -> Prop
 | .v x, .sc t => tyV t x = true
 | .lst rows, .sl t => fitsR rows t
 | _, _ => False
def fitsR : List D -> Nat -> Prop
 | [], _ => True
 | d :: r, t => fitsW d t /\ fitsR r t
def fitsW : D -> Nat -> Prop
 | .row cs, t => fitsC cs (tb t)
 | _, _ => False
def fitsC : List D -> List CT -> Prop
 | [], [] => True
 | d :: r, c :: t => fits d c /\ fitsC r t
 | _, _ => False
end
end
end Go.Ab
/- An evaluator of the model's code over relative memory: values that never change again stand as trees, what is written stands in numbered objects. Its definitions. -/
namespace Go.Ab
open Go

inductive Tr (α : Type) where
 | lf
 | nd (l : Tr α) (x : Option α) (r : Tr α)
namespace Tr
variable {α : Type}
def left : Tr α -> Tr α
 | lf => lf
 | nd l _ _ => l
def right : Tr α -> Tr α
 | lf => lf
 | nd _ _ r => r
def val : Tr α -> Option α
 | lf => none
 | nd _ x _ => x
def get : Tr α -> Nat -> Option α
 | lf, _ => none
 | nd l x r, t => bif Nat.beq t 0 then x else bif Nat.beq (t % 2) 1 then l.get (t / 2) else r.get (t / 2 - 1)
def setF : Nat -> Tr α -> Nat -> Option α -> Tr α
 | 0, s, _, _ => s
 | f + 1, s, t, v =>
  bif Nat.beq t 0 then .nd s.left v s.right
  else bif Nat.beq (t % 2) 1 then .nd (setF f s.left (t / 2) v) s.val s.right
  else .nd s.left s.val (setF f s.right (t / 2 - 1) v)
def lid : Nat := 1000000000
def set (s : Tr α) (t : Nat) (v : Option α) : Tr α := setF 31 s t v
end Tr

inductive AV where
 | v (x : Value)
 | ref (cs : List AV)
 | box (b off : Nat)
 | sl (cs : List AV) (len : Nat) (tok : Option Nat)
 | ms (b off len : Nat)
 | mg (b len : Nat)
 | e0
 | mp (m : Nat)
 | fn (f : Fn) (first captured : List AV)
 | agg (cs : List AV)
 | tup (vs : List AV)
 | iface (t : TypeId) (x : AV)
 | pan (x : AV)
 | any
 | sy (x : Value) (bits : List (BinOp × Value × Bool))
 | x (t : Ty) (e : E)
 | d (t : Nat) (e : E) (tok : Option Nat)
 | rd (t : Nat) (e : E) (off : Nat)
 | so (i : Nat) (off en : E) (wh : Bool) (w : Nat)
 | po (i : Nat) (off : E) (w : Nat)
 deriving Inhabited

structure Tm where
 n : Nat
 t : Tr AV
 ds : List Nat := []
 dl : List (Nat × List AV × List AV) := []
 mu : Bool × Bool := (false, false)
def und : AV := .tup []
def gt (T : Tm) (t : Nat) : AV := (T.t.get t).getD und
def putT (T : Tm) (d : Option Nat) (x : AV) : Option Tm :=
 match d with
 | some d => if Nat.ble (d + 1) T.n && Nat.ble T.n Tr.lid then some { T with t := T.t.set d (some x) } else none
 | none => some T

inductive Tip where
 | c (n : Nat)
 | e (x : E) (w : Nat)
inductive SK where
 | map (kt ct : Ty) (e : E)
 | arr (ct : Ty) (e : E)
inductive AObj where
 | box (cs : List AV) (esz : Nat)
 | fz (cs : List AV) (esz : Nat)
 | row (tip : Tip) (esz : Nat)
 | sym (k : SK)
 | ar (t : Nat) (e : E) (z : Nat)
 | map (es : List (Value × AV))
 | dead
 | loop (T : Tm) (ps : List Nat) (asg body : Code) (st : LoopState) (pend : Option Code)
 | defs

structure Kn where
 fx : List E := []
 tb : List (Nat × List CT) := []
def Kn.shape (k : Kn) (t : Nat) : List CT := (k.tb.lookup t).getD []
structure St where
 n : Nat
 o : Tr AObj
 k : Kn := {}
def none0 : St := { n := 0, o := .lf }

def St.get (s : St) (i : Nat) : Option AObj := s.o.get i
def St.put (s : St) (i : Nat) (x : AObj) : St := { s with o := s.o.set i (some x) }
def St.new (s : St) (x : AObj) : St := { s with n := s.n + 1, o := s.o.set s.n (some x) }
def St.room (s : St) : Bool := Nat.ble (s.n + 1) Tr.lid

def scalar : Value -> Bool
 | .bool _ | .int _ _ | .float _ _ | .string _ | .pointer none | .map none | .nilFunc | .nilIface => true
 | .slice none l c => Nat.beq l 0 && Nat.beq c 0
 | _ => false

def isCell : AV -> Bool
 | .agg _ | .tup _ | .pan _ | .any => false
 | _ => true
def cellsOf : AV -> List AV
 | .agg cs => cs
 | x => [x]

def sc (x : Value) : Option AV := if scalar x then some (.v x) else none
def scAll : List Value -> Option (List AV)
 | [] => some []
 | x :: r => do let a <- sc x; let b <- scAll r; pure (a :: b)
def ofValue : Value -> Option AV
 | .agg cs => (scAll cs.toList).map .agg
 | .tuple vs => if Nat.beq vs.size 0 then some und else none
 | x => sc x
def unSc : AV -> Option Value
 | .v x => some x
 | _ => none
def unAll : List AV -> Option (List Value)
 | [] => some []
 | x :: r => do let a <- unSc x; let b <- unAll r; pure (a :: b)
def toValue : AV -> Option Value
 | .v x => some x
 | .agg cs => (unAll cs).map fun l => .agg l.toArray
 | .tup cs => (unAll cs).map fun l => .tuple l.toArray
 | .iface t x => (toValue x).map (.iface t)
 | _ => none
def outValue : Value -> Option AV
 | .agg cs => (scAll cs.toList).map .agg
 | .tuple cs => (scAll cs.toList).map .tup
 | x => sc x

variable (P : Program)

def isAggT (t : TypeId) : Option Bool :=
 match P.underlying t with
 | some (.struct _) | some (.array _ _) => some true
 | some _ => some false
 | none => none
def sizeT (t : TypeId) : Option Nat := (P.info? t).map (·.size)
def bytesT (t : TypeId) : Option Nat := (P.info? t).map (·.bytes)
def zeroT (t : TypeId) : Option Value := (P.info? t).bind (·.zero)
def zeroCellsT (t : TypeId) : Option (List AV) := (zeroT P t).bind fun z => scAll z.cells.toList

def runPure {α : Type} : Sem α -> Option α
 | .pure a => some a
 | .program k => runPure (k P)
 | .mark _ k => runPure k
 | _ => none

def takeT (t : TypeId) (cs : List AV) : Option AV := do
 if <- isAggT P t then
  let n <- sizeT P t
  if Nat.ble n cs.length then some (.agg (cs.take n)) else none
 else cs.head?

def partT (t : TypeId) (cs : List AV) (off : Nat) : Option AV := do
 if <- isAggT P t then
  let n <- sizeT P t
  if Nat.ble (off + n) cs.length then some (.agg ((cs.drop off).take n)) else none
 else cs[off]?

def fillA (place : Nat -> Option (Nat × Nat)) (cells : List AV) : List (Nat × AV) -> Option (List AV)
 | [] => some cells
 | (i, v) :: rest =>
  match place i with
  | none => none
  | some (off, size) =>
   let cs := cellsOf v
   if Nat.beq cs.length size && Nat.ble (off + size) cells.length && cs.all isCell then fillA place (cells.take off ++ cs ++ cells.drop (off + size)) rest else none

def places (fs : List Field) : Option (List (Nat × Nat)) :=
 match fs with
 | [] => some []
 | f :: r => do let s <- sizeT P f.type; let q <- places r; pure ((f.offset, s) :: q)

def asNat : AV -> Option Nat
 | .v (.int _ i) => if 0 <= i then some i.toNat else none
 | _ => none

def bytesOfCells : List AV -> Option ByteArray
 | [] => some .empty
 | l => (go l .empty)
where
 go : List AV -> ByteArray -> Option ByteArray
  | [], acc => some acc
  | .v (.int .u8 n) :: r, acc => go r (acc.push (UInt8.ofNat n.toNat))
  | _ :: _, _ => none

variable (G : Nat -> Option (List AV))

def opd (T : Tm) : Operand -> Option AV
 | .tmp t => some (gt T t)
 | .const x => ofValue x
 | .global g => (G g).map .ref
 | .func f => some (.fn (.func f) [] [])
def opds (T : Tm) : List Operand -> Option (List AV)
 | [] => some []
 | x :: r => do let a <- opd G T x; let b <- opds T r; pure (a :: b)

def opdO (T : Tm) : Option Operand -> Option (Option AV)
 | none => some none
 | some x => (opd G T x).map some
def bnd (T : Tm) (x : Option Operand) (d : Nat) : Option Nat :=
 match x with
 | none => some d
 | some i => (opd G T i).bind asNat

def bnd0 (T : Tm) (x : Option Operand) : Option Nat :=
 match x with
 | none => none
 | some i => (opd G T i).bind asNat

def heldBy (s : St) (size : Nat) : AV -> Option (List AV × Nat)
 | .v (.slice none _ _) => some ([], 0)
 | .e0 => some ([], 0)
 | .sl cs len _ => if Nat.ble (len * size) cs.length then some (cs.take (len * size), len) else none
 | .ms b off len =>
  match s.get b with
  | some (.box c _) => if Nat.ble (off + len * size) c.length then some ((c.drop off).take (len * size), len) else none
  | _ => none
 | .mg b len =>
  match s.get b with
  | some (.box c _) => if Nat.ble (len * size) c.length then some (c.take (len * size), len) else none
  | _ => none
 | .v (.string x) => if Nat.beq size 1 then some (x.data.toList.map fun b => .v (.int .u8 b.toNat), x.size) else none
 | _ => none

def tyBase : Nat := 4294967296
def codeOf (t size : Nat) : Nat := tyBase * (t + 1) + size

def tooLong (bytes need : Nat) : Bool := !(Nat.ble ((2 * need + 2048) * bytes) (2 ^ 47)) || Nat.beq bytes 0

def appendA (e : TypeId) (s : St) (x y : AV) : Option (AV × St) := do
 let size <- sizeT P e
 let bytes <- bytesT P e
 let z <- zeroCellsT P e
 let (ys, n) <- heldBy s size y
 if !(Nat.beq z.length size) || !(Nat.beq ys.length (n * size)) then none else
 match x with
 | .v (.slice none _ _) | .e0 =>
  if Nat.beq n 0 then some (x, s) else
  if tooLong bytes n || !s.room || !(ys.all isCell) then none else
  some (.sl ys n (some s.n), s.new (.row (.c (n * size)) size))
 | .sl cs len (some t) =>
  match s.get t with
  | some (.row (.c tip) esz) =>
   if tooLong bytes (len + n) || !s.room || !(Nat.beq tip (len * size)) || !(Nat.beq esz size) || !(Nat.ble tip cs.length) || !(ys.all isCell) then none else
   some (.sl (cs.take tip ++ ys) (len + n) (some s.n), (s.put t .dead).new (.row (.c (tip + n * size)) size))
  | _ => none
 | _ => none

def appendM (e : TypeId) (s : St) (x y : AV) : Option (AV × St) := do
 let size <- sizeT P e
 let bytes <- bytesT P e
 let z <- zeroCellsT P e
 let (ys, n) <- heldBy s size y
 if !(Nat.beq z.length size) || !(Nat.beq ys.length (n * size)) then none else
 match x with
 | .v (.slice none _ _) | .e0 =>
  if Nat.beq n 0 then some (x, s) else
  if tooLong bytes n || !s.room || !(ys.all isCell) || Nat.beq size 0 || !(Nat.ble (size + 1) tyBase) then none else
  some (.mg s.n n, s.new (.box ys (codeOf e size)))
 | .mg b len =>
  match s.get b with
  | some (.box cs esz) =>
   if tooLong bytes (len + n) || !s.room || !(Nat.beq cs.length (len * size)) || !(Nat.beq esz (codeOf e size)) || !(ys.all isCell) || Nat.beq size 0 || !(Nat.ble (size + 1) tyBase) then none else
   some (.mg s.n (len + n), (s.put b .dead).new (.box (cs ++ ys) (codeOf e size)))
  | _ => none
 | _ => none
def appendX (mu : Bool) (e : TypeId) (s : St) (x y : AV) : Option (AV × St) :=
 match x with
 | .mg _ _ => appendM P e s x y
 | .v _ | .e0 => if mu then appendM P e s x y else appendA P e s x y
 | _ => appendA P e s x y

def sameKey : Value -> Value -> Option Bool
 | .int k a, .int k' b => if k = k' then some (a == b) else none
 | .string a, .string b => some (a == b)
 | _, _ => none
def findA (k : Value) : List (Value × AV) -> Option (Option AV)
 | [] => some none
 | e :: es => do if <- sameKey k e.1 then pure (some e.2) else findA k es
def findIn (s : St) (k : Value) : AV -> Option (Option AV)
 | .v (.map none) => some none
 | .mp m =>
  match s.get m with
  | some (.map es) => findA k es
  | _ => none
 | _ => none
def setA (k : Value) (x : AV) : List (Value × AV) -> Option (List (Value × AV))
 | [] => some [(k, x)]
 | e :: es => do if <- sameKey k e.1 then pure ((k, x) :: es) else do let r <- setA k x es; pure (e :: r)
def keyT (t : TypeId) (k : Value) : Bool :=
 match P.underlying t, k with
 | some .string, .string _ => true
 | some (.int _), .int _ _ => true
 | _, _ => false

def eqNil (t : TypeId) (x y : AV) : Option Bool :=
 match P.underlying t, x, y with
 | some (.pointer _), .ref _, .v (.pointer none) | some (.pointer _), .box _ _, .v (.pointer none)
 | some (.pointer _), .v (.pointer none), .ref _ | some (.pointer _), .v (.pointer none), .box _ _
 | some (.slice _), .sl _ _ _, .v (.slice none _ _) | some (.slice _), .ms _ _ _, .v (.slice none _ _) | some (.slice _), .mg _ _, .v (.slice none _ _) | some (.slice _), .e0, .v (.slice none _ _)
 | some (.map _ _), .mp _, .v (.map none)
 | some (.func _ _ _), .fn _ _ _, .v .nilFunc
 | some (.interface _), .iface _ _, .v .nilIface => some false
 | _, _, _ => none

def cmpV (op : BinOp) (x y : Value) : Option Bool :=
 match x, y with
 | .int k a, .int k' b =>
  if k = k' then
   match op with
   | .eql => some (a == b)
   | .neq => some (a != b)
   | .lss => some (decide (a < b))
   | .leq => some (decide (a <= b))
   | .gtr => some (decide (a > b))
   | .geq => some (decide (a ≥ b))
   | _ => none
  else none
 | .string a, .string b =>
  match op with
  | .eql => some (a.toList == b.toList)
  | .neq => some (!(a.toList == b.toList))
  | _ => none
 | _, _ => none
def keyIs (k x : Value) : Bool := match sameKey k x with | some true => true | _ => false
def symLook (op : BinOp) (l : Value) : List (BinOp × Value × Bool) -> Option Bool
 | [] => none
 | (o, m, b) :: r => if o = op && keyIs l m then some b else symLook op l r
def symCmp (op : BinOp) (a b : AV) : Option Bool :=
 match a, b with
 | .sy _ bits, .v l => symLook op l bits
 | .v l, .sy _ bits => if op = .eql then symLook op l bits else none
 | _, _ => none
def toE : AV -> Option (Ty × E)
 | .v (.int k i) => some (.i k, .lit (.int k i))
 | .v (.bool b) => some (.b, .lit (.bool b))
 | .v (.string x) => some (.s, .lit (.string x))
 | .x t e => some (t, e)
 | _ => none
def unNot : E -> Option E
 | .pr .not [c] => some c
 | _ => none
def selfCmp : E -> Option Bool
 | .pr (.icmp op) [a, b] => if eEq a b then (match op with | .eql => some true | .neq => some false | .lss => some false | .gtr => some false | .leq => some true | .geq => some true | _ => none) else none
 | _ => none
def ask (k : Kn) (e : E) : Option Bool :=
 if hasE e k.fx then some true else if hasE (.pr .not [e]) k.fx then some false else
 match unNot e with
 | some c => if hasE c k.fx then some false else none
 | none => selfCmp e
def mkB (k : Kn) (e : E) : AV :=
 match ask k e with
 | some b => .v (.bool b)
 | none => .x .b e
def eInt (i : Int) : E := .lit (.int .i64 i)
def litI : E -> Option Int
 | .lit (.int _ i) => some i
 | _ => none
def isLen : E -> Bool
 | .pr .slen _ | .pr .len _ => true
 | _ => false
def nonNeg (k : Kn) (e : E) : Bool :=
 match litI e with
 | some i => decide (0 <= i)
 | none => isLen e || hasE (.pr (.icmp .leq) [eInt 0, e]) k.fx
def textMax : Int := 1099511627776
def short (k : Kn) (e : E) : Bool :=
 match e with
 | .lit (.string x) => decide ((x.size : Int) <= textMax)
 | e => hasE (.pr (.icmp .leq) [.pr .slen [e], eInt textMax]) k.fx
def below (k : Kn) (a b : E) : Bool := hasE (.pr (.icmp .lss) [a, b]) k.fx
def upTo (k : Kn) (a b : E) : Bool := eEq a b || (match litI a with | some i => decide (i <= 0) && nonNeg k b | none => false) || hasE (.pr (.icmp .leq) [a, b]) k.fx
def symBin (k : Kn) (ub : Bool) (op : BinOp) (a b : AV) : Option AV :=
 match toE a, toE b with
 | some (.i k1, x), some (.i k2, y) =>
  match op with
  | .shl | .shr => if nonNeg k y then some (.x (.i k1) (.pr (.iop op k1) [x, y])) else none
  | .add | .sub | .mul | .and | .or | .xor | .andNot => if k1 = k2 then some (.x (.i k1) (.pr (.iop op k1) [x, y])) else none
  | .quo | .rem =>
   if k1 = k2 then
    match litI y with
    | some i => if i = 0 then none else some (.x (.i k1) (.pr (.iop op k1) [x, y]))
    | none => if hasE (.pr (.icmp .neq) [y, .lit (.int k1 0)]) k.fx then some (.x (.i k1) (.pr (.iop op k1) [x, y])) else none
   else none
  | .eql | .neq | .lss | .leq | .gtr | .geq => if k1 = k2 then some (mkB k (.pr (.icmp op) [x, y])) else none
 | some (.s, x), some (.s, y) =>
  match op with
  | .add => if short k x && short k y then some (.x .s (.pr .scat [x, y])) else none
  | .eql | .neq | .lss | .leq | .gtr | .geq => some (mkB k (.pr (.scmp op) [x, y]))
  | _ => none
 | some (.b, x), some (.b, y) =>
  match op with
  | .eql | .neq => if ub then some (mkB k (.pr (.bcmp op) [x, y])) else none
  | _ => none
 | _, _ => none
def eqFs (g : TypeId -> AV -> AV -> Option E) (P : Program) : List Field -> List AV -> List AV -> Option (List E)
 | [], _, _ => some []
 | f :: r, xs, ys =>
  if f.name == "_" then none else
  match partT P f.type xs f.offset, partT P f.type ys f.offset with
  | some a, some b =>
   match g f.type a b, eqFs g P r xs ys with
   | some e, some es => some (e :: es)
   | _, _ => none
  | _, _ => none
def eqT (P : Program) : Nat -> TypeId -> AV -> AV -> Option E
 | 0, _, _, _ => none
 | n + 1, t, a, b =>
  match P.underlying t, a, b with
  | some (.struct fs), .agg xs, .agg ys => if P.stoodInHeld t then none else (eqFs (eqT P n) P fs.toList xs ys).map (.pr .and)
  | some .bool, a, b => match toE a, toE b with | some (.b, x), some (.b, y) => some (.pr (.bcmp .eql) [x, y]) | _, _ => none
  | some (.int _), a, b => match toE a, toE b with | some (.i k, x), some (.i l, y) => if k = l then some (.pr (.icmp .eql) [x, y]) else none | _, _ => none
  | some .string, a, b => match toE a, toE b with | some (.s, x), some (.s, y) => some (.pr (.scmp .eql) [x, y]) | _, _ => none
  | _, _, _ => none
def symEqA (P : Program) (k : Kn) (op : BinOp) (t : TypeId) (a b : AV) : Option AV :=
 match a, b with
 | .agg _, .agg _ =>
  if P.eqGuardType P.depth t then none else
  match eqT P 10 t a b with
  | some e => match op with | .eql => some (mkB k e) | .neq => some (mkB k (.pr .not [e])) | _ => none
  | none => none
 | _, _ => none
def symMM (mx : Bool) (l : List AV) : Option AV :=
 match l with
 | [a, b] =>
  match toE a, toE b with
  | some (.i k1, x), some (.i k2, y) => if k1 = k2 then some (.x (.i k1) (.pr .ite [.pr (.icmp (bif mx then .gtr else .lss)) [y, x], y, x])) else none
  | _, _ => none
 | _ => none
def symUn (k : Kn) (op : UnOp) (a : AV) : Option AV :=
 match op, toE a with
 | .not, some (.b, x) => some (mkB k (.pr .not [x]))
 | .neg, some (.i k1, x) => some (.x (.i k1) (.pr (.neg k1) [x]))
 | _, _ => none
def symConv (src dst : Option TypeDesc) (a : AV) : Option AV :=
 match src, dst, toE a with
 | some _, some (.int k), some (.i _, x) => some (.x (.i k) (.pr (.conv k) [x]))
 | some _, some .string, some (.s, x) => some (.x .s x)
 | _, _, _ => none
def cellE (e : E) (j : Nat) : E :=
 match e with
 | .pr .row l => l.getD j .nil
 | e => .pr (.cell j) [e]
def cellA (e : E) (j : Nat) : CT -> AV
 | .sc t => .x t (cellE e j)
 | .sl t => .d t (cellE e j) none
def cellsA (e : E) : Nat -> List CT -> List AV
 | _, [] => []
 | j, c :: r => cellA e j c :: cellsA e (j + 1) r
def loadRow (P : Program) (k : Kn) (t : TypeId) (rt : Nat) (e : E) (off : Nat) : Option AV := do
 let sh := k.shape rt
 if <- isAggT P t then
  let n <- sizeT P t
  if Nat.ble (off + n) sh.length then some (.agg (cellsA e off ((sh.drop off).take n))) else none
 else do let c <- sh[off]?; pure (cellA e off c)
def lenE (e : E) : E := .pr .len [e]
def symAt (k : Kn) (e : E) (ix : AV) : Option E :=
 match toE ix with
 | some (.i _, i) => if nonNeg k i && below k i (lenE e) then some (.pr .at [e, i]) else none
 | _ => none
def symIndex (k : Kn) (a ix : AV) : Option AV :=
 match toE a, toE ix with
 | some (.s, x), some (.i _, i) => if nonNeg k i && below k i (.pr .slen [x]) then some (.x (.i .u8) (.pr .sat [x, i])) else none
 | _, _ => none
def boundE (d : E) : Option AV -> Option E
 | none => some d
 | some v => match toE v with | some (.i _, l) => some l | _ => none
def symSub (k : Kn) (a : AV) (lo hi : Option AV) : Option AV :=
 match toE a with
 | some (.s, x) =>
  match boundE (eInt 0) lo, boundE (.pr .slen [x]) hi with
  | some l, some h => if nonNeg k l && nonNeg k h && upTo k l h && upTo k h (.pr .slen [x]) then some (.x .s (.pr .ssub [x, l, h])) else none
  | _, _ => none
 | _ => none
def ptrEq (t : TypeId) (x y : AV) : Option Bool :=
 match P.underlying t, x, y with
 | some (.pointer e), .box i a, .box j b => if Nat.beq i j && Nat.beq a b && (P.info? e).isSome then some true else none
 | _, _, _ => none
def eqRef (t : TypeId) (x y : AV) : Option Bool :=
 match eqNil P t x y with
 | some r => some r
 | none => ptrEq P t x y

def toUnsafe (e : TypeId) (s : St) (x : AV) : Option (AV × St) :=
 match x with
 | .box i off =>
  match s.get i, sizeT P e with
  | some (.box cs _), some n => if Nat.ble (off + 1) cs.length && !(Nat.beq n 0) then some (.box i off, s) else none
  | _, _ => none
 | _ => none
def fromUnsafe (u : TypeId) (s : St) (x : AV) : Option (AV × St) :=
 match x with
 | .box i off =>
  match s.get i with
  | some (.box cs k) =>
   if Nat.ble tyBase k && Nat.beq (k % tyBase) 0 && (P.info? u).isSome && liesAt P P.depth (k / tyBase - 1) (cs.length / P.cellsOf (k / tyBase - 1)) off u 1 then some (.box i off, s) else none
  | _ => none
 | _ => none
def sliceData : AV -> Option AV
 | .mg b len => if Nat.ble 1 len then some (.box b 0) else none
 | .v (.slice none _ _) => some (.v (.pointer none))
 | _ => none
def rowOf (s : St) (b : Nat) : Option (List AV × Nat) :=
 match s.get b with
 | some (.box cs k) => some (cs, k)
 | some (.fz cs k) => some (cs, k)
 | _ => none
def bytesEx : List AV -> Option (List UInt8)
 | [] => some []
 | .v (.int .u8 (.ofNat m)) :: r =>
  if Nat.ble m 255 then
   match bytesEx r with
   | some l => some (UInt8.ofNat m :: l)
   | none => none
  else none
 | _ :: _ => none
def unsafeStr (pt : TypeId) (s : St) (x : AV) (n : Nat) : Option (AV × St) :=
 match x with
 | .v (.pointer none) => if Nat.beq n 0 then some (.v (.string .empty), s) else none
 | .box b 0 =>
  match rowOf s b, P.underlying pt with
  | some (cs, k), some (.pointer e) =>
   if Nat.ble 1 n && Nat.ble n cs.length && Nat.ble n (2 ^ 40) && Nat.beq (k % tyBase) 1 && Nat.beq (k / tyBase) (e + 1) && Nat.beq (P.cellsOf e) 1 then
    match bytesEx (cs.take n) with
    | some l => some (.v (.string ⟨l.toArray⟩), s.put b (.fz cs k))
    | none => none
   else none
  | _, _ => none
 | _ => none

def methodA (t : TypeId) (name : String) : Option FuncId :=
 match P.info? t with
 | none => none
 | some i =>
  match i.methods.find? (·.name == name) with
  | none => none
  | some m =>
   if !m.path.isEmpty then none else
   match m.func, P.underlying t with
   | some (f, true), some (.pointer _) => some f
   | some (f, false), some (.pointer _) => none
   | some (f, false), some _ => some f
   | _, _ => none

def isPan : AV -> Option AV
 | .pan y => some y
 | _ => none

abbrev Call := Fn -> List AV -> St -> Option (AV × St)

def scalarOp (T : Tm) (o : Oper) : Option AV := do
 let r <- runPure P (execOp (fun x => ((opd G T x).bind toValue).getD undef) o)
 match r with
 | .value v => outValue v
 | .skip => some und
 | _ => none

def allScalar (T : Tm) (xs : List Operand) : Bool := xs.all fun x => ((opd G T x).bind toValue).isSome

def callA (call : Call) (f : FuncId) (args : List AV) (s : St) : Option (AV × St) :=
 match P.funcs[f]? with
 | none => none
 | some fn =>
  match fn.body with
  | some _ => call (.func f) args s
  | none =>
   if fn.name == "internal/abi.NoEscape" && (Extern.findNext fn).isNone then (match args with | [x] => some (x, s) | _ => none) else do
   let vs <- unAll args
   let r <- runPure P (callFunc f vs.toArray)
   match r with
   | .value v => do let x <- outValue v; pure (x, s)
   | _ => none

def callB (call : Call) (f : FuncId) (args : List AV) (s : St) : Option (AV × St) :=
 match P.funcs[f]? with
 | none => none
 | some fn =>
  match fn.body with
  | some _ =>
   match call (.func f) args s with
   | some (x, s') => if (isPan x).isNone then some (x, s') else none
   | none => none
  | none => none

def parts (T : Tm) : List (Nat × Operand) -> Option (List (Nat × AV))
 | [] => some []
 | (i, x) :: r => do let a <- opd G T x; let b <- parts T r; pure ((i, a) :: b)

def rep (z : List AV) : Nat -> List AV
 | 0 => []
 | n + 1 => z ++ rep z n

def evOp1 (call : Call) (o : Oper) (T : Tm) (s : St) : Option (AV × St) :=
 match o.op with
 | .move x | .assign x => do let a <- opd G T x; pure (a, s)
 | .pick c a b => do
  match <- opd G T c with
  | .v (.bool true) => do let x <- opd G T a; pure (x, s)
  | .v (.bool false) => do let x <- opd G T b; pure (x, s)
  | _ => none
 | .alloc t => do
  let z <- zeroCellsT P t
  if s.room then some (.box s.n 0, s.new (.box z (codeOf t 0))) else none
 | .box _ x => do
  let a <- opd G T x
  if s.room && (cellsOf a).all isCell then some (.box s.n 0, s.new (.box (cellsOf a) 0)) else none
 | .build t ps => do
  let z <- zeroCellsT P t
  let ps <- parts G T ps.toList
  match P.underlying t with
  | some (.struct fs) => do
   let pl <- places P fs.toList
   let cs <- fillA (pl[·]?) z ps
   pure (.agg cs, s)
  | some (.array _ e) => do
   let size <- sizeT P e
   let cs <- fillA (fun i => some (i * size, size)) z ps
   pure (.agg cs, s)
  | _ => none
 | .buildSlice t len ps => do
  match P.underlying t with
  | some (.slice e) => do
   let size <- sizeT P e
   let z <- zeroCellsT P e
   let ps <- parts G T ps.toList
   if !(Nat.beq z.length size) || !(Nat.ble (len * size) (2 ^ 24)) then none else
   let cs <- fillA (fun i => some (i * size, size)) (rep z len) ps
   if T.mu.2 then (if cs.all isCell then some (.sl cs len none, s) else none)
   else if s.room && cs.all isCell then some (.sl cs len (some s.n), s.new (.row (.c (len * size)) size)) else none
  | _ => none
 | .load t a => do
  match <- opd G T a with
  | .rd rt e off => do let x <- loadRow P s.k t rt e off; pure (x, s)
  | .ref cs => do let x <- takeT P t cs; pure (x, s)
  | .box b off =>
   match s.get b with
   | some (.box c _) => do let x <- takeT P t (c.drop off); pure (x, s)
   | _ => none
  | _ => none
 | .store t a x => do
  let y <- opd G T x
  let n <- sizeT P t
  let cs := cellsOf y
  match <- opd G T a with
  | .box b off =>
   match s.get b with
   | some (.box c e) =>
    if Nat.beq cs.length n && Nat.ble (off + n) c.length && cs.all isCell then some (und, s.put b (.box (c.take off ++ cs ++ c.drop (off + n)) e)) else none
   | _ => none
  | _ => none
 | .nilCheck x => do
  match <- opd G T x with
  | .ref cs => pure (.ref cs, s)
  | .box b off => pure (.box b off, s)
  | .fn (.func f) a b => pure (.fn (.func f) a b, s)
  | _ => none
 | .binOp op t x y _ =>
  if allScalar G T [x, y] then (scalarOp P G T o).map (·, s) else do
   let a <- opd G T x
   let b <- opd G T y
   match symCmp op a b with
   | some r => pure (.v (.bool r), s)
   | none =>
    match symBin s.k (match P.underlying t with | some .bool => true | _ => false) op a b with
    | some r => pure (r, s)
    | none =>
     match symEqA P s.k op t a b with
     | some r => pure (r, s)
     | none => do
      let r <- eqRef P t a b
      match op with
      | .eql => pure (.v (.bool r), s)
      | .neq => pure (.v (.bool !r), s)
      | _ => none
 | .unOp op _ x => if allScalar G T [x] then (scalarOp P G T o).map (·, s) else do
  let a <- opd G T x
  let r <- symUn s.k op a
  pure (r, s)
 | .convert src dst x =>
  match P.underlying src, P.underlying dst with
  | some .string, some (.slice e) => do
   match P.underlying e, <- opd G T x with
   | some (.int .u8), .v (.string b) =>
    if s.room && Nat.ble b.size (2 ^ 40) then some (.sl (b.data.toList.map fun c => .v (.int .u8 c.toNat)) b.size (some s.n), s.new (.row (.c b.size) 1)) else none
   | _, _ => none
  | some (.slice e), some .string => do
   match P.underlying e with
   | some (.int .u8) => do
    let a <- opd G T x
    match a with
    | .v (.slice none _ _) => pure (.v (.string .empty), s)
    | .e0 => pure (.v (.string .empty), s)
    | .sl _ _ _ | .ms _ _ _ | .mg _ _ => do
     let (cs, _) <- heldBy s 1 a
     let b <- bytesOfCells cs
     pure (.v (.string b), s)
    | _ => none
   | _ => none
  | some (.slice e), some (.slice _) => do
   match P.underlying e, <- opd G T x with
   | some (.int .u8), .sl cs len (some t) =>
    match s.get t with
    | some (.row tip esz) => if Nat.beq src dst then pure (.sl cs len (some t), s.put t (.row tip esz)) else none
    | _ => none
   | _, _ => none
  | some (.pointer e), some .unsafePointer => do toUnsafe P e s (<- opd G T x)
  | some .unsafePointer, some (.pointer u) => do fromUnsafe P u s (<- opd G T x)
  | _, _ => if allScalar G T [x] then (scalarOp P G T o).map (·, s) else do
   let a <- opd G T x
   let r <- symConv (P.underlying src) (P.underlying dst) a
   pure (r, s)
 | .makeFunc fn first captured => do
  let a <- opds G T first.toList
  let b <- opds G T captured.toList
  match fn with
  | .func f => pure (.fn (.func f) a b, s)
  | _ => none
 | .makeInterface t x =>
  match P.underlying t with
  | none | some (.interface _) => none
  | some _ => do let a <- opd G T x; pure (.iface t a, s)
 | .typeAssert x _ t ok =>
  match P.underlying t with
  | none | some (.interface _) => none
  | some _ => do
   match <- opd G T x with
   | .iface u a =>
    if Nat.beq u t then (if ok then pure (.tup [a, .v (.bool true)], s) else pure (a, s))
    else if ok then do let z <- (zeroT P t).bind ofValue; pure (.tup [z, .v (.bool false)], s) else none
   | _ => none
 | .panic x => do
  match <- opd G T x with
  | .iface t a => pure (.pan (.iface t a), s)
  | _ => none
 | .makeMap _ r =>
  match r with
  | none => if s.room then some (.mp s.n, s.new (.map [])) else none
  | some _ => none
 | .makeSlice t l c => do
  match P.underlying t with
  | some (.slice e) => do
   let size <- sizeT P e
   let bytes <- bytesT P e
   let z <- zeroCellsT P e
   let l <- asNat (<- opd G T l)
   let c <- asNat (<- opd G T c)
   if !(Nat.beq z.length size) || !s.room || !(Nat.ble (bytes * c) (2 ^ 40)) || !(Nat.ble c (2 ^ 40)) then none else
   if Nat.beq l c then some (.ms s.n 0 l, s.new (.box (rep z l) 0)) else
   if Nat.beq l 0 then some (.sl [] 0 (some s.n), s.new (.row (.c 0) size)) else none
  | _ => none
 | .slice t x lo hi mx => do
  match P.underlying t with
  | some .string =>
   if !mx.isNone then none else
   if allScalar G T (x :: (lo.toList ++ hi.toList)) then (scalarOp P G T o).map (·, s) else do
    let a <- opd G T x
    let l <- opdO G T lo
    let h <- opdO G T hi
    let r <- symSub s.k a l h
    pure (r, s)
  | some (.slice e) => do
   let size <- sizeT P e
   let l <- bnd G T lo 0
   let a <- opd G T x
   match mx with
   | some m => do
    let h <- bnd0 G T hi
    let m <- asNat (<- opd G T m)
    if Nat.beq l 0 && Nat.beq h 0 && Nat.beq m 0 then
     match a with
     | .v (.slice none x y) => pure (.v (.slice none x y), s)
     | .sl _ _ _ | .ms _ _ _ | .mg _ _ | .e0 => pure (.e0, s)
     | _ => none
    else none
   | none =>
    match a with
    | .v (.slice none x y) => do
     let h <- bnd G T hi 0
     if Nat.beq l 0 && Nat.beq h 0 then pure (.v (.slice none x y), s) else none
    | .e0 => do
     let h <- bnd G T hi 0
     if Nat.beq l 0 && Nat.beq h 0 then pure (.e0, s) else none
    | .sl cs len tok => do
     let h <- bnd G T hi len
     if !(Nat.ble l h) || !(Nat.ble h len) then none else
     if Nat.beq l len then pure (.sl [] 0 none, s) else
     pure (.sl (cs.drop (l * size)) (h - l) (if Nat.beq l 0 && Nat.beq h len then tok else none), s)
    | .ms b off len => do
     let h <- bnd G T hi len
     if !(Nat.ble l h) || !(Nat.ble h len) then none else
     if Nat.beq l len then pure (.sl [] 0 none, s) else
     pure (.ms b (off + l * size) (h - l), s)
    | .mg b len => do
     let h <- bnd G T hi len
     if !(Nat.ble l h) || !(Nat.ble h len) then none else
     if Nat.beq l len then pure (.sl [] 0 none, s) else
     if Nat.beq l 0 && Nat.beq h len then pure (.mg b len, s) else
     pure (.ms b (l * size) (h - l), s)
    | _ => none
  | some (.array n e) => do
   let size <- sizeT P e
   let l <- bnd G T lo 0
   let h <- bnd G T hi n
   if mx.isSome || !(Nat.ble l h) || !(Nat.ble h n) then none else
   if Nat.beq l n then none else
   match <- opd G T x with
   | .box b off => pure (.ms b (off + l * size) (h - l), s)
   | .ref cs => pure (.sl (cs.drop (l * size)) (h - l) none, s)
   | _ => none
  | _ => none
 | .fieldAddr st x f => do
  match P.underlying st with
  | some (.struct fs) => do
   let f <- fs[f]?
   let size <- sizeT P f.type
   if Nat.beq size 0 then none else
   match <- opd G T x with
   | .ref cs => pure (.ref (cs.drop f.offset), s)
   | .rd rt e off => pure (.rd rt e (off + f.offset), s)
   | .box b off => pure (.box b (off + f.offset), s)
   | _ => none
  | _ => none
 | .field t x f => do
  match P.underlying t with
  | some (.struct fs) => do
   let f <- fs[f]?
   match <- opd G T x with
   | .agg cs => do let y <- partT P f.type cs f.offset; pure (y, s)
   | _ => none
  | _ => none
 | .indexAddr t x ix => do
  match <- opd G T x, P.underlying t with
  | .d rt e _, some (.slice el) => do
   let size <- sizeT P el
   if !(Nat.beq (s.k.shape rt).length size) then none else do
   let v <- opd G T ix
   let e' <- symAt s.k e v
   pure (.rd rt e' 0, s)
  | _, _ => do
  let i <- asNat (<- opd G T ix)
  match P.underlying t with
  | some (.slice e) => do
   let size <- sizeT P e
   match <- opd G T x with
   | .sl cs len _ => if Nat.ble (i + 1) len then pure (.ref (cs.drop (i * size)), s) else none
   | .ms b off len => if Nat.ble (i + 1) len then pure (.box b (off + i * size), s) else none
   | .mg b len => if Nat.ble (i + 1) len then pure (.box b (i * size), s) else none
   | _ => none
  | some (.array len e) => do
   let size <- sizeT P e
   match <- opd G T x with
   | .ref cs => if Nat.ble (i + 1) len then pure (.ref (cs.drop (i * size)), s) else none
   | .box b off => if Nat.ble (i + 1) len then pure (.box b (off + i * size), s) else none
   | _ => none
  | _ => none
 | .index t x ix => do
  match P.underlying t with
  | some (.array len e) => do
   let i <- asNat (<- opd G T ix)
   let size <- sizeT P e
   match <- opd G T x with
   | .agg cs => if Nat.ble (i + 1) len then do let y <- partT P e cs (i * size); pure (y, s) else none
   | _ => none
  | _ => if allScalar G T [x, ix] then (scalarOp P G T o).map (·, s) else
   match P.underlying t with
   | some .string => do
    let a <- opd G T x
    let i <- opd G T ix
    let r <- symIndex s.k a i
    pure (r, s)
   | _ => none
 | .lookup t x ix ok => do
  match P.underlying t with
  | some (.map k e) => do
   let key <- unSc (<- opd G T ix)
   let z <- (zeroT P e).bind ofValue
   if !(keyT P k key) then none else
   let r <- findIn s key (<- opd G T x)
   let v := r.getD z
   if ok then pure (.tup [v, .v (.bool r.isSome)], s) else pure (v, s)
  | _ => none
 | .mapUpdate t m k x | .insert t m k x => do
  match P.underlying t with
  | some (.map kt _) => do
   let key <- unSc (<- opd G T k)
   let y <- opd G T x
   if !(keyT P kt key) then none else
   match <- opd G T m with
   | .mp m =>
    match s.get m with
    | some (.map es) => do let es' <- setA key y es; pure (und, s.put m (.map es'))
    | _ => none
   | _ => none
  | _ => none
 | .extract t ix => do
  match <- opd G T t with
  | .tup vs => do let v <- vs[ix]?; pure (v, s)
  | _ => none
 | .call c => do
  let args : List AV <- opds G T c.args.toList
  match c.callee with
  | .builtin .len => do
   let t0 : TypeId <- c.argTypes[0]?
   match P.underlying t0, (args.head? : Option AV) with
   | some .string, some (.v (.string b)) => pure (.v (goInt b.size), s)
   | some .string, some (.x .s e) => pure (.x (.i .i64) (.pr .slen [e]), s)
   | some (.slice _), some (.d _ e _) => pure (.x (.i .i64) (lenE e), s)
   | some (.slice _), some (.v (.slice none l _)) => pure (.v (goInt l), s)
   | some (.slice _), some .e0 => pure (.v (goInt 0), s)
   | some (.slice _), some (.sl _ len _) => pure (.v (goInt len), s)
   | some (.slice _), some (.ms _ _ len) => pure (.v (goInt len), s)
   | some (.slice _), some (.mg _ len) => pure (.v (goInt len), s)
   | some (.array n _), some _ => pure (.v (goInt n), s)
   | some (.map _ _), some (.v (.map none)) => pure (.v (goInt 0), s)
   | some (.map _ _), some (.mp m) =>
    match s.get m with
    | some (.map es) => pure (.v (goInt es.length), s)
    | _ => none
   | _, _ => none
  | .builtin .append => do
   let t0 : TypeId <- c.argTypes[0]?
   let t1 : TypeId <- c.argTypes[1]?
   match P.underlying t0, args with
   | some (.slice e), [x, y] =>
    match P.underlying t1 with
    | some (.slice _) | some .string => appendX P T.mu.1 e s x y
    | _ => none
   | _, _ => none
  | .builtin .copy => do
   let t0 : TypeId <- c.argTypes[0]?
   match P.underlying t0, args with
   | some (.slice e), [.ms b off len, y] => do
    let size <- sizeT P e
    let (ys, n) <- heldBy s size y
    match s.get b with
    | some (.box d e) =>
     let k := Nat.min n len
     let cs := ys.take (k * size)
     if Nat.ble (off + k * size) d.length && Nat.beq cs.length (k * size) && cs.all isCell && Nat.beq ys.length (n * size) then some (.v (goInt k), s.put b (.box (d.take off ++ cs ++ d.drop (off + k * size)) e)) else none
    | _ => none
   | _, _ => none
  | .builtin .max => if allScalar G T c.args.toList then (scalarOp P G T o).map (·, s) else (symMM true args).map (·, s)
  | .builtin .min => if allScalar G T c.args.toList then (scalarOp P G T o).map (·, s) else (symMM false args).map (·, s)
  | .builtin .unsafeSliceData =>
   match args with
   | [x] => do pure (<- sliceData x, s)
   | _ => none
  | .builtin .unsafeString =>
   match c.argTypes.toList, args with
   | [pt, _], [x, .v (.int .i64 (.ofNat n))] => unsafeStr P pt s x n
   | _, _ => none
  | .builtin _ => none
  | .invoke recv name => do
   match <- opd G T recv with
   | .iface t x => do callA P call (<- methodA P t name) (x :: args) s
   | _ => none
  | .value f => do
   match <- opd G T f with
   | .fn (.func g) first captured => callA P call g (first ++ args ++ captured) s
   | .fn (.yield l) [] [] => call (.yield l) args s
   | _ => none
 | _ => none

mutual
def cellX (k : Kn) : Nat -> CT -> AV -> Option E
 | 0, _, _ => none
 | n + 1, c, a =>
  match c, a with
  | .sl t, .d t' e _ => if t = t' then some e else none
  | .sl _, .v (.slice none 0 0) => some (.pr .lst [])
  | .sl _, .e0 => some (.pr .lst [])
  | .sl t, .sl cs len _ => (rowsX k n t len cs).map (.pr .lst)
  | .sc t, a =>
   match toE a with
   | some (t', e) => if t = t' then some e else none
   | none => none
  | _, _ => none
def rowsX (k : Kn) : Nat -> Nat -> Nat -> List AV -> Option (List E)
 | 0, _, _, _ => none
 | n + 1, t, len, cs =>
  match len with
  | 0 => some []
  | len + 1 =>
   match cellsX k n (k.shape t) cs, rowsX k n t len (cs.drop (k.shape t).length) with
   | some r, some rest => some (.pr .row r :: rest)
   | _, _ => none
def cellsX (k : Kn) : Nat -> List CT -> List AV -> Option (List E)
 | 0, _, _ => none
 | n + 1, ct, cs =>
  match ct, cs with
  | [], _ => some []
  | c :: r, a :: as =>
   match cellX k n c a, cellsX k n r as with
   | some x, some y => some (x :: y)
   | _, _ => none
  | _ :: _, [] => none
end
def tyT (t : TypeId) : Option Ty :=
 match P.underlying t with
 | some (.int k) => some (.i k)
 | some .bool => some .b
 | some .string => some .s
 | _ => none
def entE (kt ct : Ty) : List (Value × AV) -> Option (List E)
 | [] => some []
 | (k, a) :: r =>
  match toE (.v k), toE a, entE kt ct r with
  | some (t, ek), some (u, ea), some rest => if t = kt then (if u = ct then some (.pr .row [ek, ea] :: rest) else none) else none
  | _, _, _ => none
def mapE (kt ct : Ty) : Option AObj -> Option E
 | some (.map es) => (entE kt ct es).map (.pr .lst)
 | some (.sym (.map kt' ct' e)) => if kt = kt' then (if ct = ct' then some e else none) else none
 | _ => none
def mkX (k : Kn) (t : Ty) (e : E) : AV :=
 match t with
 | .b => mkB k e
 | t => .x t e
def symLookup (s : St) (t : TypeId) (x ix : AV) (ok : Bool) : Option AV :=
 match P.underlying t, x with
 | some (.map k e), .mp m =>
  match tyT P k, tyT P e, toE ix, zeroT P e with
  | some kt, some ct, some (kt', ek), some z =>
   if kt = kt' && !(kt = .b) && tyV ct z then
    match mapE kt ct (s.get m) with
    | some em => some (if ok then .tup [mkX s.k ct (.pr .mget [em, ek, .lit z]), mkB s.k (.pr .mhas [em, ek])] else mkX s.k ct (.pr .mget [em, ek, .lit z]))
    | none => none
   else none
  | _, _, _, _ => none
 | _, _ => none
def symUpdate (s : St) (t : TypeId) (x ix y : AV) : Option St :=
 match P.underlying t, x with
 | some (.map k e), .mp m =>
  match tyT P k, tyT P e, toE ix, toE y with
  | some kt, some ct, some (kt', ek), some (ct', ey) =>
   if kt = kt' && !(kt = .b) && ct = ct' then
    match mapE kt ct (s.get m) with
    | some em => some (s.put m (.sym (.map kt ct (.pr .mset [em, ek, ey]))))
    | none => none
   else none
  | _, _, _, _ => none
 | _, _ => none
def rowMax : Nat := 4294967296
def few (k : Kn) (bytes : Nat) (e : E) : Bool := hasE (.pr (.icmp .leq) [lenE e, eInt rowMax]) k.fx && !(tooLong bytes rowMax)
def rowsE (s : St) (t size : Nat) (y : AV) : Option E :=
 match y with
 | .d t' e _ => if t = t' then some e else none
 | .x .s e => if decide (s.k.shape t = [.sc (.i .u8)]) then some (.pr .los [e]) else none
 | y =>
  match heldBy s size y with
  | some (ys, n) => if Nat.beq ys.length (n * size) then (rowsX s.k 1000 t n ys).map (.pr .lst) else none
  | none => none
def ownE (s : St) (t size : Nat) (x : AV) : Option (E × Nat) :=
 match x with
 | .d t' e (some tk) =>
  match s.get tk with
  | some (.row (.e e' w) esz) => if t = t' then (if eEq e e' && Nat.beq w size && Nat.beq esz size && Nat.ble (tk + 1) s.n then some (e, tk) else none) else none
  | _ => none
 | .sl cs len (some tk) =>
  match s.get tk with
  | some (.row (.c tip) esz) => if Nat.beq tip (len * size) && Nat.beq esz size && Nat.ble (tk + 1) s.n && Nat.ble (len * size) cs.length then (rowsX s.k 1000 t len (cs.take (len * size))).map fun l => (.pr .lst l, tk) else none
  | _ => none
 | _ => none
def symAppend (el : TypeId) (s : St) (x y : AV) : Option (AV × St) := do
 let size <- sizeT P el
 let bytes <- bytesT P el
 let z <- zeroCellsT P el
 if !(Nat.beq (s.k.shape el).length size) || Nat.beq size 0 || !(Nat.beq z.length size) || !s.room then none else
 let ey <- rowsE s el size y
 match x with
 | .v (.slice none 0 0) => if few s.k bytes ey then some (.d el ey none, s) else none
 | x => do
  let (ex, tk) <- ownE s el size x
  if few s.k bytes (.pr .cat [ex, ey]) then some (.d el (.pr .cat [ex, ey]) (some s.n), (s.put tk .dead).new (.row (.e (.pr .cat [ex, ey]) size) size)) else none
def bytesE : List AV -> Option (List E)
 | [] => some []
 | a :: r =>
  match toE a, bytesE r with
  | some (.i .u8, e), some l => some (e :: l)
  | _, _ => none
def litOf (k : Kn) (kd : IntKind) (e : E) (n : Nat) : Option Nat := (List.range n).find? fun i => hasE (.pr (.icmp .eql) [e, .lit (.int kd i)]) k.fx
def evSym0 (o : Oper) (T : Tm) (s : St) : Option (AV × St) :=
 match o.op with
 | .convert src dst x =>
  match P.underlying src, P.underlying dst with
  | some (.slice e), some .string =>
   match P.underlying e with
   | some (.int .u8) => do
    let a <- opd G T x
    match a with
    | .sl cs len tok => do
     let p <- heldBy s 1 (.sl cs len tok)
     let es <- bytesE p.1
     pure (.x .s (.pr .sofb es), s)
    | _ => none
   | _ => none
  | _, _ => none
 | .indexAddr t x ix =>
  match P.underlying t with
  | some (.slice el) => do
   let v <- opd G T ix
   let c <- opd G T x
   let size <- sizeT P el
   match v, c with
   | .x (.i kd) e, .sl cs len _ => do
    let i <- litOf s.k kd e len
    if Nat.ble (i + 1) len then pure (.ref (cs.drop (i * size)), s) else none
   | .x (.i kd) e, .ms b off len => do
    let i <- litOf s.k kd e len
    if Nat.ble (i + 1) len then pure (.box b (off + i * size), s) else none
   | .x (.i kd) e, .mg b len => do
    let i <- litOf s.k kd e len
    if Nat.ble (i + 1) len then pure (.box b (i * size), s) else none
   | _, _ => none
  | some (.array len el) => do
   let v <- opd G T ix
   let c <- opd G T x
   let size <- sizeT P el
   match v, c with
   | .x (.i kd) e, .ref cs => do
    let i <- litOf s.k kd e len
    if Nat.ble (i + 1) len then pure (.ref (cs.drop (i * size)), s) else none
   | .x (.i kd) e, .box b off => do
    let i <- litOf s.k kd e len
    if Nat.ble (i + 1) len then pure (.box b (off + i * size), s) else none
   | _, _ => none
  | _ => none
 | .lookup t x ix ok => do
  let a <- opd G T x
  let i <- opd G T ix
  let r <- symLookup P s t a i ok
  pure (r, s)
 | .mapUpdate t m k x | .insert t m k x => do
  let a <- opd G T m
  let i <- opd G T k
  let y <- opd G T x
  let s' <- symUpdate P s t a i y
  pure (und, s')
 | .call c =>
  match c.callee with
  | .builtin .append => do
   let t0 : TypeId <- c.argTypes[0]?
   let t1 : TypeId <- c.argTypes[1]?
   match P.underlying t0, P.underlying t1, c.args.toList with
   | some (.slice e), some (.slice _), [ox, oy] => do
    let x <- opd G T ox
    let y <- opd G T oy
    symAppend P e s x y
   | _, _, _ => none
  | .builtin .len => do
   let t0 : TypeId <- c.argTypes[0]?
   match P.underlying t0, c.args.toList with
   | some (.map _ _), [ox] => do
    match <- opd G T ox with
    | .mp m =>
     match s.get m with
     | some (.sym (.map _ _ e)) => pure (.x (.i .i64) (lenE e), s)
     | _ => none
    | _ => none
   | _, _ => none
  | _ => none
 | _ => none

def isLit0 (e : E) : Bool := eEq e (eInt 0)
def lenF : Nat -> E -> E
 | 0, e => lenE e
 | n + 1, e =>
  match e with
  | .pr .upd [l, _, _] => lenF n l
  | .pr .lst l => eInt l.length
  | .pr .rep [.lit (.int .i64 (.ofNat m)), _] => eInt (.ofNat m)
  | e => lenE e
def lenN (e : E) : E := lenF 1000 e
def belowN (k : Kn) (a b : E) : Bool := below k a b || (match litI a, litI b with | some i, some j => decide (i < j) | _, _ => false)
def upToN (k : Kn) (a b : E) : Bool := upTo k a b || (match litI a, litI b with | some i, some j => decide (i <= j) | _, _ => false)
def fewE (k : Kn) (e : E) : Bool := (match litI e with | some i => decide (i <= (rowMax : Int)) | none => false) || hasE (.pr (.icmp .leq) [e, eInt rowMax]) k.fx
def int64E (a : AV) : Option E := match toE a with | some (.i .i64, e) => some e | _ => none
def bndA (d : E) : Option AV -> Option E
 | none => some d
 | some v => int64E v
def intE (a : AV) : Option E := match toE a with | some (.i _, e) => some e | _ => none
def enOk (k : Kn) (en e : E) : Bool := eEq en (lenN e) || hasE (.pr (.icmp .eql) [en, lenN e]) k.fx
def bytesSh (k : Kn) (t : Nat) : Bool := decide (k.shape t = [.sc (.i .u8)])
def arAt (s : St) (t : TypeId) (c v : AV) : Option AV :=
 match intE v with
 | some i =>
  match P.underlying t with
  | some (.slice el) =>
   match sizeT P el with
   | some size =>
    match c with
    | .so b off en _ wd => if isLit0 off && Nat.beq wd size && nonNeg s.k i && belowN s.k i en then some (.po b i wd) else none
    | _ => none
   | none => none
  | some (.array n el) =>
   match sizeT P el with
   | some size =>
    match c with
    | .box b 0 =>
     match s.get b with
     | some (.ar _ _ _) => if nonNeg s.k i && belowN s.k i (eInt n) then some (.po b i size) else none
     | _ => none
    | _ => none
   | none => none
  | _ => none
 | none => none
def arLoad (s : St) (t : TypeId) (a : AV) : Option AV :=
 match a with
 | .po b i wd =>
  match s.get b with
  | some (.ar rt e _) => if Nat.beq (s.k.shape rt).length wd && nonNeg s.k i && belowN s.k i (lenN e) then loadRow P s.k t rt (.pr .at [e, i]) 0 else none
  | _ => none
 | _ => none
def arStore (s : St) (t : TypeId) (a y : AV) : Option St :=
 match a with
 | .po b i wd =>
  match s.get b, sizeT P t with
  | some (.ar rt e z), some n =>
   if Nat.beq n wd && Nat.beq (s.k.shape rt).length wd && Nat.beq (cellsOf y).length wd && (cellsOf y).all isCell && nonNeg s.k i && belowN s.k i (lenN e) then
    (cellsX s.k 100000 (s.k.shape rt) (cellsOf y)).map fun es => s.put b (.ar rt (.pr .upd [e, i, .pr .row es]) z)
   else none
  | _, _ => none
 | _ => none
def arSlice (s : St) (t : TypeId) (c : AV) (lo hi : Option AV) : Option AV :=
 match P.underlying t with
 | some (.array n el) =>
  match sizeT P el with
  | some size =>
   match c with
   | .box b 0 =>
    match s.get b, bndA (eInt 0) lo, bndA (eInt n) hi with
    | some (.ar _ _ _), some l, some h => if nonNeg s.k l && nonNeg s.k h && upToN s.k l h && upToN s.k h (eInt n) then some (.so b l h false size) else none
    | _, _, _ => none
   | _ => none
  | none => none
 | some (.slice el) =>
  match sizeT P el with
  | some size =>
   match c with
   | .so b off en _ wd =>
    match bndA (eInt 0) lo, bndA en hi with
    | some l, some h => if isLit0 off && Nat.beq wd size && nonNeg s.k l && nonNeg s.k h && upToN s.k l h && upToN s.k h en then some (.so b l h false wd) else none
    | _, _ => none
   | .d rt e _ =>
    match bndA (eInt 0) lo, bndA (lenE e) hi with
    | some l, some h => if Nat.beq (s.k.shape rt).length size && nonNeg s.k l && nonNeg s.k h && upToN s.k l h && upToN s.k h (lenE e) then some (.d rt (.pr .sub [e, l, h]) none) else none
    | _, _ => none
   | _ => none
  | none => none
 | _ => none
def arStr (s : St) (x : AV) : Option AV :=
 match x with
 | .so b off en _ wd =>
  match s.get b with
  | some (.ar rt e _) => if Nat.beq wd 1 && bytesSh s.k rt && upToN s.k en (lenN e) then some (.x .s (.pr .sofl [if isLit0 off && eEq en (lenN e) then e else .pr .sub [e, off, en]])) else none
  | _ => none
 | .d t e _ => if bytesSh s.k t then some (.x .s (.pr .sofl [e])) else none
 | _ => none
def arAppend (el : TypeId) (s : St) (x y : AV) : Option (AV × St) := do
 let size <- sizeT P el
 let bytes <- bytesT P el
 let z <- zeroCellsT P el
 if !(Nat.beq (s.k.shape el).length size) || Nat.beq size 0 || !(Nat.beq z.length size) || !s.room || !(Nat.ble (size + 1) tyBase) then none else
 let ey <- rowsE s el size y
 match x with
 | .so b off en true wd =>
  match s.get b with
  | some (.ar rt e z) =>
   if Nat.beq rt el && isLit0 off && eEq en (lenN e) && Nat.beq z (codeOf el size) && Nat.beq wd size && few s.k bytes (.pr .cat [e, ey]) then
    some (.so s.n (eInt 0) (lenN (.pr .cat [e, ey])) true wd, (s.put b .dead).new (.ar el (.pr .cat [e, ey]) (codeOf el size)))
   else none
  | _ => none
 | _ => none
def evArr (o : Oper) (T : Tm) (s : St) : Option (AV × St) :=
 match o.op with
 | .indexAddr t x ix => do
  let c <- opd G T x
  let v <- opd G T ix
  let r <- arAt P s t c v
  pure (r, s)
 | .load t a => do
  let c <- opd G T a
  let r <- arLoad P s t c
  pure (r, s)
 | .store t a x => do
  let c <- opd G T a
  let y <- opd G T x
  let s' <- arStore P s t c y
  pure (und, s')
 | .slice t x lo hi mx =>
  if !mx.isNone then none else do
  let c <- opd G T x
  let l <- opdO G T lo
  let h <- opdO G T hi
  let r <- arSlice P s t c l h
  pure (r, s)
 | .convert src dst x =>
  match P.underlying src, P.underlying dst with
  | some (.slice e), some .string =>
   match P.underlying e with
   | some (.int .u8) => do
    let c <- opd G T x
    let r <- arStr s c
    pure (r, s)
   | _ => none
  | some .string, some (.slice e) =>
   match P.underlying e with
   | some (.int .u8) => do
    match <- opd G T x with
    | .x .s ex => if s.room && bytesSh s.k e then some (.d e (.pr .los [ex]) (some s.n), s.new (.row (.e (.pr .los [ex]) 1) 1)) else none
    | _ => none
   | _ => none
  | _, _ => none
 | .call c =>
  match c.callee with
  | .builtin .len => do
   let t0 : TypeId <- c.argTypes[0]?
   match P.underlying t0, c.args.toList with
   | some (.slice _), [ox] => do
    match <- opd G T ox with
    | .so _ off en _ _ => if isLit0 off then some (.x (.i .i64) en, s) else if fewE s.k en then some (.x (.i .i64) (.pr (.iop .sub .i64) [en, off]), s) else none
    | _ => none
   | _, _ => none
  | .builtin .append => do
   let t0 : TypeId <- c.argTypes[0]?
   let t1 : TypeId <- c.argTypes[1]?
   match P.underlying t0, P.underlying t1, c.args.toList with
   | some (.slice e), some d, [ox, oy] => do
    match d with
    | .slice _ | .string => do
     let x <- opd G T ox
     let y <- opd G T oy
     match x with
     | .so _ _ _ _ _ => arAppend P e s x y
     | x => match d with | .string => symAppend P e s x y | _ => none
    | _ => none
   | _, _, _ => none
  | _ => none
 | _ => none
def arMake (t : TypeId) (s : St) (l c : AV) : Option (AV × St) :=
 match P.underlying t with
 | some (.slice e) => do
  let size <- sizeT P e
  let bytes <- bytesT P e
  let z <- zeroCellsT P e
  let el <- int64E l
  let ec <- int64E c
  let es <- cellsX s.k 100000 (s.k.shape e) z
  if Nat.beq (s.k.shape e).length size && !(Nat.beq size 0) && Nat.beq z.length size && s.room && Nat.ble (size + 1) tyBase && eEq el ec && nonNeg s.k el && fewE s.k el && Nat.ble bytes 256 then
   some (.so s.n (eInt 0) el true size, s.new (.ar e (.pr .rep [el, .pr .row es]) (codeOf e size)))
  else none
 | _ => none
def arCopy (el : TypeId) (s : St) (x y : AV) : Option (AV × St) := do
 let size <- sizeT P el
 let ey <- rowsE s el size y
 match x with
 | .so b off en _ wd =>
  match s.get b with
  | some (.ar rt e z) =>
   if Nat.beq (s.k.shape el).length size && Nat.beq rt el && isLit0 off && Nat.beq wd size && upToN s.k (lenN ey) en && upToN s.k en (lenN e) then
    some (.x (.i .i64) (lenN ey), s.put b (.ar rt (.pr .cat [ey, .pr .sub [e, lenN ey, lenN e]]) z))
   else none
  | _ => none
 | _ => none
def evMore (o : Oper) (T : Tm) (s : St) : Option (AV × St) :=
 match o.op with
 | .makeSlice t l c => do
  let a <- opd G T l
  let b <- opd G T c
  arMake P t s a b
 | .call c =>
  match c.callee with
  | .builtin .copy => do
   let t0 : TypeId <- c.argTypes[0]?
   match P.underlying t0, c.args.toList with
   | some (.slice e), [ox, oy] => do
    let x <- opd G T ox
    let y <- opd G T oy
    arCopy P e s x y
   | _, _ => none
  | _ => none
 | _ => none
def evSym (o : Oper) (T : Tm) (s : St) : Option (AV × St) :=
 match evSym0 P G o T s with
 | some r => some r
 | none =>
  match evArr P G o T s with
  | some r => some r
  | none => evMore P G o T s

def settleB (k : Kn) (a : AV) : AV :=
 match a with
 | .x .b e => match ask k e with | some b => .v (.bool b) | none => .x .b e
 | a => a
def evOp (call : Call) (o : Oper) (T : Tm) (s : St) : Option (AV × St) :=
 match evOp1 P G call o T s with
 | some (x, s') => some (settleB s'.k x, s')
 | none =>
  match evSym P G o T s with
  | some (x, s') => some (settleB s'.k x, s')
  | none => none

def yieldedA (ops : Array Oper) (T : Tm) (j : Nat) : Option Bool :=
 match (ops[j]?).bind (·.dst) with
 | some d => match gt T d with
  | .v (.bool b) => some b
  | _ => none
 | none => none

def known : AV -> Bool
 | .any | .x _ _ => false
 | _ => true
def gk (ops : Array Oper) (T : Tm) (o : Oper) : Bool :=
 match o.guard with
 | none => true
 | some (j, _) => match (ops[j]?).bind (·.dst) with
  | some d => known (gt T d)
  | none => true
def fetch (ops : Array Oper) (T : Tm) (i : Nat) : Option Oper :=
 match ops[i]? with
 | some o => if gk ops T o then some o else none
 | none => none
def deferA (T : Tm) (c : Go.Call) : Option (Nat × List AV × List AV) :=
 match c.callee with
 | .value f => do
  match <- opd G T f with
  | .fn (.func g) first captured => do let args <- opds G T c.args.toList; pure (g, first ++ args, captured)
  | _ => none
 | _ => none
def evOps (call : Call) (dok : Bool) (ops : Array Oper) : List Nat -> Tm -> St -> Option (Option AV × Tm × St)
 | [], T, s => some (none, T, s)
 | i :: rest, T, s =>
  match fetch ops T i with
  | none => none
  | some o =>
   if Region.wanted o (yieldedA ops T) then
    match o.op with
    | .defer c =>
     match T.ds, o.dst, dok, deferA G T c with
     | [], none, true, some d => evOps call dok ops rest { T with dl := d :: T.dl } s
     | _, _, _, _ => none
    | _ =>
     match evOp P G call o T s with
     | some (x, s') =>
      match isPan x with
      | some y => some (some y, T, s')
      | none =>
       match putT T o.dst x with
       | some T' => evOps call dok ops rest T' s'
       | none => none
     | none => none
   else match putT T o.dst und with
    | some T' => evOps call dok ops rest T' s
    | none => none

inductive Ex where
 | normal
 | exit (id : Nat)
 | goto (l : Nat)
 | ret
 | panic (x : AV)

abbrev Drawn := Array Oper -> Tm -> St -> Option (Option AV × Tm × St)

def evScope (self : Code -> Tm -> St -> Option (Ex × Tm × St)) (b : Code) : Nat -> Code -> Tm -> St -> Option (Ex × Tm × St)
 | 0, _, _, _ => none
 | n + 1, c, T, s =>
  match self c T s with
  | some (.goto l, T, s) =>
   match findLabel b l with
   | some rest => evScope self b n rest T s
   | none => none
  | r => r

def cnd (T : Tm) (s : St) (c : Operand) : Option Bool :=
 match opd G T c with
 | some (.v (.bool b)) => some b
 | some (.x .b e) => ask s.k e
 | _ => none
def evCode (D : Call -> Drawn) (call : Call) (rb : Bool) : Nat -> Code -> Tm -> St -> Option (Ex × Tm × St)
 | 0, _, _, _ => none
 | k + 1, c, T, s =>
  match c with
  | .skip | .label _ => some (.normal, T, s)
  | .region _ ops draw =>
   if draw then match D call ops T s with
    | some (none, T, s) => some (.normal, T, s)
    | some (some y, T, s) => some (.panic y, T, s)
    | none => none
   else match evOps P G call (!rb) ops (List.range ops.size) T s with
    | some (none, T, s) => some (.normal, T, s)
    | some (some y, T, s) => some (.panic y, T, s)
    | none => none
  | .seq a b =>
   match evCode D call rb k a T s with
   | some (.normal, T, s) => evCode D call rb k b T s
   | r => r
  | .cond c a b =>
   match cnd G T s c with
   | some true => evCode D call rb k a T s
   | some false => evCode D call rb k b T s
   | none => none
  | .block id b =>
   match evCode D call rb k b T s with
   | some (.exit i, T, s) => if i = id then some (.normal, T, s) else some (.exit i, T, s)
   | r => r
  | .loop b =>
   match evCode D call rb k b T s with
   | some (.normal, T, s) => evCode D call rb k (.loop b) T s
   | r => r
  | .scope b => if rb then none else evScope (fun c T s => evCode D call rb k c T s) b k b T s
  | .rangeFunc f ps asg body =>
   if rb || !(Nat.ble (s.n + 2) Tr.lid) then none else
   let s2 := (s.new .defs).new (.loop T ps.toList asg body .ready none)
   match opd G T f with
   | some (.fn (.func g) first captured) =>
    match callB P call g (first ++ [.fn (.yield (s.n + 1)) [] []] ++ captured) s2 with
    | some (_, s3) =>
     match s3.get (s.n + 1) with
     | some (.loop T1 ps1 asg1 body1 st pend) =>
      if st == .busy then none else
      let s4 := s3.put (s.n + 1) (.loop T1 ps1 asg1 body1 .exhausted pend)
      let T' := { T with ds := s.n :: T.ds }
      match pend with
      | none => some (.normal, T', s4)
      | some c => evCode D call rb k c T' s4
     | _ => none
    | none => none
   | _ => none
  | .exit id => some (.exit id, T, s)
  | .goto l => some (.goto l, T, s)
  | .ret => some (.ret, T, s)
  | _ => none

def initF : List AV -> Nat -> Tr AV
 | [], _ => .lf
 | x :: r, i => (initF r (i + 1)).set i (some x)
def initT (args : List AV) (n : Nat) : Tm := { n := args.length + (n - args.length), t := initF args 0 }

def resultA (T : Tm) (s : St) : ResultVar -> Option AV
 | .tmp t => some (gt T t)
 | .cell a t =>
  match gt T a with
  | .box b off =>
   match s.get b with
   | some (.box c _) => takeT P t (c.drop off)
   | _ => none
  | _ => none
def resultsA (T : Tm) (s : St) : List ResultVar -> Option (List AV)
 | [] => some []
 | x :: r => do let a <- resultA P T s x; let b <- resultsA T s r; pure (a :: b)

def putAll : Tm -> List Nat -> List AV -> Option Tm
 | T, [], _ => some T
 | T, _, [] => some T
 | T, p :: ps, x :: xs => (putT T (some p) x).bind fun T' => putAll T' ps xs
def jumpOf : Ex -> Option Code
 | .normal => none
 | .exit id => some (.exit id)
 | .goto l => some (.goto l)
 | .ret => some .ret
 | .panic _ => none
def killAll (s : St) : List Nat -> Option St
 | [] => some s
 | d :: r =>
  match s.get d with
  | some .defs => killAll (s.put d .dead) r
  | _ => none

def evMoves (ops : Array Oper) : List Nat -> Tm -> Option Tm
 | [], T => some T
 | i :: rest, T =>
  match fetch ops T i with
  | none => none
  | some o =>
   if Region.wanted o (yieldedA ops T) then
    match o.op with
    | .move x | .assign x =>
     match opd G T x with
     | some a =>
      match putT T o.dst a with
      | some T' => evMoves ops rest T'
      | none => none
     | none => none
    | _ => none
   else none
def isRecover (o : Oper) : Bool :=
 match o.op with
 | .call c => match c.callee with | .builtin .recover => true | _ => false
 | _ => false

def evDef (run : Code -> Tm -> St -> Option (Ex × Tm × St)) (g : Nat) (args : List AV) (p : Option AV) (s : St) : Option St :=
 match P.funcs[g]? with
 | none => none
 | some fn =>
  match fn.body with
  | some (.seq (.region _ ops false) c) =>
   match ops[0]? with
   | none => none
   | some o =>
    let T := initT args fn.ntmps
    if !(Nat.ble (args.length + fn.ntmps) Tr.lid) || !(gk ops T o && Region.wanted o (yieldedA ops T)) || !(isRecover o) || !fn.results.isEmpty then none else
    match putT T o.dst (p.getD (.v .nilIface)) with
    | none => none
    | some T1 =>
     match evMoves G ops ((List.range ops.size).drop 1) T1 with
     | none => none
     | some T2 =>
      match run c T2 s with
      | some (.normal, T3, s3) | some (.ret, T3, s3) => if T3.ds.isEmpty && T3.dl.isEmpty then some s3 else none
      | _ => none
  | _ => none

def evDefPlain (run : Code -> Tm -> St -> Option (Ex × Tm × St)) (g : Nat) (args : List AV) (s : St) : Option St :=
 match P.funcs[g]? with
 | none => none
 | some fn =>
  match fn.body with
  | none => none
  | some c =>
   if !(Nat.ble (args.length + fn.ntmps) Tr.lid) || !fn.results.isEmpty then none else
   match run c (initT args fn.ntmps) s with
   | some (.normal, T3, s3) | some (.ret, T3, s3) => if T3.ds.isEmpty && T3.dl.isEmpty then some s3 else none
   | _ => none

def runDefs (run : Code -> Tm -> St -> Option (Ex × Tm × St)) : List (Nat × List AV × List AV) -> Option AV -> St -> Option (Option AV × St)
 | [], p, s => some (p, s)
 | (g, args, cap) :: r, p, s =>
  match evDef P G run g (args ++ cap) p s with
  | some s' => runDefs run r none s'
  | none =>
   match evDefPlain P run g (args ++ cap) s with
   | some s' => runDefs run r p s'
   | none => none

def finA (run : Code -> Tm -> St -> Option (Ex × Tm × St)) (fn : Func) (T : Tm) (p : Option AV) (s : St) : Option (AV × St) :=
 match runDefs P G run T.dl p s with
 | some (none, s) =>
  match resultsA P T s fn.results.toList with
  | some [x] => some (x, s)
  | some xs => some (.tup xs, s)
  | none => none
 | some (some y, s) => some (.pan y, s)
 | none => none

def evBody (mu : Nat -> Bool) (D : Call -> Drawn) (K : Nat) (self : Call) : Call := fun fr args s =>
 match fr with
 | .func f =>
  match P.funcs[f]? with
  | none => none
  | some fn =>
   match fn.body with
   | none => none
   | some c =>
    if !(Nat.ble (args.length + fn.ntmps) Tr.lid) then none else
    match evCode P G D self false K c { initT args fn.ntmps with mu := (mu f, false) } s with
    | some (.normal, T, s) | some (.ret, T, s) =>
     match killAll s T.ds with
     | some s => finA P G (evCode P G D self false K) fn T none s
     | none => none
    | some (.panic y, T, s) =>
     match T.ds with
     | [] => finA P G (evCode P G D self false K) fn T (some y) s
     | _ => none
    | _ => none
 | .yield l =>
  match s.get l with
  | some (.loop T ps asg body .ready _) =>
   if !(Nat.beq ps.length args.length) || !(Nat.ble (l + 1) s.n) then none else
   match putAll { T with ds := [], dl := [] } ps args with
   | none => none
   | some T1 =>
    match evCode P G D self true K asg T1 s with
    | some (.normal, T2, s2) =>
     match s2.get l with
     | some (.loop Ta psa asga bodya .ready penda) =>
      match evCode P G D self true K body T2 (s2.put l (.loop Ta psa asga bodya .busy penda)) with
      | some (.panic _, _, _) => none
      | some (ex, _, s4) =>
       match s4.get l with
       | some (.loop Tb psb asgb bodyb _ _) =>
        some (.v (.bool (jumpOf ex).isNone), s4.put l (.loop Tb psb asgb bodyb (if (jumpOf ex).isNone then .ready else .done) (jumpOf ex)))
       | _ => none
      | none => none
     | _ => none
    | _ => none
  | _ => none
 | _ => none

def evFn (mu : Nat -> Bool) (D : Call -> Drawn) (K : Nat) (orc : Call) : Nat -> Call
 | 0 => fun _ _ _ => none
 | k + 1 => fun fr args s =>
  match orc fr args s with
  | some r => some r
  | none => evBody P G mu D K (evFn mu D K orc k) fr args s

end Go.Ab
/- The evaluator's values and objects against the model's world: what they stand for, and that it stays. -/
namespace Go.Ab
open Go Go.RowKit

theorem nbf {a b : Nat} (h : a ≠ b) : Nat.beq a b = false := by
 cases hb : Nat.beq a b with
 | false => rfl
 | true => exact absurd (Nat.eq_of_beq_eq_true hb) h
theorem nbt (a : Nat) : Nat.beq a a = true := Nat.beq_refl a
theorem nbe {a b : Nat} (h : Nat.beq a b = true) : a = b := Nat.eq_of_beq_eq_true h

namespace Tr
variable {α : Type}
theorem get_eq (s : Tr α) (u : Nat) : s.get u = if u = 0 then s.val else if u % 2 = 1 then s.left.get (u / 2) else s.right.get (u / 2 - 1) := by
 cases s with
 | lf => simp [get, val, left, right]
 | nd l x r =>
  show (bif Nat.beq u 0 then x else bif Nat.beq (u % 2) 1 then l.get (u / 2) else r.get (u / 2 - 1)) = _
  by_cases h : u = 0
  ·subst h; simp [val]
  ·have e1 : Nat.beq u 0 = false := nbf h
   rw [e1, if_neg h]
   by_cases h2 : u % 2 = 1
   ·rw [h2]; simp [left]
   ·have e2 : Nat.beq (u % 2) 1 = false := nbf h2
    rw [e2, if_neg h2]; simp [right]
theorem get_setF : ∀ (f : Nat) (s : Tr α) (t u : Nat) (v : Option α), t + 1 < 2 ^ f -> (setF f s t v).get u = if u = t then v else s.get u
 | 0, s, t, u, v, h => by simp at h
 | f + 1, s, t, u, v, h => by
  have hp : 2 ^ (f + 1) = 2 * 2 ^ f := by rw [Nat.pow_succ]; omega
  unfold setF
  by_cases h0 : t = 0
  ·subst h0
   simp only [nbt, cond_true]
   rw [get_eq, get_eq s u]
   by_cases hu : u = 0 <;> simp [hu, val, left, right]
  ·have e1 : Nat.beq t 0 = false := nbf h0
   rw [e1, cond_false]
   by_cases h2 : t % 2 = 1
   ·rw [h2]
    simp only [nbt, cond_true]
    rw [get_eq, get_eq s u]
    rw [show ∀ (l r : Tr α) (x : Option α), (Tr.nd l x r).val = x from fun _ _ _ => rfl, show ∀ (l r : Tr α) (x : Option α), (Tr.nd l x r).left = l from fun _ _ _ => rfl, show ∀ (l r : Tr α) (x : Option α), (Tr.nd l x r).right = r from fun _ _ _ => rfl]
    by_cases hu : u = 0
    ·rw [if_pos hu, if_pos hu, if_neg (by omega)]
    ·rw [if_neg hu, if_neg hu]
     by_cases hu2 : u % 2 = 1
     ·rw [if_pos hu2, if_pos hu2, get_setF f s.left (t / 2) (u / 2) v (by omega)]
      by_cases e : u = t
      ·subst e; simp
      ·rw [if_neg e, if_neg (by omega)]
     ·rw [if_neg hu2, if_neg hu2, if_neg (by omega)]
   ·have e2 : Nat.beq (t % 2) 1 = false := nbf h2
    rw [e2, cond_false, get_eq, get_eq s u]
    rw [show ∀ (l r : Tr α) (x : Option α), (Tr.nd l x r).val = x from fun _ _ _ => rfl, show ∀ (l r : Tr α) (x : Option α), (Tr.nd l x r).left = l from fun _ _ _ => rfl, show ∀ (l r : Tr α) (x : Option α), (Tr.nd l x r).right = r from fun _ _ _ => rfl]
    by_cases hu : u = 0
    ·rw [if_pos hu, if_pos hu, if_neg (by omega)]
    ·rw [if_neg hu, if_neg hu]
     by_cases hu2 : u % 2 = 1
     ·rw [if_pos hu2, if_pos hu2, if_neg (by omega)]
     ·rw [if_neg hu2, if_neg hu2, get_setF f s.right (t / 2 - 1) (u / 2 - 1) v (by omega)]
      by_cases e : u = t
      ·subst e; simp
      ·rw [if_neg e, if_neg (by omega)]
theorem get_set (s : Tr α) (t u : Nat) (v : Option α) (h : t < lid) : (s.set t v).get u = if u = t then v else s.get u :=
 get_setF 31 s t u v (by unfold lid at h; omega)
end Tr

structure Mp where
 blk : Nat -> Nat
 cap : Nat -> Nat
 env : Nat -> D
 out : Nat -> Nat -> Prop
variable [Interp]

def Tip.val (env : Nat -> D) : Tip -> Nat
 | .c n => n
 | .e x w => (x.den env).rows.length * w
def Imm0 (s : St) (M : Mp) (b off : Nat) : Prop :=
 ∀ i o, i < s.n -> s.get i = some o -> M.blk i = b -> match o with
  | .row tip _ => off < tip.val M.env
  | .dead => True
  | _ => False
def Imm (s : St) (M : Mp) (b off : Nat) : Prop := Imm0 s M b off /\ ¬ M.out b off

def Free (fr : Nat × Nat) (n : Nat) : Prop := fr.1 = fr.2 \/ n <= fr.1
theorem Free.no {fr : Nat × Nat} {n off : Nat} (h : Free fr n) (ho : off < n) : ¬(fr.1 <= off /\ off < fr.2) := by
 rcases h with h | h <;> omega

def TokOk (s : St) (M : Mp) (tok : Option Nat) (b off cap : Nat) : Prop :=
 ∀ t, tok = some t -> t < s.n /\ ∀ tip e, s.get t = some (.row tip e) -> b = M.blk t /\ off = 0 /\ cap = M.cap t

def TokD (s : St) (M : Mp) (tok : Option Nat) (y : Value) : Prop :=
 ∀ t, tok = some t -> t < s.n /\ ∀ tip e, s.get t = some (.row tip e) -> ∃ l, y = .slice (some ⟨M.blk t, 0, none⟩) l (M.cap t)
def MDr (kt ct : Ty) : List D -> List MapEntry -> Prop
 | [], es => es = []
 | d :: r, es => ∃ e t, es = e :: t /\ d = .row [.v e.key, .v e.val] /\ tyV kt e.key = true /\ tyV ct e.val = true /\ MDr kt ct r t
def SRl (ct : Ty) : List D -> List Value -> Prop
 | [], vs => vs = []
 | d :: r, vs => ∃ v t, vs = v :: t /\ d = .row [.v v] /\ tyV ct v = true /\ SRl ct r t
def SymR (env : Nat -> D) (cap : Nat) : SK -> Option Obj -> Prop
 | .map kt ct e, ob => ∃ ents clock rows, ob = some (.map ents clock) /\ e.den env = .lst rows /\ MDr kt ct rows ents.toList
 | .arr ct e, ob => ∃ c t fr rows, ob = some (.cells c t fr) /\ Free fr c.size /\ e.den env = .lst rows /\ rows.length <= c.size /\ SRl ct rows (c.toList.take rows.length) /\ (cap ≠ 0 -> c.size = cap)
def renFn (s : St) (M : Mp) : Fn -> Option Fn
 | .func f => some (.func f)
 | .yield l => if l < s.n then some (.yield (M.blk l)) else none
 | _ => none

section
variable (w : World) (s : St) (M : Mp)
mutual
def VR : AV -> Value -> Prop
 | .v x, y => y = x /\ scalar x = true
 | .ref cs, y => ∃ b off, y = .pointer (some ⟨b, off, none⟩) /\ VRs cs b off
 | .box i off, y => i < s.n /\ y = .pointer (some ⟨M.blk i, off, none⟩)
 | .sl cs len tok, y => ∃ b off cap, y = .slice (some ⟨b, off, none⟩) len cap /\ len <= cap /\ VRs cs b off /\ TokOk s M tok b off cap
 | .ms i off len, y => i < s.n /\ ∃ cap, len <= cap /\ y = .slice (some ⟨M.blk i, off, none⟩) len cap
 | .mg i len, y => i < s.n /\ len <= M.cap i /\ y = .slice (some ⟨M.blk i, 0, none⟩) len (M.cap i)
 | .e0, y => ∃ b off, y = .slice (some ⟨b, off, none⟩) 0 0
 | .mp i, y => i < s.n /\ y = .map (some (M.blk i))
 | .fn f a b, y => ∃ f' a' b', y = .func f' a' b' /\ renFn s M f = some f' /\ VRl a a'.toList /\ VRl b b'.toList
 | .agg cs, y => ∃ vs, y = .agg vs /\ VRl cs vs.toList
 | .tup cs, y => ∃ vs, y = .tuple vs /\ VRl cs vs.toList
 | .iface t x, y => ∃ v, y = .iface t v /\ VR x v
 | .pan _, _ => False
 | .any, _ => True
 | .x t e, y => e.den M.env = .v y /\ tyV t y = true
 | .d t e tok, y => DV (fun b off => w.cell? ⟨b, off, none⟩) (Imm s M) (e.den M.env) y /\ fits s.k.shape (e.den M.env) (.sl t) /\ TokD s M tok y
 | .rd t e o, y => ∃ b off cs, y = .pointer (some ⟨b, off + o, none⟩) /\ e.den M.env = .row cs /\ DVs (fun b off => w.cell? ⟨b, off, none⟩) (Imm s M) cs b off /\ fitsC s.k.shape cs (s.k.shape t)
 | .so i off en wh wd, y => i < s.n /\ ∃ n n' m cap : Nat, off.den M.env = .v (.int .i64 n) /\ en.den M.env = .v (.int .i64 (n + m : Nat)) /\ y = .slice (some ⟨M.blk i, n' * wd, none⟩) m cap /\ m <= cap /\ (m ≠ 0 -> n' = n) /\ (wh = true -> n = 0 /\ n' = 0 /\ cap = M.cap i)
 | .po i off wd, y => i < s.n /\ ∃ n : Nat, (off.den M.env).int = n /\ y = .pointer (some ⟨M.blk i, n * wd, none⟩)
 | .sy x bits, y => y = x /\ scalar x = true /\ (∀ b, x ≠ .bool b) /\ ∀ e ∈ bits, cmpV e.1 x e.2.1 = some e.2.2
def VRs : List AV -> Nat -> Nat -> Prop
 | [], _, _ => True
 | c :: r, b, off => (∃ v, w.cell? ⟨b, off, none⟩ = some v /\ VR c v) /\ isCell c = true /\ Imm s M b off /\ VRs r b (off + 1)
def VRl : List AV -> List Value -> Prop
 | [], vs => vs = []
 | c :: r, vs => ∃ v t, vs = v :: t /\ VR c v /\ VRl r t
end

def MR : List (Value × AV) -> List MapEntry -> Prop
 | [], es => es = []
 | (k, x) :: r, es => ∃ e t, es = e :: t /\ e.key = k /\ VR w s M x e.val /\ MR r t

def BoxK (k len size cap : Nat) (e : TypeId) : Prop := (k % tyBase ≠ 0 -> size = cap * (k % tyBase)) /\ (tyBase <= k -> e = k / tyBase - 1 /\ (k % tyBase = 0 -> size = len))
def ObjR (b cap : Nat) : AObj -> Prop
 | .box cs esz => ∃ c e fr, w.heap[b]? = some (.cells c e fr) /\ VRl w s M cs (c.toList.take cs.length) /\ cs.all isCell = true /\ Free fr c.size /\ BoxK esz cs.length c.size cap e
 | .fz cs esz => ∃ c e fr, w.heap[b]? = some (.cells c e fr) /\ VRl w s M cs (c.toList.take cs.length) /\ cs.all isCell = true /\ BoxK esz cs.length c.size cap e
 | .row tip esz => ∃ c e fr, w.heap[b]? = some (.cells c e fr) /\ c.size = cap * esz /\ tip.val M.env <= c.size /\ Free fr c.size
 | .map es => ∃ ents clock, w.heap[b]? = some (.map ents clock) /\ MR w s M es ents.toList
 | .dead => True
 | .loop T ps asg body st pend => ∃ rc : Loop, w.heap[b]? = some (.loop rc) /\ rc.state = st /\ rc.pending = pend /\ rc.params.toList = ps /\ rc.assign = asg /\ rc.body = body /\ rc.tmps.size = T.n /\ ∀ t, VR w s M (gt T t) (rc.tmps.getD t undef)
 | .defs => w.heap[b]? = some (.deferred (some []))
 | .sym k => SymR M.env cap k w.heap[b]?
 | .ar t e z => ∃ c ty fr rows, w.heap[b]? = some (.cells c ty fr) /\ e.den M.env = .lst rows /\ fitsR s.k.shape rows t /\ DVl (fun b off => w.cell? ⟨b, off, none⟩) (Imm s M) (flat rows) (c.toList.take (flat rows).length) /\ Free fr c.size /\ BoxK z (flat rows).length c.size cap ty
end

def AObj.live : AObj -> Prop
 | .dead => False
 | _ => True

variable (G : Nat -> Option (List AV))

structure Sim (B0 : Nat) (w0 w : World) (s : St) (M : Mp) : Prop where
 below : Below B0 w0 w
 size : B0 <= w0.heap.size
 bound : s.n <= Tr.lid
 blk : ∀ i, i < s.n -> B0 <= M.blk i /\ M.blk i < w.heap.size
 inj : ∀ i j oi oj, i < s.n -> j < s.n -> s.get i = some oi -> s.get j = some oj -> oi.live -> oj.live -> M.blk i = M.blk j -> i = j
 obj : ∀ i o, i < s.n -> s.get i = some o -> ObjR w s M (M.blk i) (M.cap i) o
 glob : ∀ g cs, G g = some cs -> VRs w s M cs g 0
 fx : ∀ e, e ∈ s.k.fx -> e.den M.env = .v (.bool true)
 out : ∀ b off, M.out b off -> b < w.heap.size /\ ∀ i, i < s.n -> M.blk i ≠ b

structure Frm (w : World) (s : St) (M : Mp) (w' : World) (s' : St) (M' : Mp) : Prop where
 size : w.heap.size <= w'.heap.size
 blocks : ∀ b, b < w.heap.size -> (∀ i o, i < s.n -> s.get i = some o -> o.live -> M.blk i ≠ b) -> w'.heap[b]? = w.heap[b]?
 old : ∀ i o, i < s'.n -> s'.get i = some o -> o.live -> M'.blk i < w.heap.size -> ∃ j oj, j < s.n /\ s.get j = some oj /\ oj.live /\ M.blk j = M'.blk i
theorem Frm.refl (w : World) (s : St) (M : Mp) : Frm w s M w s M := ⟨Nat.le_refl _, fun _ _ _ => rfl, fun i o hi hg hl _ => ⟨i, o, hi, hg, hl, rfl⟩⟩
theorem Frm.trans {w w' w'' : World} {s s' s'' : St} {M M' M'' : Mp} (h : Frm w s M w' s' M') (k : Frm w' s' M' w'' s'' M'') : Frm w s M w'' s'' M'' := by
 refine ⟨Nat.le_trans h.size k.size, fun b hb hn => ?_, fun i o hi hg hl hb => ?_⟩
 ·rw [k.blocks b (Nat.lt_of_lt_of_le hb h.size) fun i o hi hg hl e => ?_, h.blocks b hb hn]
  obtain ⟨j, oj, h1, h2, h3, h4⟩ := h.old i o hi hg hl (by rw [e]; exact hb)
  exact hn j oj h1 h2 h3 (h4.trans e)
 ·obtain ⟨j, oj, h1, h2, h3, h4⟩ := k.old i o hi hg hl (Nat.lt_of_lt_of_le hb h.size)
  obtain ⟨l, ol, g1, g2, g3, g4⟩ := h.old j oj h1 h2 h3 (by rw [h4]; exact hb)
  exact ⟨l, ol, g1, g2, g3, g4.trans h4⟩

structure Ext (w : World) (s : St) (M : Mp) (w' : World) (s' : St) (M' : Mp) : Prop where
 cells : ∀ b off v, w.cell? ⟨b, off, none⟩ = some v -> Imm s M b off -> w'.cell? ⟨b, off, none⟩ = some v /\ Imm s' M' b off
 n : s.n <= s'.n
 map : ∀ i, i < s.n -> M'.blk i = M.blk i /\ M'.cap i = M.cap i
 rows : ∀ i tip e, i < s.n -> s'.get i = some (.row tip e) -> s.get i = some (.row tip e)
 frm : Frm w s M w' s' M'
 keep : M'.env = M.env /\ M'.out = M.out /\ s'.k = s.k

theorem Ext.refl (w : World) (s : St) (M : Mp) : Ext w s M w s M := ⟨fun _ _ _ h i => ⟨h, i⟩, Nat.le_refl _, fun _ _ => ⟨rfl, rfl⟩, fun _ _ _ _ h => h, Frm.refl _ _ _, rfl, rfl, rfl⟩
theorem Ext.trans {w w' w'' : World} {s s' s'' : St} {M M' M'' : Mp} (h : Ext w s M w' s' M') (k : Ext w' s' M' w'' s'' M'') : Ext w s M w'' s'' M'' :=
 ⟨fun b off v hc hi => let ⟨c, i⟩ := h.cells b off v hc hi; k.cells b off v c i, Nat.le_trans h.n k.n,
 fun i hi => ⟨(k.map i (Nat.lt_of_lt_of_le hi h.n)).1.trans (h.map i hi).1, (k.map i (Nat.lt_of_lt_of_le hi h.n)).2.trans (h.map i hi).2⟩,
 fun i tip e hi hg => h.rows i tip e hi (k.rows i tip e (Nat.lt_of_lt_of_le hi h.n) hg), h.frm.trans k.frm, k.keep.1.trans h.keep.1, k.keep.2.1.trans h.keep.2.1, k.keep.2.2.trans h.keep.2.2⟩

theorem TokOk.ext {w w' : World} {s s' : St} {M M' : Mp} (h : Ext w s M w' s' M') {tok : Option Nat} {b off cap : Nat} (k : TokOk s M tok b off cap) : TokOk s' M' tok b off cap := by
 intro t ht
 obtain ⟨hn, hr⟩ := k t ht
 refine ⟨Nat.lt_of_lt_of_le hn h.n, fun tip e hg => ?_⟩
 obtain ⟨h1, h2, h3⟩ := hr tip e (h.rows t tip e hn hg)
 exact ⟨h1.trans (h.map t hn).1.symm, h2, h3.trans (h.map t hn).2.symm⟩

theorem TokD.ext {w w' : World} {s s' : St} {M M' : Mp} (h : Ext w s M w' s' M') {tok : Option Nat} {y : Value} (k : TokD s M tok y) : TokD s' M' tok y := by
 intro t ht
 obtain ⟨hn, hr⟩ := k t ht
 refine ⟨Nat.lt_of_lt_of_le hn h.n, fun tip e hg => ?_⟩
 obtain ⟨l, h1⟩ := hr tip e (h.rows t tip e hn hg)
 exact ⟨l, by rw [h1, (h.map t hn).1, (h.map t hn).2]⟩
theorem renFn.ext {w w' : World} {s s' : St} {M M' : Mp} (h : Ext w s M w' s' M') {f f' : Fn} (k : renFn s M f = some f') : renFn s' M' f = some f' := by
 cases f <;> simp only [renFn, reduceCtorEq] at k ⊢
 ·exact k
 ·split at k
  ·rename_i l hl
   rw [if_pos (Nat.lt_of_lt_of_le hl h.n), (h.map _ hl).1]; exact k
  ·cases k
mutual
theorem VR.ext {w w' : World} {s s' : St} {M M' : Mp} (h : Ext w s M w' s' M') : ∀ {c : AV} {v : Value}, VR w s M c v -> VR w' s' M' c v
 | .v x, y, k => by unfold VR at k ⊢; exact k
 | .ref cs, y, k => by unfold VR at k ⊢; obtain ⟨b, off, e, k⟩ := k; exact ⟨b, off, e, VRs.ext h k⟩
 | .box i off, y, k => by unfold VR at k ⊢; exact ⟨Nat.lt_of_lt_of_le k.1 h.n, by rw [(h.map i k.1).1]; exact k.2⟩
 | .sl cs len tok, y, k => by unfold VR at k ⊢; obtain ⟨b, off, cap, e, hl, k, ht⟩ := k; exact ⟨b, off, cap, e, hl, VRs.ext h k, ht.ext h⟩
 | .ms i off len, y, k => by unfold VR at k ⊢; refine ⟨Nat.lt_of_lt_of_le k.1 h.n, ?_⟩; rw [(h.map i k.1).1]; exact k.2
 | .mg i len, y, k => by unfold VR at k ⊢; rw [(h.map i k.1).1, (h.map i k.1).2]; exact ⟨Nat.lt_of_lt_of_le k.1 h.n, k.2⟩
 | .e0, y, k => by unfold VR at k ⊢; exact k
 | .mp i, y, k => by unfold VR at k ⊢; exact ⟨Nat.lt_of_lt_of_le k.1 h.n, by rw [(h.map i k.1).1]; exact k.2⟩
 | .fn f a b, y, k => by unfold VR at k ⊢; obtain ⟨f', a', b', e, k0, k1, k2⟩ := k; exact ⟨f', a', b', e, renFn.ext h k0, VRl.ext h k1, VRl.ext h k2⟩
 | .agg cs, y, k => by unfold VR at k ⊢; obtain ⟨vs, e, k⟩ := k; exact ⟨vs, e, VRl.ext h k⟩
 | .tup cs, y, k => by unfold VR at k ⊢; obtain ⟨vs, e, k⟩ := k; exact ⟨vs, e, VRl.ext h k⟩
 | .iface t x, y, k => by unfold VR at k ⊢; obtain ⟨v, e, k⟩ := k; exact ⟨v, e, VR.ext h k⟩
 | .pan x, y, k => by unfold VR at k; exact k.elim
 | .any, y, k => by unfold VR at k ⊢; exact k
 | .sy _ _, y, k => by unfold VR at k ⊢; exact k
 | .x _ _, y, k => by unfold VR at k ⊢; rw [h.keep.1]; exact k
 | .d _ _ _, y, k => by unfold VR at k ⊢; rw [h.keep.1, h.keep.2.2]; exact ⟨k.1.mono h.cells, k.2.1, k.2.2.ext h⟩
 | .so _ _ _ _ _, y, k => by unfold VR at k ⊢; rw [h.keep.1, (h.map _ k.1).1, (h.map _ k.1).2]; exact ⟨Nat.lt_of_lt_of_le k.1 h.n, k.2⟩
 | .po _ _ _, y, k => by unfold VR at k ⊢; rw [h.keep.1, (h.map _ k.1).1]; exact ⟨Nat.lt_of_lt_of_le k.1 h.n, k.2⟩
 | .rd _ _ _, y, k => by unfold VR at k ⊢; rw [h.keep.1, h.keep.2.2]; obtain ⟨b, off, cs, e, e2, k, k2⟩ := k; exact ⟨b, off, cs, e, e2, DVs.mono h.cells k, k2⟩
theorem VRs.ext {w w' : World} {s s' : St} {M M' : Mp} (h : Ext w s M w' s' M') : ∀ {cs : List AV} {b off : Nat}, VRs w s M cs b off -> VRs w' s' M' cs b off
 | [], _, _, _ => by unfold VRs; trivial
 | c :: r, b, off, k => by
  unfold VRs at k ⊢
  obtain ⟨⟨v, hv, k1⟩, k2, k3, k4⟩ := k
  obtain ⟨hc, hi⟩ := h.cells b off v hv k3
  exact ⟨⟨v, hc, VR.ext h k1⟩, k2, hi, VRs.ext h k4⟩
theorem VRl.ext {w w' : World} {s s' : St} {M M' : Mp} (h : Ext w s M w' s' M') : ∀ {cs : List AV} {vs : List Value}, VRl w s M cs vs -> VRl w' s' M' cs vs
 | [], _, k => by unfold VRl at k ⊢; exact k
 | c :: r, vs, k => by
  unfold VRl at k ⊢
  obtain ⟨v, t, e, k1, k2⟩ := k
  exact ⟨v, t, e, VR.ext h k1, VRl.ext h k2⟩
end

theorem MR.ext {w w' : World} {s s' : St} {M M' : Mp} (h : Ext w s M w' s' M') : ∀ {es : List (Value × AV)} {vs : List MapEntry}, MR w s M es vs -> MR w' s' M' es vs
 | [], _, k => k
 | (_, _) :: _, _, ⟨e, t, e1, e2, k1, k2⟩ => ⟨e, t, e1, e2, k1.ext h, MR.ext h k2⟩

theorem arR_same {w w' : World} {s s' : St} {M M' : Mp} {b cap t z : Nat} {e : E} (hc : ∀ b off v, w.cell? ⟨b, off, none⟩ = some v -> Imm s M b off -> w'.cell? ⟨b, off, none⟩ = some v /\ Imm s' M' b off) (he : M'.env = M.env) (hsk : s'.k = s.k) (hk : w'.heap[b]? = w.heap[b]?) (h : ObjR w s M b cap (.ar t e z)) : ObjR w' s' M' b cap (.ar t e z) := by
 obtain ⟨c, ty, fr, rows, a1, a2, a3, a4, a5⟩ := h
 exact ⟨c, ty, fr, rows, hk.trans a1, by rw [he]; exact a2, by rw [hsk]; exact a3, a4.mono hc, a5⟩
theorem arR_ext {w w' : World} {s s' : St} {M M' : Mp} {b cap t z : Nat} {e : E} (hE : Ext w s M w' s' M') (hk : w'.heap[b]? = w.heap[b]?) (h : ObjR w s M b cap (.ar t e z)) : ObjR w' s' M' b cap (.ar t e z) :=
 arR_same hE.cells hE.keep.1 hE.keep.2.2 hk h

section
variable {w : World} {s : St} {M : Mp}
@[simp] theorem VR_v {x y : Value} : VR w s M (.v x) y ↔ y = x /\ scalar x = true := by unfold VR; exact Iff.rfl
theorem VR_v_of {x : Value} (h : scalar x = true) : VR w s M (.v x) x := by unfold VR; exact ⟨rfl, h⟩
theorem VR_und : VR w s M und undef := by unfold und VR undef; exact ⟨#[], rfl, by unfold VRl; rfl⟩
theorem VRl_nil : VRl w s M [] [] := by unfold VRl; rfl
theorem VRl_cons {c : AV} {r : List AV} {v : Value} {t : List Value} (h : VR w s M c v) (k : VRl w s M r t) : VRl w s M (c :: r) (v :: t) := by
 unfold VRl; exact ⟨v, t, rfl, h, k⟩
theorem VRl.length : ∀ {cs : List AV} {vs : List Value}, VRl w s M cs vs -> cs.length = vs.length
 | [], _, k => by unfold VRl at k; subst k; rfl
 | c :: r, vs, k => by unfold VRl at k; obtain ⟨v, t, e, _, k2⟩ := k; rw [e, List.length_cons, List.length_cons, k2.length]
theorem VRl.get : ∀ {cs : List AV} {vs : List Value}, VRl w s M cs vs -> ∀ i : Nat, (cs[i]? = none /\ vs[i]? = none) \/ ∃ c v, cs[i]? = some c /\ vs[i]? = some v /\ VR w s M c v
 | [], _, k, i => by unfold VRl at k; subst k; left; simp
 | c :: r, vs, k, i => by
  unfold VRl at k; obtain ⟨v, t, e, k1, k2⟩ := k; subst e
  cases i with
  | zero => right; exact ⟨c, v, rfl, rfl, k1⟩
  | succ i => simpa using k2.get i
theorem VRl.of_get : ∀ {cs : List AV} {vs : List Value}, cs.length = vs.length -> (∀ (i : Nat) (c : AV) (v : Value), cs[i]? = some c -> vs[i]? = some v -> VR w s M c v) -> VRl w s M cs vs
 | [], [], _, _ => VRl_nil
 | [], _ :: _, h, _ => by simp at h
 | _ :: _, [], h, _ => by simp at h
 | c :: r, v :: t, h, k => VRl_cons (k 0 c v rfl rfl) (VRl.of_get (by simpa using h) fun i c v h1 h2 => k (i + 1) c v (by simpa using h1) (by simpa using h2))
theorem VRl.append : ∀ {cs ds : List AV} {vs us : List Value}, VRl w s M cs vs -> VRl w s M ds us -> VRl w s M (cs ++ ds) (vs ++ us)
 | [], _, _, _, k, k' => by unfold VRl at k; subst k; exact k'
 | c :: r, _, _, _, k, k' => by unfold VRl at k; obtain ⟨v, t, e, k1, k2⟩ := k; subst e; exact VRl_cons k1 (k2.append k')
theorem VRl.take : ∀ {cs : List AV} {vs : List Value} (n : Nat), VRl w s M cs vs -> VRl w s M (cs.take n) (vs.take n)
 | [], _, n, k => by unfold VRl at k; subst k; simpa using VRl_nil
 | c :: r, _, n, k => by
  unfold VRl at k; obtain ⟨v, t, e, k1, k2⟩ := k; subst e
  cases n with
  | zero => exact VRl_nil
  | succ n => exact VRl_cons k1 (k2.take n)
theorem VRl.drop : ∀ {cs : List AV} {vs : List Value} (n : Nat), VRl w s M cs vs -> VRl w s M (cs.drop n) (vs.drop n)
 | [], _, n, k => by unfold VRl at k; subst k; simpa using VRl_nil
 | c :: r, _, n, k => by
  cases n with
  | zero => exact k
  | succ n => unfold VRl at k; obtain ⟨v, t, e, k1, k2⟩ := k; subst e; exact k2.drop n
theorem VRs_nil {b off : Nat} : VRs w s M [] b off := by unfold VRs; trivial
theorem VRs.get : ∀ {cs : List AV} {b off : Nat}, VRs w s M cs b off -> ∀ (i : Nat) (c : AV), cs[i]? = some c -> ∃ v, w.cell? ⟨b, off + i, none⟩ = some v /\ VR w s M c v /\ isCell c = true /\ Imm s M b (off + i)
 | [], _, _, _, i, c, h => by simp at h
 | d :: r, b, off, k, i, c, h => by
  unfold VRs at k; obtain ⟨⟨v, hv, k1⟩, k2, k3, k4⟩ := k
  cases i with
  | zero => simp at h; subst h; exact ⟨v, hv, k1, k2, k3⟩
  | succ i => have := k4.get i c (by simpa using h); rw [show off + (i + 1) = off + 1 + i by omega]; exact this
theorem VRs.of_get : ∀ {cs : List AV} {b off : Nat}, (∀ (i : Nat) (c : AV), cs[i]? = some c -> ∃ v, w.cell? ⟨b, off + i, none⟩ = some v /\ VR w s M c v /\ isCell c = true /\ Imm s M b (off + i)) -> VRs w s M cs b off
 | [], _, _, _ => VRs_nil
 | c :: r, b, off, k => by
  unfold VRs
  obtain ⟨v, hv, k1, k2, k3⟩ := k 0 c rfl
  exact ⟨⟨v, hv, k1⟩, k2, k3, VRs.of_get fun i d h => by have := k (i + 1) d (by simpa using h); rw [show off + (i + 1) = off + 1 + i by omega] at this; exact this⟩
theorem VRs.drop {cs : List AV} {b off : Nat} (h : VRs w s M cs b off) (n : Nat) : VRs w s M (cs.drop n) b (off + n) :=
 VRs.of_get fun i c hc => by
  have := h.get (n + i) c (by rw [List.getElem?_drop] at hc; exact hc)
  rw [show off + n + i = off + (n + i) by omega]; exact this
theorem VRs.take {cs : List AV} {b off : Nat} (h : VRs w s M cs b off) (n : Nat) : VRs w s M (cs.take n) b off :=
 VRs.of_get fun i c hc => by
  rw [List.getElem?_take] at hc
  split at hc
  ·exact h.get i c hc
  ·cases hc
end

section
variable {G} {B0 : Nat} {w0 w : World} {s : St} {M : Mp}

theorem St.get_new (s : St) (x : AObj) (i : Nat) (h : s.n < Tr.lid) : (s.new x).get i = if i = s.n then some x else s.get i := Tr.get_set _ _ _ _ h
theorem St.get_put (s : St) (j : Nat) (x : AObj) (i : Nat) (h : j < Tr.lid) : (s.put j x).get i = if i = j then some x else s.get i := Tr.get_set _ _ _ _ h

theorem cell?_lt {w : World} {b off : Nat} {v : Value} (h : w.cell? ⟨b, off, none⟩ = some v) : b < w.heap.size := World.block_lt_of_cell? _ _ h

def Mp.add (M : Mp) (i b c : Nat) : Mp := { M with blk := fun j => if j = i then b else M.blk j, cap := fun j => if j = i then c else M.cap j }

theorem ext_new (hb : s.n < Tr.lid) (hlt : ∀ i, i < s.n -> M.blk i < w.heap.size) (ob : Obj) (x : AObj) (cap : Nat) : Ext w s M (w.alloc ob) (s.new x) (M.add s.n w.heap.size cap) := by
 refine ⟨fun b off v hc hi => ?_, Nat.le_succ _, fun i hi => ?_, fun i tip e hi hg => ?_, ⟨by rw [World.size_alloc]; omega, fun b hb _ => Below.heap_alloc w ob b hb, fun i o hi hg hl hlt => ?_⟩, rfl, rfl, rfl⟩
 ·have hl := cell?_lt hc
  refine ⟨(World.cell?_alloc_lt w ob ⟨b, off, none⟩ hl).trans hc, fun i o hin hg hbk => ?_, hi.2⟩
  rw [St.get_new _ _ _ hb] at hg
  by_cases e : i = s.n
  ·subst e; simp only [Mp.add, if_true] at hbk; omega
  ·rw [if_neg e] at hg
   simp only [Mp.add, if_neg e] at hbk
   exact hi.1 i o (by simp only [St.new] at hin; omega) hg hbk
 ·simp only [Mp.add, if_neg (Nat.ne_of_lt hi), and_self]
 ·rw [St.get_new _ _ _ hb, if_neg (Nat.ne_of_lt hi)] at hg; exact hg
 ·rw [St.get_new _ _ _ hb] at hg
  simp only [Mp.add] at hlt ⊢
  by_cases e : i = s.n
  ·rw [if_pos e] at hlt; omega
  ·rw [if_neg e] at hg
   exact ⟨i, o, by simp only [St.new] at hi; omega, hg, hl, by rw [if_neg e]⟩

theorem Sim.outw (h : Sim G B0 w0 w s M) {w' : World} (hw : w.heap.size <= w'.heap.size) : ∀ b off, M.out b off -> b < w'.heap.size /\ ∀ i, i < s.n -> M.blk i ≠ b := fun b off ho => ⟨Nat.lt_of_lt_of_le (h.out b off ho).1 hw, (h.out b off ho).2⟩
theorem sim_new (h : Sim G B0 w0 w s M) (hb : s.n < Tr.lid) (ob : Obj) (x : AObj) (cap : Nat)
  (hx : ObjR (w.alloc ob) (s.new x) (M.add s.n w.heap.size cap) w.heap.size cap x) : Sim G B0 w0 (w.alloc ob) (s.new x) (M.add s.n w.heap.size cap) := by
 have hE : Ext w s M (w.alloc ob) (s.new x) (M.add s.n w.heap.size cap) := ext_new hb (fun i hi => (h.blk i hi).2) ob x cap
 have hB : B0 <= w.heap.size := Nat.le_trans h.size h.below.size
 refine ⟨h.below.alloc hB ob, h.size, ?_, fun i hi => ?_, fun i j oi oj hi hj gi gj li lj e => ?_, fun i o hi hg => ?_, fun g cs hg => (h.glob g cs hg).ext hE, h.fx, fun b off ho => ⟨by rw [World.size_alloc]; exact Nat.lt_succ_of_lt (h.out b off ho).1, fun i hi => ?_⟩⟩
 ·simp only [St.new]; omega
 ·simp only [Mp.add, World.size_alloc]
  by_cases e : i = s.n
  ·rw [if_pos e]; omega
  ·rw [if_neg e]; have := h.blk i (by simp only [St.new] at hi; omega); omega
 ·rw [St.get_new _ _ _ hb] at gi gj
  simp only [St.new] at hi hj
  simp only [Mp.add] at e
  by_cases ei : i = s.n <;> by_cases ej : j = s.n
  ·omega
  ·rw [if_pos ei, if_neg ej] at e; have := (h.blk j (by omega)).2; omega
  ·rw [if_neg ei, if_pos ej] at e; have := (h.blk i (by omega)).2; omega
  ·rw [if_neg ei] at gi; rw [if_neg ej] at gj; rw [if_neg ei, if_neg ej] at e
   exact h.inj i j oi oj (by omega) (by omega) gi gj li lj e
 ·rw [St.get_new _ _ _ hb] at hg
  simp only [St.new] at hi
  by_cases e : i = s.n
  ·rw [if_pos e] at hg; cases hg; subst e; simp only [Mp.add, if_true]; exact hx
  ·rw [if_neg e] at hg
   have ho := h.obj i o (by omega) hg
   have hl := (h.blk i (by omega)).2
   simp only [Mp.add, if_neg e]
   have hk : ∀ k, k < w.heap.size -> (w.alloc ob).heap[k]? = w.heap[k]? := fun k hk => Below.heap_alloc w ob k hk
   cases o with
   | box cs esz => obtain ⟨c, e', fr, a1, a2, a3, a4⟩ := ho; exact ⟨c, e', fr, (hk _ hl).trans a1, a2.ext hE, a3, a4⟩
   | fz cs esz => obtain ⟨c, e', fr, a1, a2, a3⟩ := ho; exact ⟨c, e', fr, (hk _ hl).trans a1, a2.ext hE, a3⟩
   | row tip esz => obtain ⟨c, e', fr, a1, a2⟩ := ho; exact ⟨c, e', fr, (hk _ hl).trans a1, a2⟩
   | map es => obtain ⟨c, k, a1, a2⟩ := ho; exact ⟨c, k, (hk _ hl).trans a1, a2.ext hE⟩
   | dead => trivial
   | loop T ps asg body st pend => obtain ⟨rc, a1, a2, a3, a4, a5, a6, a7, a8⟩ := ho; exact ⟨rc, (hk _ hl).trans a1, a2, a3, a4, a5, a6, a7, fun t => (a8 t).ext hE⟩
   | defs => exact (hk _ hl).trans ho
   | sym k => show SymR _ _ _ _; rw [hk _ hl]; exact ho
   | ar t e z => exact arR_ext hE (hk _ hl) ho
 ·have k1 := h.out b off ho
  have k2 := h.below.size
  simp only [St.new] at hi
  simp only [Mp.add]
  by_cases e : i = s.n
  ·rw [if_pos e]; omega
  ·rw [if_neg e]; exact k1.2 i (by omega)

theorem out_new (h : Sim G B0 w0 w s M) {b off : Nat} (hb : w.heap.size <= b) : ¬ M.out b off := fun k => by
 have := (h.out b off k).1
 have := h.below.size
 omega
theorem out_own (h : Sim G B0 w0 w s M) {i off : Nat} (hi : i < s.n) : ¬ M.out (M.blk i) off := fun k => (h.out _ off k).2 i hi rfl
theorem ext_drew : Ext w s M w.drew s M := ⟨fun _ _ _ h i => ⟨h, i⟩, Nat.le_refl _, fun _ _ => ⟨rfl, rfl⟩, fun _ _ _ _ h => h, ⟨Nat.le_refl _, fun _ _ _ => rfl, fun i o hi hg hl _ => ⟨i, o, hi, hg, hl, rfl⟩⟩, rfl, rfl, rfl⟩
theorem sim_drew (h : Sim G B0 w0 w s M) : Sim G B0 w0 w.drew s M :=
 ⟨h.below.drew, h.size, h.bound, h.blk, h.inj, fun i o hi hg => by
  have ho := h.obj i o hi hg
  cases o with
  | box cs esz => obtain ⟨c, e', fr, a1, a2, a3⟩ := ho; exact ⟨c, e', fr, a1, a2.ext ext_drew, a3⟩
  | fz cs esz => obtain ⟨c, e', fr, a1, a2, a3⟩ := ho; exact ⟨c, e', fr, a1, a2.ext ext_drew, a3⟩
  | row tip esz => exact ho
  | map es => obtain ⟨c, k, a1, a2⟩ := ho; exact ⟨c, k, a1, a2.ext ext_drew⟩
  | loop T ps asg body st pend => obtain ⟨rc, a1, a2, a3, a4, a5, a6, a7, a8⟩ := ho; exact ⟨rc, a1, a2, a3, a4, a5, a6, a7, fun t => (a8 t).ext ext_drew⟩
  | defs => exact ho
  | sym k => exact ho
  | ar t e z => exact arR_ext ext_drew rfl ho
  | dead => trivial, fun g cs hg => (h.glob g cs hg).ext ext_drew, h.fx, h.out⟩

theorem ext_kill (t : Nat) (hb : t < Tr.lid) : Ext w s M w (s.put t .dead) M := by
 refine ⟨fun b off v hc hi => ⟨hc, fun i o hin hg hbk => ?_, hi.2⟩, Nat.le_refl _, fun _ _ => ⟨rfl, rfl⟩, fun i tip e hi hg => ?_, ⟨Nat.le_refl _, fun _ _ _ => rfl, fun i o hi hg hl _ => ?_⟩, rfl, rfl, rfl⟩
 ·rw [St.get_put _ _ _ _ hb] at hg
  by_cases e : i = t
  ·rw [if_pos e] at hg; cases hg; trivial
  ·rw [if_neg e] at hg; exact hi.1 i o hin hg hbk
 ·rw [St.get_put _ _ _ _ hb] at hg
  by_cases e : i = t
  ·rw [if_pos e] at hg; cases hg
  ·rw [if_neg e] at hg; exact hg
 ·rw [St.get_put _ _ _ _ hb] at hg
  by_cases e : i = t
  ·rw [if_pos e] at hg; cases hg; exact hl.elim
  ·rw [if_neg e] at hg; exact ⟨i, o, hi, hg, hl, rfl⟩
theorem sim_kill (h : Sim G B0 w0 w s M) (t : Nat) (ht : t < s.n) : Sim G B0 w0 w (s.put t .dead) M := by
 have hb : t < Tr.lid := Nat.lt_of_lt_of_le ht h.bound
 have hE : Ext w s M w (s.put t .dead) M := ext_kill t hb
 refine ⟨h.below, h.size, h.bound, h.blk, fun i j oi oj hi hj gi gj li lj e => ?_, fun i o hi hg => ?_, fun g cs hg => (h.glob g cs hg).ext hE, h.fx, h.out⟩
 ·rw [St.get_put _ _ _ _ hb] at gi gj
  by_cases ei : i = t
  ·rw [if_pos ei] at gi; cases gi; exact li.elim
  ·by_cases ej : j = t
   ·rw [if_pos ej] at gj; cases gj; exact lj.elim
   ·rw [if_neg ei] at gi; rw [if_neg ej] at gj; exact h.inj i j oi oj hi hj gi gj li lj e
 ·rw [St.get_put _ _ _ _ hb] at hg
  by_cases e : i = t
  ·rw [if_pos e] at hg; cases hg; trivial
  ·rw [if_neg e] at hg
   have ho := h.obj i o hi hg
   cases o with
   | box cs esz => obtain ⟨c, e', fr, a1, a2, a3⟩ := ho; exact ⟨c, e', fr, a1, a2.ext hE, a3⟩
   | fz cs esz => obtain ⟨c, e', fr, a1, a2, a3⟩ := ho; exact ⟨c, e', fr, a1, a2.ext hE, a3⟩
   | row tip esz => exact ho
   | map es => obtain ⟨c, k, a1, a2⟩ := ho; exact ⟨c, k, a1, a2.ext hE⟩
   | dead => trivial
   | loop T ps asg body st pend => obtain ⟨rc, a1, a2, a3, a4, a5, a6, a7, a8⟩ := ho; exact ⟨rc, a1, a2, a3, a4, a5, a6, a7, fun t => (a8 t).ext hE⟩
   | defs => exact ho
   | sym k => exact ho
   | ar t e z => exact arR_ext hE rfl ho

theorem ext_write {w' : World} {t : Nat} {x y : AObj} (h : Sim G B0 w0 w s M) (ht : t < s.n) (hg : s.get t = some x) (hx : ∀ tip e, x ≠ .row tip e) (hl : x.live) (hy : ∀ tip e, y ≠ .row tip e) (hyl : y.live)
  (hw : ∀ k, k ≠ M.blk t -> w'.heap[k]? = w.heap[k]?) (hsz : w.heap.size <= w'.heap.size) : Ext w s M w' (s.put t y) M := by
 have hb : t < Tr.lid := Nat.lt_of_lt_of_le ht h.bound
 refine ⟨fun b off v hc hi => ?_, Nat.le_refl _, fun _ _ => ⟨rfl, rfl⟩, fun i tip e hi hg' => ?_, ⟨hsz, fun b _ hno => hw b fun e => hno t x ht hg hl e.symm, fun i o hi hg' hl' _ => ?_⟩, rfl, rfl, rfl⟩
 ·have hne : b ≠ M.blk t := by
   intro e
   have := hi.1 t x ht hg e.symm
   cases x with
   | row tip e => exact hx tip e rfl
   | dead => exact hl
   | box _ _ => exact this
   | fz _ _ => exact this
   | map _ => exact this
   | loop _ _ _ _ _ _ => exact this
   | defs => exact this
   | sym _ => exact this
   | ar _ _ _ => exact this
  refine ⟨(World.cell?_of_block (w := w) (w' := w') (hw b hne)).trans hc, fun i o hin hgi hbk => ?_, hi.2⟩
  rw [St.get_put _ _ _ _ hb] at hgi
  by_cases e : i = t
  ·subst e; exact (hne hbk.symm).elim
  ·rw [if_neg e] at hgi; exact hi.1 i o hin hgi hbk
 ·rw [St.get_put _ _ _ _ hb] at hg'
  by_cases e' : i = t
  ·rw [if_pos e'] at hg'; cases hg'; exact (hy _ _ rfl).elim
  ·rw [if_neg e'] at hg'; exact hg'
 ·rw [St.get_put _ _ _ _ hb] at hg'
  by_cases e' : i = t
  ·subst e'; exact ⟨i, x, ht, hg, hl, rfl⟩
  ·rw [if_neg e'] at hg'; exact ⟨i, o, hi, hg', hl', rfl⟩
theorem sim_write {w' : World} {t : Nat} {x y : AObj} (h : Sim G B0 w0 w s M) (ht : t < s.n) (hg : s.get t = some x) (hx : ∀ tip e, x ≠ .row tip e) (hl : x.live) (hy : ∀ tip e, y ≠ .row tip e) (hyl : y.live)
  (hw : ∀ k, k ≠ M.blk t -> w'.heap[k]? = w.heap[k]?) (hbel : Below B0 w0 w') (hsz : w'.heap.size = w.heap.size)
  (ho : ObjR w' (s.put t y) M (M.blk t) (M.cap t) y) : Sim G B0 w0 w' (s.put t y) M := by
 have hb : t < Tr.lid := Nat.lt_of_lt_of_le ht h.bound
 have hE : Ext w s M w' (s.put t y) M := ext_write h ht hg hx hl hy hyl hw (by omega)
 refine ⟨hbel, h.size, h.bound, fun i hi => by rw [hsz]; exact h.blk i hi, fun i j oi oj hi hj gi gj li lj e => ?_, fun i o hi hgi => ?_, fun g cs hg => (h.glob g cs hg).ext hE, h.fx, h.outw (Nat.le_of_eq hsz.symm)⟩
 ·rw [St.get_put _ _ _ _ hb] at gi gj
  have key : ∀ i oi, i < s.n -> (if i = t then some y else s.get i) = some oi -> oi.live -> ∃ o, s.get i = some o /\ o.live := by
   intro i oi hi gi li
   by_cases e : i = t
   ·subst e; exact ⟨x, hg, hl⟩
   ·rw [if_neg e] at gi; exact ⟨oi, gi, li⟩
  obtain ⟨o1, g1, l1⟩ := key i oi hi gi li
  obtain ⟨o2, g2, l2⟩ := key j oj hj gj lj
  exact h.inj i j o1 o2 hi hj g1 g2 l1 l2 e
 ·rw [St.get_put _ _ _ _ hb] at hgi
  by_cases e : i = t
  ·subst e; rw [if_pos rfl] at hgi; cases hgi; exact ho
  ·rw [if_neg e] at hgi
   have ho' := h.obj i o hi hgi
   cases o with
   | dead => trivial
   | box cs esz =>
    have hne : M.blk i ≠ M.blk t := fun e' => e (h.inj i t _ _ hi ht hgi hg trivial hl e')
    obtain ⟨c, e', fr, a1, a2, a3⟩ := ho'; exact ⟨c, e', fr, (hw _ hne).trans a1, a2.ext hE, a3⟩
   | fz cs esz =>
    have hne : M.blk i ≠ M.blk t := fun e' => e (h.inj i t _ _ hi ht hgi hg trivial hl e')
    obtain ⟨c, e', fr, a1, a2, a3⟩ := ho'; exact ⟨c, e', fr, (hw _ hne).trans a1, a2.ext hE, a3⟩
   | row tip esz =>
    have hne : M.blk i ≠ M.blk t := fun e' => e (h.inj i t _ _ hi ht hgi hg trivial hl e')
    obtain ⟨c, e', fr, a1, a2⟩ := ho'; exact ⟨c, e', fr, (hw _ hne).trans a1, a2⟩
   | map es =>
    have hne : M.blk i ≠ M.blk t := fun e' => e (h.inj i t _ _ hi ht hgi hg trivial hl e')
    obtain ⟨c, k, a1, a2⟩ := ho'; exact ⟨c, k, (hw _ hne).trans a1, a2.ext hE⟩
   | loop T ps asg body st pend =>
    have hne : M.blk i ≠ M.blk t := fun e' => e (h.inj i t _ _ hi ht hgi hg trivial hl e')
    obtain ⟨rc, a1, a2, a3, a4, a5, a6, a7, a8⟩ := ho'; exact ⟨rc, (hw _ hne).trans a1, a2, a3, a4, a5, a6, a7, fun t => (a8 t).ext hE⟩
   | defs =>
    have hne : M.blk i ≠ M.blk t := fun e' => e (h.inj i t _ _ hi ht hgi hg trivial hl e')
    exact (hw _ hne).trans ho'
   | sym k =>
    have hne : M.blk i ≠ M.blk t := fun e' => e (h.inj i t _ _ hi ht hgi hg trivial hl e')
    show SymR _ _ _ _; rw [hw _ hne]; exact ho'
   | ar t' e' z' =>
    have hne : M.blk i ≠ M.blk t := fun e' => e (h.inj i t _ _ hi ht hgi hg trivial hl e')
    exact arR_ext hE (hw _ hne) ho'
end
end Go.Ab
/- The evaluator's operations against the model's: what is read, written and made. -/
namespace Go.Ab
open Go Go.RowKit

section
variable [Interp] {P : Program} {G : Nat -> Option (List AV)} {B0 : Nat} {w0 w : World} {s : St} {M : Mp}

def DLr (w : World) (s : St) (M : Mp) : List (Nat × List AV × List AV) -> List Deferred -> Prop
 | [], dv => dv = []
 | (g, xs, ys) :: r, dv => ∃ (args cap : Array Value) (t : List Deferred), dv = { target := .fn (.func g) cap, args := args } :: t /\ VRl w s M xs args.toList /\ VRl w s M ys cap.toList /\ DLr w s M r t
theorem DLr.ext {w w' : World} {s s' : St} {M M' : Mp} (e : Ext w s M w' s' M') : ∀ {l : List (Nat × List AV × List AV)} {dv : List Deferred}, DLr w s M l dv -> DLr w' s' M' l dv
 | [], _, h => h
 | (_, _, _) :: _, _, ⟨args, cap, t, e1, h1, h2, h3⟩ => ⟨args, cap, t, e1, h1.ext e, h2.ext e, DLr.ext e h3⟩

structure TmR (w : World) (s : St) (M : Mp) (T : Tm) (a : Act) : Prop where
 size : a.tmps.size = T.n
 get : ∀ t, VR w s M (gt T t) (a.tmps.getD t undef)
 defers : ∃ dv, DLr w s M T.dl dv /\ a.defers = (T.ds.map fun d => ({ target := .collected (M.blk d), args := #[] } : Deferred)) ++ dv
 dlt : ∀ d, d ∈ T.ds -> d < s.n

theorem TmR.ext {w' : World} {s' : St} {M' : Mp} {T : Tm} {a : Act} (h : TmR w s M T a) (e : Ext w s M w' s' M') : TmR w' s' M' T a :=
 ⟨h.size, fun t => (h.get t).ext e, by
  obtain ⟨dv, h1, h2⟩ := h.defers
  refine ⟨dv, h1.ext e, ?_⟩
  rw [h2]
  congr 1
  exact List.map_congr_left fun d hd => by rw [(e.map d (h.dlt d hd)).1], fun d hd => Nat.lt_of_lt_of_le (h.dlt d hd) e.n⟩

theorem TmR.put {T T' : Tm} {a : Act} {d : Option Nat} {x : AV} {v : Value} (h : TmR w s M T a) (hp : putT T d x = some T') (hv : VR w s M x v) : TmR w s M T' (a.put d v) := by
 cases d with
 | none => simp only [putT, Option.some.injEq] at hp; subst hp; exact h
 | some d =>
  simp only [putT] at hp
  split at hp
  ·rename_i hb
   simp only [Option.some.injEq] at hp
   rw [Bool.and_eq_true] at hb
   have h1 : d + 1 <= T.n := Nat.le_of_ble_eq_true hb.1
   have h2 : T.n <= Tr.lid := Nat.le_of_ble_eq_true hb.2
   subst hp
   refine ⟨by simp only [Act.put, Array.size_setIfInBounds]; exact h.size, fun t => ?_, h.defers, h.dlt⟩
   have hs := h.size
   have e1 : gt { T with t := T.t.set d (some x) } t = if t = d then x else gt T t := by
    simp only [gt]
    rw [Tr.get_set _ _ _ _ (by omega)]
    by_cases e : t = d
    ·rw [if_pos e, if_pos e]; rfl
    ·rw [if_neg e, if_neg e]
   rw [e1]
   by_cases e : t = d
   ·subst e
    rw [if_pos rfl]
    have : (a.put (some t) v).tmps.getD t undef = v := by
     simp only [Act.put, Array.getD_eq_getD_getElem?, Array.getElem?_setIfInBounds_self]
     rw [if_pos (by omega)]; rfl
    rw [this]; exact hv
   ·rw [if_neg e]
    have : (a.put (some d) v).tmps.getD t undef = a.tmps.getD t undef := by
     simp only [Act.put, Array.getD_eq_getD_getElem?]
     rw [Array.getElem?_setIfInBounds_ne (Ne.symm e)]
    rw [this]; exact h.get t
  ·cases hp

theorem sc_some {x : Value} {c : AV} (h : sc x = some c) : c = .v x /\ scalar x = true := by
 unfold sc at h
 split at h
 ·rename_i hx; cases h; exact ⟨rfl, hx⟩
 ·cases h
theorem VR_sc {x : Value} {c : AV} (h : sc x = some c) : VR w s M c x := by
 obtain ⟨rfl, hx⟩ := sc_some h; exact VR_v_of hx
theorem VRl_scAll : ∀ {xs : List Value} {cs : List AV}, scAll xs = some cs -> VRl w s M cs xs
 | [], cs, h => by simp only [scAll, Option.some.injEq] at h; subst h; exact VRl_nil
 | x :: r, cs, h => by
  simp only [scAll, Option.bind_eq_bind, Option.bind_eq_some_iff, Option.pure_def, Option.some.injEq] at h
  obtain ⟨a, h1, b, h2, rfl⟩ := h
  exact VRl_cons (VR_sc h1) (VRl_scAll h2)
theorem scAll_cells : ∀ {xs : List Value} {cs : List AV}, scAll xs = some cs -> cs.all isCell = true
 | [], cs, h => by simp only [scAll, Option.some.injEq] at h; subst h; rfl
 | x :: r, cs, h => by
  simp only [scAll, Option.bind_eq_bind, Option.bind_eq_some_iff, Option.pure_def, Option.some.injEq] at h
  obtain ⟨a, h1, b, h2, rfl⟩ := h
  obtain ⟨rfl, _⟩ := sc_some h1
  simp only [List.all_cons, scAll_cells h2, Bool.and_true]; rfl
theorem VR_agg {cs : List AV} {l : List Value} (h : VRl w s M cs l) : VR w s M (.agg cs) (.agg l.toArray) := by
 unfold VR; exact ⟨_, rfl, by simpa using h⟩
theorem VR_tup {cs : List AV} {l : List Value} (h : VRl w s M cs l) : VR w s M (.tup cs) (.tuple l.toArray) := by
 unfold VR; exact ⟨_, rfl, by simpa using h⟩
theorem VR_ofValue {x : Value} {c : AV} (h : ofValue x = some c) : VR w s M c x := by
 unfold ofValue at h
 split at h
 ·rename_i cs
  rw [Option.map_eq_some_iff] at h
  obtain ⟨l, hl, rfl⟩ := h
  have := VR_agg (w := w) (s := s) (M := M) (VRl_scAll (w := w) (s := s) (M := M) hl)
  simpa using this
 ·split at h
  ·rename_i vs hv
   cases h
   have : vs = #[] := Array.eq_empty_of_size_eq_zero (nbe hv)
   subst this; exact VR_und
  ·cases h
 ·exact VR_sc h
theorem VR_outValue {x : Value} {c : AV} (h : outValue x = some c) : VR w s M c x := by
 unfold outValue at h
 split at h
 ·rw [Option.map_eq_some_iff] at h
  obtain ⟨l, hl, rfl⟩ := h
  have := VR_agg (w := w) (s := s) (M := M) (VRl_scAll (w := w) (s := s) (M := M) hl)
  simpa using this
 ·rw [Option.map_eq_some_iff] at h
  obtain ⟨l, hl, rfl⟩ := h
  have := VR_tup (w := w) (s := s) (M := M) (VRl_scAll (w := w) (s := s) (M := M) hl)
  simpa using this
 ·exact VR_sc h
theorem unSc_some {c : AV} {x v : Value} (h : unSc c = some x) (k : VR w s M c v) : v = x := by
 cases c <;> simp only [unSc, Option.some.injEq, reduceCtorEq] at h
 subst h; exact (VR_v.1 k).1
theorem unAll_some : ∀ {cs : List AV} {xs vs : List Value}, unAll cs = some xs -> VRl w s M cs vs -> vs = xs
 | [], xs, vs, h, k => by simp only [unAll, Option.some.injEq] at h; unfold VRl at k; rw [k, <- h]
 | c :: r, xs, vs, h, k => by
  simp only [unAll, Option.bind_eq_bind, Option.bind_eq_some_iff, Option.pure_def, Option.some.injEq] at h
  obtain ⟨a, h1, b, h2, rfl⟩ := h
  unfold VRl at k; obtain ⟨v, t, rfl, k1, k2⟩ := k
  rw [unSc_some h1 k1, unAll_some h2 k2]
theorem toValue_some : ∀ {c : AV} {x v : Value}, toValue c = some x -> VR w s M c v -> v = x
 | .v _, x, v, h, k => by
  simp only [toValue, Option.some.injEq] at h
  subst h; exact (VR_v.1 k).1
 | .agg cs, x, v, h, k => by
  simp only [toValue, Option.map_eq_some_iff] at h
  obtain ⟨l, hl, rfl⟩ := h; unfold VR at k; obtain ⟨vs, rfl, k⟩ := k; rw [<- unAll_some hl k]
 | .tup cs, x, v, h, k => by
  simp only [toValue, Option.map_eq_some_iff] at h
  obtain ⟨l, hl, rfl⟩ := h; unfold VR at k; obtain ⟨vs, rfl, k⟩ := k; rw [<- unAll_some hl k]
 | .iface t y, x, v, h, k => by
  simp only [toValue, Option.map_eq_some_iff] at h
  obtain ⟨l, hl, rfl⟩ := h; unfold VR at k; obtain ⟨u, rfl, k⟩ := k; rw [toValue_some hl k]
 | .ref _, x, v, h, _ | .box _ _, x, v, h, _ | .sl _ _ _, x, v, h, _ | .ms _ _ _, x, v, h, _ | .mg _ _, x, v, h, _ | .e0, x, v, h, _ | .mp _, x, v, h, _ | .fn _ _ _, x, v, h, _ | .pan _, x, v, h, _ => by simp [toValue] at h

theorem opd_sound (hs : Sim G B0 w0 w s M) {T : Tm} {a : Act} (hT : TmR w s M T a) {x : Operand} {c : AV} (h : opd G T x = some c) : VR w s M c (a.eval x) := by
 cases x with
 | tmp t => simp only [opd, Option.some.injEq] at h; subst h; exact hT.get t
 | const x => exact VR_ofValue h
 | global g =>
  simp only [opd, Option.map_eq_some_iff] at h
  obtain ⟨cs, hg, rfl⟩ := h
  unfold VR; exact ⟨g, 0, rfl, hs.glob g cs hg⟩
 | func f =>
  simp only [opd, Option.some.injEq] at h; subst h
  unfold VR; exact ⟨_, #[], #[], rfl, rfl, VRl_nil, VRl_nil⟩
theorem opds_sound (hs : Sim G B0 w0 w s M) {T : Tm} {a : Act} (hT : TmR w s M T a) : ∀ {xs : List Operand} {cs : List AV}, opds G T xs = some cs -> VRl w s M cs (xs.map a.eval)
 | [], cs, h => by simp only [opds, Option.some.injEq] at h; subst h; exact VRl_nil
 | x :: r, cs, h => by
  simp only [opds, Option.bind_eq_bind, Option.bind_eq_some_iff, Option.pure_def, Option.some.injEq] at h
  obtain ⟨c, h1, d, h2, rfl⟩ := h
  exact VRl_cons (opd_sound hs hT h1) (opds_sound hs hT h2)

theorem tyV_scalar {t : Ty} {v : Value} (h : tyV t v = true) : (∃ k i, v = .int k i) \/ (∃ b, v = .bool b) \/ ∃ s, v = .string s := by
 unfold tyV at h
 split at h
 ·exact .inl ⟨_, _, rfl⟩
 ·exact .inr (.inl ⟨_, rfl⟩)
 ·exact .inr (.inr ⟨_, rfl⟩)
 ·cases h
theorem VR_d {t : Nat} {e : E} {tok : Option Nat} {v : Value} (k : VR w s M (.d t e tok) v) : (e.den M.env = .lst [] /\ ∃ a cap, v = .slice a 0 cap) \/ ∃ rows b off cap, e.den M.env = .lst rows /\ v = .slice (some ⟨b, off, none⟩) rows.length cap /\ rows.length <= cap /\
  DVr (fun b off => w.cell? ⟨b, off, none⟩) (Imm s M) rows b off /\ fitsR s.k.shape rows t := by
 unfold VR at k
 obtain ⟨k, f, _⟩ := k
 generalize e.den M.env = d at k f
 cases d with
 | v x => unfold fits at f; exact f.elim
 | nil => unfold DV at k; exact k.elim
 | lst rows =>
  unfold DV at k; unfold fits at f
  rcases k with ⟨rfl, k⟩ | ⟨b, off, cap, e, hl, k⟩
  ·exact .inl ⟨rfl, k⟩
  ·exact .inr ⟨rows, b, off, cap, rfl, e, hl, k, f⟩
 | row _ => unfold DV at k; exact k.elim
theorem not_agg_of_cell {c : AV} {v : Value} (hc : isCell c = true) (k : VR w s M c v) : v.oneCell' = true := by
 cases c with
 | v x => obtain ⟨rfl, h⟩ := VR_v.1 k; cases v <;> first | rfl | (simp [scalar] at h)
 | agg _ => cases hc
 | tup _ => cases hc
 | ref _ => unfold VR at k; obtain ⟨b, off, rfl, _⟩ := k; rfl
 | box _ _ => unfold VR at k; obtain ⟨_, rfl⟩ := k; rfl
 | sl _ _ _ => unfold VR at k; obtain ⟨b, off, cap, rfl, _⟩ := k; rfl
 | ms _ _ _ => unfold VR at k; obtain ⟨_, cap, _, rfl⟩ := k; rfl
 | mg _ _ => unfold VR at k; obtain ⟨_, _, rfl⟩ := k; rfl
 | iface _ _ => unfold VR at k; obtain ⟨_, rfl, _⟩ := k; rfl
 | pan _ => cases hc
 | any => cases hc
 | sy x _ => unfold VR at k; obtain ⟨rfl, h, _⟩ := k; cases v <;> first | rfl | (simp [scalar] at h)
 | x t e => unfold VR at k; rcases tyV_scalar k.2 with ⟨_, _, rfl⟩ | ⟨_, rfl⟩ | ⟨_, rfl⟩ <;> rfl
 | d t e tok => rcases VR_d k with ⟨_, _, _, rfl⟩ | ⟨_, _, _, _, _, rfl, _⟩ <;> rfl
 | so _ _ _ _ _ => unfold VR at k; obtain ⟨_, _, _, _, _, _, _, rfl, _⟩ := k; rfl
 | po _ _ _ => unfold VR at k; obtain ⟨_, _, _, rfl⟩ := k; rfl
 | rd t e o => unfold VR at k; obtain ⟨b, off, cs, rfl, _⟩ := k; rfl
 | e0 => unfold VR at k; obtain ⟨b, off, rfl⟩ := k; rfl
 | mp _ => unfold VR at k; obtain ⟨_, rfl⟩ := k; rfl
 | fn _ _ _ => unfold VR at k; obtain ⟨f', a', b', rfl, _⟩ := k; rfl
theorem oneCell_all : ∀ {cs : List AV} {vs : List Value}, cs.all isCell = true -> VRl w s M cs vs -> ∀ v ∈ vs, v.oneCell' = true
 | [], _, _, k => by unfold VRl at k; subst k; intro v hv; cases hv
 | c :: r, vs, h, k => by
  unfold VRl at k; obtain ⟨v, t, rfl, k1, k2⟩ := k
  simp only [List.all_cons, Bool.and_eq_true] at h
  intro x hx
  cases hx with
  | head => exact not_agg_of_cell h.1 k1
  | tail _ hx => exact oneCell_all h.2 k2 x hx
theorem VR_cellsOf {c : AV} {v : Value} (hc : (cellsOf c).all isCell = true) (k : VR w s M c v) : VRl w s M (cellsOf c) v.cells.toList := by
 cases c with
 | agg cs => unfold VR at k; obtain ⟨vs, rfl, k⟩ := k; exact k
 | v x =>
  obtain ⟨rfl, h⟩ := VR_v.1 k
  have : v.cells = #[v] := by cases v <;> first | rfl | (simp [scalar] at h)
  rw [this]; exact VRl_cons k VRl_nil
 | tup _ => have k' := k; unfold VR at k; obtain ⟨vs, rfl, _⟩ := k; exact VRl_cons k' VRl_nil
 | ref _ => have k' := k; unfold VR at k; obtain ⟨b, off, rfl, _⟩ := k; exact VRl_cons k' VRl_nil
 | box _ _ => have k' := k; unfold VR at k; obtain ⟨_, rfl⟩ := k; exact VRl_cons k' VRl_nil
 | sl _ _ _ => have k' := k; unfold VR at k; obtain ⟨b, off, cap, rfl, _⟩ := k; exact VRl_cons k' VRl_nil
 | ms _ _ _ => have k' := k; unfold VR at k; obtain ⟨_, cap, _, rfl⟩ := k; exact VRl_cons k' VRl_nil
 | mg _ _ => have k' := k; unfold VR at k; obtain ⟨_, _, rfl⟩ := k; exact VRl_cons k' VRl_nil
 | iface _ _ => have k' := k; unfold VR at k; obtain ⟨_, rfl, _⟩ := k; exact VRl_cons k' VRl_nil
 | pan _ => unfold VR at k; exact k.elim
 | any => simp [cellsOf, isCell] at hc
 | sy x _ =>
  have k' := k
  unfold VR at k; obtain ⟨rfl, h, _⟩ := k
  have : v.cells = #[v] := by cases v <;> first | rfl | (simp [scalar] at h)
  rw [this]; exact VRl_cons k' VRl_nil
 | e0 => have k' := k; unfold VR at k; obtain ⟨b, off, rfl⟩ := k; exact VRl_cons k' VRl_nil
 | x t e =>
  have k' := k
  unfold VR at k
  have : v.cells = #[v] := by rcases tyV_scalar k.2 with ⟨_, _, rfl⟩ | ⟨_, rfl⟩ | ⟨_, rfl⟩ <;> rfl
  rw [this]; exact VRl_cons k' VRl_nil
 | so _ _ _ _ _ => have k' := k; unfold VR at k; obtain ⟨_, _, _, _, _, _, _, rfl, _⟩ := k; exact VRl_cons k' VRl_nil
 | po _ _ _ => have k' := k; unfold VR at k; obtain ⟨_, _, _, rfl⟩ := k; exact VRl_cons k' VRl_nil
 | d t e tok =>
  have : v.cells = #[v] := by rcases VR_d k with ⟨_, _, _, rfl⟩ | ⟨_, _, _, _, _, rfl, _⟩ <;> rfl
  rw [this]; exact VRl_cons k VRl_nil
 | rd t e o => have k' := k; unfold VR at k; obtain ⟨b, off, cs, rfl, _⟩ := k; exact VRl_cons k' VRl_nil
 | mp _ => have k' := k; unfold VR at k; obtain ⟨_, rfl⟩ := k; exact VRl_cons k' VRl_nil
 | fn _ _ _ => have k' := k; unfold VR at k; obtain ⟨f', a', b', rfl, _⟩ := k; exact VRl_cons k' VRl_nil

theorem run_isAgg {t : TypeId} {b : Bool} (h : isAggT P t = some b) : (isAgg t).run P w = .ok b w := by
 unfold isAggT at h
 cases hu : P.underlying t with
 | none => rw [hu] at h; cases h
 | some d =>
  rw [hu] at h
  unfold isAgg
  simp only [Sem.run_bind, run_underlying hu, Result.andThen_ok]
  cases d <;> simp_all
theorem run_typeInfo {t : TypeId} {i : TypeInfo} (h : P.info? t = some i) : (typeInfo t).run P w = .ok i w := by
 simp [typeInfo, h]
theorem run_sizeOf {t : TypeId} {n : Nat} (h : sizeT P t = some n) : (sizeOf t).run P w = .ok n w := by
 unfold sizeT at h
 rw [Option.map_eq_some_iff] at h
 obtain ⟨i, hi, rfl⟩ := h
 simp [sizeOf, run_typeInfo hi]
theorem run_zeroValue {t : TypeId} {z : Value} (h : zeroT P t = some z) : (zeroValue t).run P w = .ok z w := by
 unfold zeroT at h
 rw [Option.bind_eq_some_iff] at h
 obtain ⟨i, hi, hz⟩ := h
 simp [zeroValue, run_typeInfo hi, hz]
theorem zeroCells_some {t : TypeId} {cs : List AV} (h : zeroCellsT P t = some cs) : ∃ z, zeroT P t = some z /\ scAll z.cells.toList = some cs := by
 unfold zeroCellsT at h
 rw [Option.bind_eq_some_iff] at h
 exact h

theorem add_eq (b o i : Nat) : (⟨b, o, none⟩ : Addr).add i = ⟨b, o + i, none⟩ := by unfold Addr.add; split <;> simp_all

def At (w : World) (b off : Nat) (vs : List Value) : Prop := ∀ j v, vs[j]? = some v -> w.cell? ⟨b, off + j, none⟩ = some v
theorem At.take {b off : Nat} {vs : List Value} (h : At w b off vs) (n : Nat) : At w b off (vs.take n) := fun j v hj => by
 rw [List.getElem?_take] at hj
 split at hj
 ·exact h j v hj
 ·cases hj
theorem At.drop {b off : Nat} {vs : List Value} (h : At w b off vs) (n : Nat) : At w b (off + n) (vs.drop n) := fun j v hj => by
 rw [List.getElem?_drop] at hj
 have := h (n + j) v hj
 rw [show off + n + j = off + (n + j) by omega]; exact this
theorem VRs.vals : ∀ {cs : List AV} {b off : Nat}, VRs w s M cs b off -> ∃ vs, VRl w s M cs vs /\ At w b off vs
 | [], _, _, _ => ⟨[], VRl_nil, fun j v h => by simp at h⟩
 | c :: r, b, off, k => by
  unfold VRs at k
  obtain ⟨⟨v, hv, k1⟩, _, _, k4⟩ := k
  obtain ⟨vs, h1, h2⟩ := k4.vals
  refine ⟨v :: vs, VRl_cons k1 h1, fun j x hj => ?_⟩
  cases j with
  | zero => simp at hj; subst hj; exact hv
  | succ j => have := h2 j x (by simpa using hj); rw [show off + (j + 1) = off + 1 + j by omega]; exact this
theorem at_block {b : Nat} {c : Array Value} {e : TypeId} {fr : Nat × Nat} (h : w.heap[b]? = some (.cells c e fr)) : At w b 0 c.toList := fun j v hj => by
 simp only [World.cell?, h]
 simpa using hj
theorem run_loadCells {b off : Nat} {vs : List Value} (h : At w b off vs) : (loadCells ⟨b, off, none⟩ vs.length).run P w = .ok vs.toArray w :=
 run_loadCells_list w _ vs fun j v hj => by rw [add_eq]; exact h j v hj
theorem run_loadVar {t : TypeId} {cs : List AV} {x : AV} {b off : Nat} {vs : List Value} (hl : VRl w s M cs vs) (ha : At w b off vs) (h : takeT P t cs = some x) :
  ∃ v, (loadVar t ⟨b, off, none⟩).run P w = .ok v w /\ VR w s M x v := by
 simp only [takeT, Option.bind_eq_bind, Option.bind_eq_some_iff] at h
 obtain ⟨g, hg, h⟩ := h
 unfold loadVar
 simp only [Sem.run_bind, run_isAgg hg, Result.andThen_ok]
 cases g with
 | true =>
  simp only [if_true, Option.bind_eq_some_iff] at h
  obtain ⟨n, hn, h⟩ := h
  split at h
  ·rename_i hle
   cases h
   have hle := Nat.le_of_ble_eq_true hle
   have hlen : (vs.take n).length = n := by rw [List.length_take, <- hl.length]; omega
   have hr := run_loadCells (P := P) (ha.take n)
   rw [hlen] at hr
   refine ⟨.agg (vs.take n).toArray, ?_, VR_agg (hl.take n)⟩
   simp [run_sizeOf hn, hr]
  ·cases h
 | false =>
  simp only [Bool.false_eq_true, if_false] at h
  rcases hl.get 0 with ⟨h1, _⟩ | ⟨c, v, h1, h2, h3⟩
  ·rw [List.head?_eq_getElem?, h1] at h; cases h
  ·rw [List.head?_eq_getElem?, h1] at h; cases h
   have := ha 0 v h2
   refine ⟨v, ?_, h3⟩
   simp only [Nat.add_zero] at this
   simp [this]
theorem run_part {t : TypeId} {cs : List AV} {x : AV} {off : Nat} {vs : Array Value} (hl : VRl w s M cs vs.toList) (h : partT P t cs off = some x) :
  ∃ v, (part t vs off).run P w = .ok v w /\ VR w s M x v := by
 simp only [partT, Option.bind_eq_bind, Option.bind_eq_some_iff] at h
 obtain ⟨g, hg, h⟩ := h
 unfold part
 simp only [Sem.run_bind, run_isAgg hg, Result.andThen_ok]
 cases g with
 | true =>
  simp only [if_true, Option.bind_eq_some_iff] at h
  obtain ⟨n, hn, h⟩ := h
  split at h
  ·cases h
   refine ⟨.agg (vs.extract off (off + n)), by simp [run_sizeOf hn], ?_⟩
   have := VR_agg ((hl.drop off).take n)
   have e : vs.extract off (off + n) = ((vs.toList.drop off).take n).toArray := by
    apply Array.toList_inj.1
    rw [Array.toList_extract, List.extract_eq_take_drop]
    congr 1
    omega
   rw [e]; exact this
  ·cases h
 | false =>
  simp only [Bool.false_eq_true, if_false] at h
  rcases hl.get off with ⟨h1, _⟩ | ⟨c, v, h1, h2, h3⟩
  ·rw [h1] at h; cases h
  ·rw [h1] at h; cases h
   refine ⟨v, ?_, h3⟩
   rw [Array.getElem?_toList] at h2
   simp [h2]
end
end Go.Ab
/- The evaluator's operations against the model's, continued: one theorem an operation. -/
namespace Go.Ab
open Go Go.RowKit

section
variable [Interp] {P : Program} {G : Nat -> Option (List AV)} {B0 : Nat} {w0 w : World} {s : St} {M : Mp}

def FW (ro : Option Nat) : Fence := { fn := fun _ => True, depth := none, alive := false, round := ro }

def OpOk (P : Program) (G : Nat -> Option (List AV)) (B0 : Nat) (w0 w : World) (s : St) (M : Mp) (o : Oper) (a : Act) (x : AV) (s' : St) : Prop :=
 ∀ (ro : Option Nat) (next : Act -> World -> Prop) (Q : Exit -> Act -> World -> Prop), (∀ v w' M', VR w' s' M' x v -> Sim G B0 w0 w' s' M' -> Ext w s M w' s' M' -> next (a.put o.dst v) w') -> (o.uponIn (FW ro) 0 P a next Q ((execOp a.eval o).run P w))

theorem ok_value {o : Oper} {a : Act} {x : AV} {s' : St} {v : Value} {w' : World} {M' : Mp} (hr : (execOp a.eval o).run P w = .ok (.value v) w') (hv : VR w' s' M' x v) (hs : Sim G B0 w0 w' s' M') (he : Ext w s M w' s' M') :
  OpOk P G B0 w0 w s M o a x s' := fun ro next Q hn => by
 rw [hr, Oper.uponIn_value]; exact hn v w' M' hv hs he
theorem ok_skip {o : Oper} {a : Act} {s' : St} {w' : World} {M' : Mp} (hr : (execOp a.eval o).run P w = .ok .skip w') (hs : Sim G B0 w0 w' s' M') (he : Ext w s M w' s' M') :
  OpOk P G B0 w0 w s M o a und s' := fun ro next Q hn => by
 rw [hr, Oper.uponIn_skip]; exact hn undef w' M' VR_und hs he
theorem ok_here {o : Oper} {a : Act} {x : AV} {v : Value} (hs : Sim G B0 w0 w s M) (hr : (execOp a.eval o).run P w = .ok (.value v) w) (hv : VR w s M x v) : OpOk P G B0 w0 w s M o a x s := ok_value hr hv hs (Ext.refl _ _ _)

theorem room_lt (h : s.room = true) : s.n < Tr.lid := Nat.le_of_ble_eq_true h

theorem heap_new (w : World) (o : Obj) : (w.alloc o).heap[w.heap.size]? = some o := by
 show (w.heap.push o)[w.heap.size]? = some o
 simp

theorem sim_frame {G : Nat -> Option (List AV)} {B0 : Nat} {w0 w w' : World} {s : St} {M : Mp} (h : Sim G B0 w0 w s M) (hb : Below w.heap.size w w') : Sim G B0 w0 w' s M /\ Ext w s M w' s M := by
 have hE : Ext w s M w' s M := ⟨fun b off v hc hi => ⟨(World.cell?_of_block (w := w) (w' := w') (hb.block b (cell?_lt hc))).trans hc, hi⟩, Nat.le_refl _, fun _ _ => ⟨rfl, rfl⟩, fun _ _ _ _ h => h, ⟨hb.size, fun b h _ => hb.block b h, fun i o hi hg hl _ => ⟨i, o, hi, hg, hl, rfl⟩⟩, rfl, rfl, rfl⟩
 have hB : B0 <= w.heap.size := Nat.le_trans h.size h.below.size
 refine ⟨⟨h.below.trans (hb.mono hB), h.size, h.bound, fun i hi => ⟨(h.blk i hi).1, Nat.lt_of_lt_of_le (h.blk i hi).2 hb.size⟩, h.inj, fun i o hi hg => ?_, fun g cs hg => (h.glob g cs hg).ext hE, h.fx, h.outw hb.size⟩, hE⟩
 have ho := h.obj i o hi hg
 have hk := hb.block (M.blk i) (h.blk i hi).2
 cases o with
 | box cs esz => obtain ⟨c, e', fr, a1, a2, a3⟩ := ho; exact ⟨c, e', fr, hk.trans a1, a2.ext hE, a3⟩
 | fz cs esz => obtain ⟨c, e', fr, a1, a2, a3⟩ := ho; exact ⟨c, e', fr, hk.trans a1, a2.ext hE, a3⟩
 | row tip esz => obtain ⟨c, e', fr, a1, a2⟩ := ho; exact ⟨c, e', fr, hk.trans a1, a2⟩
 | map es => obtain ⟨c, k, a1, a2⟩ := ho; exact ⟨c, k, hk.trans a1, a2.ext hE⟩
 | dead => trivial
 | loop T ps asg body st pend => obtain ⟨rc, a1, a2, a3, a4, a5, a6, a7, a8⟩ := ho; exact ⟨rc, hk.trans a1, a2, a3, a4, a5, a6, a7, fun t => (a8 t).ext hE⟩
 | defs => exact hk.trans ho
 | sym k => show SymR _ _ _ _; rw [hk]; exact ho
 | ar t e z => exact arR_ext hE hk ho

theorem new_boxK (hs : Sim G B0 w0 w s M) (hr : s.room = true) {cs : List AV} {vs : Array Value} (t : TypeId) (hv : VRl w s M cs vs.toList) (hc : cs.all isCell = true) (k : Nat) (hk : k % tyBase = 0) (ht : tyBase <= k -> t = k / tyBase - 1) :
  Sim G B0 w0 (w.alloc (.cells vs t)) (s.new (.box cs k)) (M.add s.n w.heap.size 0) /\ Ext w s M (w.alloc (.cells vs t)) (s.new (.box cs k)) (M.add s.n w.heap.size 0) := by
 have hE := ext_new (w := w) (M := M) (room_lt hr) (fun i hi => (hs.blk i hi).2) (.cells vs t) (.box cs k) 0
 refine ⟨sim_new hs (room_lt hr) _ _ _ ⟨vs, t, (0, 0), heap_new _ _, ?_, hc, .inl rfl, fun h => absurd hk h, fun h => ⟨ht h, fun _ => by rw [hv.length]; simp⟩⟩, hE⟩
 rw [List.take_of_length_le (by rw [hv.length]; exact Nat.le_refl _)]
 exact hv.ext hE
theorem new_box (hs : Sim G B0 w0 w s M) (hr : s.room = true) {cs : List AV} {vs : Array Value} (t : TypeId) (hv : VRl w s M cs vs.toList) (hc : cs.all isCell = true) :
  Sim G B0 w0 (w.alloc (.cells vs t)) (s.new (.box cs 0)) (M.add s.n w.heap.size 0) /\ Ext w s M (w.alloc (.cells vs t)) (s.new (.box cs 0)) (M.add s.n w.heap.size 0) :=
 new_boxK hs hr t hv hc 0 rfl fun h => absurd h (by decide)
theorem codeOf_mod {t n : Nat} (h : n < tyBase) : codeOf t n % tyBase = n := by
 unfold codeOf; rw [Nat.mul_add_mod]; exact Nat.mod_eq_of_lt h
theorem codeOf_div {t n : Nat} (h : n < tyBase) : codeOf t n / tyBase - 1 = t := by
 unfold codeOf
 have h0 : 0 < tyBase := by decide
 rw [Nat.mul_add_div h0, Nat.div_eq_of_lt h]; omega
theorem new_row (hs : Sim G B0 w0 w s M) (hr : s.room = true) {vs : Array Value} (t : TypeId) (fr : Nat × Nat) (tip : Tip) (esz cap : Nat) (h1 : vs.size = cap * esz) (h2 : tip.val M.env <= vs.size) (h3 : Free fr vs.size) :
  Sim G B0 w0 (w.alloc (.cells vs t fr)) (s.new (.row tip esz)) (M.add s.n w.heap.size cap) /\ Ext w s M (w.alloc (.cells vs t fr)) (s.new (.row tip esz)) (M.add s.n w.heap.size cap) := by
 have hE := ext_new (w := w) (M := M) (room_lt hr) (fun i hi => (hs.blk i hi).2) (.cells vs t fr) (.row tip esz) cap
 refine ⟨sim_new hs (room_lt hr) _ _ _ ⟨vs, t, fr, heap_new _ _, h1, h2, h3⟩, hE⟩

theorem s_move {o : Oper} {a : Act} {T : Tm} {x : Operand} {c : AV} (hs : Sim G B0 w0 w s M) (hT : TmR w s M T a) (hop : o.op = .move x \/ o.op = .assign x) (h : opd G T x = some c) : OpOk P G B0 w0 w s M o a c s :=
 ok_here hs (by rcases hop with hop | hop <;> simp [execOp, hop]) (opd_sound hs hT h)

theorem s_pick {o : Oper} {a : Act} {T : Tm} {q x y : Operand} {b : Bool} {c : AV} (hs : Sim G B0 w0 w s M) (hT : TmR w s M T a) (hop : o.op = .pick q x y) (hq : opd G T q = some (.v (.bool b))) (h : opd G T (if b then x else y) = some c) :
  OpOk P G B0 w0 w s M o a c s := by
 have h1 := (VR_v.1 (opd_sound hs hT hq)).1
 refine ok_here hs (v := a.eval (if b then x else y)) ?_ (opd_sound hs hT h)
 cases b <;> simp [execOp, hop, h1, asBool]

theorem s_alloc {o : Oper} {a : Act} {t : TypeId} {z : List AV} (hs : Sim G B0 w0 w s M) (hop : o.op = .alloc t) (hz : zeroCellsT P t = some z) (hr : s.room = true) : OpOk P G B0 w0 w s M o a (.box s.n 0) (s.new (.box z (codeOf t 0))) := by
 obtain ⟨zv, h1, h2⟩ := zeroCells_some hz
 obtain ⟨hs', hE⟩ := new_boxK hs hr (cs := z) (vs := zv.cells) t (VRl_scAll h2) (scAll_cells h2) (codeOf t 0) (codeOf_mod (by decide)) (fun _ => (codeOf_div (by decide)).symm)
 refine ok_value (v := .pointer (some ⟨w.heap.size, 0, none⟩)) ?_ ?_ hs' hE
 ·simp [execOp, hop, Instr.alloc, run_zeroValue h1, newVar, newRow]
 ·unfold VR; simp [St.new, Mp.add]

theorem s_box {o : Oper} {a : Act} {T : Tm} {t : TypeId} {x : Operand} {c : AV} (hs : Sim G B0 w0 w s M) (hT : TmR w s M T a) (hop : o.op = .box t x) (h : opd G T x = some c) (hr : s.room = true) (hc : (cellsOf c).all isCell = true) :
  OpOk P G B0 w0 w s M o a (.box s.n 0) (s.new (.box (cellsOf c) 0)) := by
 obtain ⟨hs', hE⟩ := new_box hs hr t (VR_cellsOf hc (opd_sound hs hT h)) hc
 refine ok_value (v := .pointer (some ⟨w.heap.size, 0, none⟩)) ?_ ?_ hs' hE
 ·simp [execOp, hop, Instr.box, newVar, newRow]
 ·unfold VR; simp [St.new, Mp.add]

theorem s_load_ref {o : Oper} {a : Act} {T : Tm} {t : TypeId} {x : Operand} {cs : List AV} {c : AV} (hs : Sim G B0 w0 w s M) (hT : TmR w s M T a) (hop : o.op = .load t x) (h : opd G T x = some (.ref cs)) (ht : takeT P t cs = some c) :
  OpOk P G B0 w0 w s M o a c s := by
 have hv := opd_sound hs hT h
 unfold VR at hv
 obtain ⟨b, off, e, hv⟩ := hv
 obtain ⟨vs, hl, ha⟩ := hv.vals
 obtain ⟨v, hr, hv⟩ := run_loadVar (P := P) hl ha ht
 exact ok_here hs (by simp [execOp, hop, Instr.loadAt, e, Instr.sureAddr, hr]) hv
theorem s_load_box {o : Oper} {a : Act} {T : Tm} {t : TypeId} {x : Operand} {b off esz : Nat} {cs : List AV} {c : AV} (hs : Sim G B0 w0 w s M) (hT : TmR w s M T a) (hop : o.op = .load t x) (h : opd G T x = some (.box b off)) (hg : s.get b = some (.box cs esz))
  (ht : takeT P t (cs.drop off) = some c) : OpOk P G B0 w0 w s M o a c s := by
 have hv := opd_sound hs hT h
 unfold VR at hv
 obtain ⟨hb, e⟩ := hv
 obtain ⟨vs, el, fr, h1, h2, _⟩ := hs.obj b _ hb hg
 have ha := (at_block h1).take cs.length |>.drop off
 rw [Nat.zero_add] at ha
 obtain ⟨v, hr, hv⟩ := run_loadVar (P := P) (h2.drop off) ha ht
 exact ok_here hs (by simp [execOp, hop, Instr.loadAt, e, Instr.sureAddr, hr]) hv

theorem heap_setCells {b : Nat} {e : TypeId} {fr : Nat × Nat} : ∀ (vs : List Value) (off : Nat) (w : World) (c : Array Value), w.heap[b]? = some (.cells c e fr) -> off + vs.length <= c.size ->
  (w.setCells b off vs).heap[b]? = some (.cells (c.toList.take off ++ vs ++ c.toList.drop (off + vs.length)).toArray e fr) /\ (∀ k, k ≠ b -> (w.setCells b off vs).heap[k]? = w.heap[k]?) /\ (w.setCells b off vs).heap.size = w.heap.size
 | [], off, w, c, h, hl => by
  simp only [World.setCells, List.append_nil, List.length_nil, Nat.add_zero, List.take_append_drop, Array.toArray_toList]
  exact ⟨h, fun _ _ => trivial, trivial⟩
 | v :: r, off, w, c, h, hl => by
  simp only [List.length_cons] at hl
  have h1 : (w.setCell ⟨b, off, none⟩ v).heap[b]? = some (.cells (c.setIfInBounds off v) e fr) := by
   simp [World.setCell, Array.getElem?_modify, h]
  obtain ⟨i1, i2, i3⟩ := heap_setCells r (off + 1) (w.setCell ⟨b, off, none⟩ v) (c.setIfInBounds off v) h1 (by simp; omega)
  simp only [World.setCells]
  refine ⟨?_, fun k hk => (i2 k hk).trans (Below.heap_setCell w ⟨b, off, none⟩ v k hk), by rw [i3]; simp⟩
  rw [i1]
  congr 3
  rw [Array.toList_setIfInBounds]
  have hlen : off < c.toList.length := by simp; omega
  rw [List.set_eq_take_append_cons_drop, if_pos hlen]
  have e1 : (c.toList.take off ++ v :: c.toList.drop (off + 1)).take (off + 1) = c.toList.take off ++ [v] := by
   rw [List.take_append, List.take_of_length_le (by simp; omega)]
   congr 1
   simp only [List.length_take]
   rw [show off + 1 - min off c.toList.length = 1 by omega]; rfl
  have e2 : (c.toList.take off ++ v :: c.toList.drop (off + 1)).drop (off + 1 + r.length) = c.toList.drop (off + (v :: r).length) := by
   rw [List.drop_append, List.drop_eq_nil_of_le (by simp; omega), List.nil_append]
   simp only [List.length_take, List.length_cons]
   rw [show off + 1 + r.length - min off c.toList.length = r.length + 1 by omega, List.drop_succ_cons, List.drop_drop]
   congr 1
   omega
  rw [e1, e2]
  simp
theorem below_setCells {b : Nat} (hb : B0 <= b) : ∀ (vs : List Value) (off : Nat) (w : World), Below B0 w0 w -> Below B0 w0 (w.setCells b off vs)
 | [], _, _, h => h
 | v :: r, off, w, h => below_setCells hb r (off + 1) _ (h.setCell (p := ⟨b, off, none⟩) hb v)

theorem write_box (hs : Sim G B0 w0 w s M) {b off esz : Nat} {cs ds : List AV} {vs : List Value} (hb : b < s.n) (hg : s.get b = some (.box cs esz)) (hv : VRl w s M ds vs) (hl : off + ds.length <= cs.length) (hc : ds.all isCell = true) :
  (storeCells ⟨M.blk b, off, none⟩ vs).run P w = .ok () (w.setCells (M.blk b) off vs) /\
  Sim G B0 w0 (w.setCells (M.blk b) off vs) (s.put b (.box (cs.take off ++ ds ++ cs.drop (off + ds.length)) esz)) M /\
  Ext w s M (w.setCells (M.blk b) off vs) (s.put b (.box (cs.take off ++ ds ++ cs.drop (off + ds.length)) esz)) M := by
 obtain ⟨c, e, fr, h1, h2, h3, h4, h5⟩ := hs.obj b _ hb hg
 have hlen := h2.length
 have hlv := hv.length
 have hsz0 : cs.length <= c.size := by rw [List.length_take] at hlen; simp at hlen; omega
 have hsz : off + vs.length <= c.size := by rw [<- hlv]; omega
 obtain ⟨k1, k2, k3⟩ := heap_setCells vs off w c h1 hsz
 have hlid : b < Tr.lid := Nat.lt_of_lt_of_le hb hs.bound
 have hrun : (storeCells ⟨M.blk b, off, none⟩ vs).run P w = .ok () (w.setCells (M.blk b) off vs) := by
  have := run_storeCells_cells (P := P) (M.blk b) off vs 0 w (fun j hj => ?_) (fun j hj => ?_) (oneCell_all hc hv)
  ·simpa using this
  ·have hj' : off + 0 + j < c.size := by omega
   simp only [World.cell?, h1]
   simp
   omega
  ·simp only [World.frozen?, h1]
   have := h4.no (show off + 0 + j < c.size by omega)
   simp only [Bool.and_eq_false_iff, decide_eq_false_iff_not]
   rcases Classical.em (fr.1 <= off + 0 + j) with q | q
   ·exact .inr fun q' => this ⟨q, q'⟩
   ·exact .inl q
 have hE : Ext w s M (w.setCells (M.blk b) off vs) (s.put b (.box (cs.take off ++ ds ++ cs.drop (off + ds.length)) esz)) M :=
  ext_write hs hb hg (fun _ _ => by simp) trivial (fun _ _ => by simp) trivial k2 (by omega)
 refine ⟨hrun, sim_write hs hb hg (fun _ _ => by simp) trivial (fun _ _ => by simp) trivial k2 (below_setCells (hs.blk b hb).1 vs off w hs.below) k3 ⟨_, e, fr, k1, ?_, ?_, ?_, ?_⟩, hE⟩
 ·have := ((h2.take off).append hv).append (h2.drop (off + ds.length))
  rw [<- hlv]
  have hn : (cs.take off ++ ds ++ cs.drop (off + ds.length)).length = cs.length := by simp; omega
  have hp : ((c.toList.take off ++ vs ++ c.toList.drop (off + ds.length)).toArray.toList).take (cs.take off ++ ds ++ cs.drop (off + ds.length)).length = (c.toList.take cs.length).take off ++ vs ++ (c.toList.take cs.length).drop (off + ds.length) := by
   rw [hn]
   have e1 : (c.toList.take cs.length).take off = c.toList.take off := by rw [List.take_take, Nat.min_eq_left (by omega)]
   have e2 : (c.toList.take off ++ vs).length = off + ds.length := by simp; omega
   rw [e1, List.take_append, List.take_of_length_le (by rw [e2]; exact hl), e2, List.drop_take]
  rw [hp]
  exact this.ext hE
 ·simp only [List.all_append, hc, Bool.and_true, Bool.and_eq_true, List.all_eq_true] at h3 ⊢
  exact ⟨fun x hx => h3 x (List.mem_of_mem_take hx), fun x hx => h3 x (List.mem_of_mem_drop hx)⟩
 ·have : (c.toList.take off ++ vs ++ c.toList.drop (off + vs.length)).toArray.size = c.size := by simp; omega
  rw [this]; exact h4
 ·have : (c.toList.take off ++ vs ++ c.toList.drop (off + vs.length)).toArray.size = c.size := by simp; omega
  have hn : (cs.take off ++ ds ++ cs.drop (off + ds.length)).length = cs.length := by simp; omega
  rw [this, hn]; exact h5

theorem s_store {o : Oper} {a : Act} {T : Tm} {t : TypeId} {p x : Operand} {b off n esz : Nat} {cs : List AV} {c : AV} (hs : Sim G B0 w0 w s M) (hT : TmR w s M T a) (hop : o.op = .store t p x) (hx : opd G T x = some c) (hn : sizeT P t = some n)
  (hp : opd G T p = some (.box b off)) (hg : s.get b = some (.box cs esz)) (h1 : (cellsOf c).length = n) (h2 : off + n <= cs.length) (h3 : (cellsOf c).all isCell = true) :
  OpOk P G B0 w0 w s M o a und (s.put b (.box (cs.take off ++ cellsOf c ++ cs.drop (off + n)) esz)) := by
 have hv := opd_sound hs hT hp
 unfold VR at hv
 obtain ⟨hb, e⟩ := hv
 have hc := VR_cellsOf h3 (opd_sound hs hT hx)
 subst h1
 obtain ⟨hr, hs', hE⟩ := write_box (P := P) hs hb hg hc h2 h3
 refine ok_skip ?_ hs' hE
 have hl : (a.eval x).cells.size = (cellsOf c).length := by rw [hc.length]; simp
 simp [execOp, hop, Instr.storeAt, e, Instr.sureAddr, storeVar, run_sizeOf hn, hl, hr]

theorem s_nilCheck {o : Oper} {a : Act} {T : Tm} {x : Operand} {c : AV} (hs : Sim G B0 w0 w s M) (hT : TmR w s M T a) (hop : o.op = .nilCheck x) (h : opd G T x = some c)
  (hc : (∃ cs, c = .ref cs) \/ (∃ b off, c = .box b off) \/ ∃ f p q, c = .fn (.func f) p q) : OpOk P G B0 w0 w s M o a c s := by
 have hv := opd_sound hs hT h
 refine ok_here hs (v := a.eval x) ?_ hv
 rcases hc with ⟨cs, rfl⟩ | ⟨b, off, rfl⟩ | ⟨f, p, q, rfl⟩
 ·unfold VR at hv; obtain ⟨b, off, e, _⟩ := hv; simp [execOp, hop, e]
 ·unfold VR at hv; obtain ⟨_, e⟩ := hv; simp [execOp, hop, e]
 ·unfold VR at hv; obtain ⟨f', p', q', e, e2, _⟩ := hv; simp only [renFn, Option.some.injEq] at e2; subst e2; simp [execOp, hop, e]

theorem run_fieldPlace {b off : Nat} {f : Field} {n : Nat} (hn : sizeT P f.type = some n) (h0 : n ≠ 0) : (fieldPlace ⟨b, off, none⟩ f).run P w = .ok ⟨b, off + f.offset, none⟩ w := by
 simp [fieldPlace, run_sizeOf hn, h0, add_eq]
theorem s_fieldAddr {o : Oper} {a : Act} {T : Tm} {st : TypeId} {x : Operand} {i : Nat} {fs : Array Field} {f : Field} {n : Nat} {c d : AV} (hs : Sim G B0 w0 w s M) (hT : TmR w s M T a) (hop : o.op = .fieldAddr st x i) (hu : P.underlying st = some (.struct fs)) (hf : fs[i]? = some f)
  (hn : sizeT P f.type = some n) (h0 : n ≠ 0) (h : opd G T x = some c) (hc : (∃ cs, c = .ref cs /\ d = .ref (cs.drop f.offset)) \/ ∃ b off, c = .box b off /\ d = .box b (off + f.offset)) : OpOk P G B0 w0 w s M o a d s := by
 have hv := opd_sound hs hT h
 rcases hc with ⟨cs, rfl, rfl⟩ | ⟨b, off, rfl, rfl⟩
 ·unfold VR at hv; obtain ⟨b, off, e, hv⟩ := hv
  refine ok_here hs (v := .pointer (some ⟨b, off + f.offset, none⟩)) ?_ ?_
  ·simp [execOp, hop, Instr.fieldAt, run_underlying hu, hf, e, Instr.sureAddr, run_fieldPlace hn h0]
  ·unfold VR; exact ⟨_, _, rfl, hv.drop _⟩
 ·unfold VR at hv; obtain ⟨hb, e⟩ := hv
  refine ok_here hs (v := .pointer (some ⟨M.blk b, off + f.offset, none⟩)) ?_ ?_
  ·simp [execOp, hop, Instr.fieldAt, run_underlying hu, hf, e, Instr.sureAddr, run_fieldPlace hn h0]
  ·unfold VR; exact ⟨hb, rfl⟩

theorem s_field {o : Oper} {a : Act} {T : Tm} {st : TypeId} {x : Operand} {i : Nat} {fs : Array Field} {f : Field} {cs : List AV} {d : AV} (hs : Sim G B0 w0 w s M) (hT : TmR w s M T a) (hop : o.op = .field st x i) (hu : P.underlying st = some (.struct fs)) (hf : fs[i]? = some f)
  (h : opd G T x = some (.agg cs)) (hd : partT P f.type cs f.offset = some d) : OpOk P G B0 w0 w s M o a d s := by
 have hv := opd_sound hs hT h
 unfold VR at hv; obtain ⟨vs, e, hv⟩ := hv
 obtain ⟨v, hr, hv⟩ := run_part (P := P) (w := w) hv hd
 exact ok_here hs (v := v) (by simp [execOp, hop, Instr.field, run_underlying hu, hf, e, asAgg, hr]) hv

theorem asNat_some {c : AV} {n : Nat} (h : asNat c = some n) : ∃ (k : IntKind) (i : Int), c = .v (.int k i) /\ 0 <= i /\ i.toNat = n := by
 unfold asNat at h
 split at h
 ·split at h
  ·rename_i k i h0; cases h; exact ⟨k, i, rfl, h0, rfl⟩
  ·cases h
 ·cases h

theorem s_indexAddrV {o : Oper} {a : Act} {T : Tm} {t e : TypeId} {x ix : Operand} {i n : Nat} {k : IntKind} {j : Int} {c d : AV} (hs : Sim G B0 w0 w s M) (hT : TmR w s M T a) (hop : o.op = .indexAddr t x ix) (hiv : a.eval ix = .int k j) (h0 : 0 <= j) (hj : j.toNat = i) (hn : sizeT P e = some n)
  (h : opd G T x = some c)
  (hc : (P.underlying t = some (.slice e) /\ ((∃ cs len tok, c = .sl cs len tok /\ i < len /\ d = .ref (cs.drop (i * n))) \/ (∃ b off len, c = .ms b off len /\ i < len /\ d = .box b (off + i * n)) \/ ∃ b len, c = .mg b len /\ i < len /\ d = .box b (i * n))) \/
   ∃ len, P.underlying t = some (.array len e) /\ i < len /\ ((∃ cs, c = .ref cs /\ d = .ref (cs.drop (i * n))) \/ ∃ b off, c = .box b off /\ d = .box b (off + i * n))) : OpOk P G B0 w0 w s M o a d s := by
 have hv := opd_sound hs hT h
 rcases hc with ⟨hu, ⟨cs, len, tok, rfl, hlt, rfl⟩ | ⟨b, off, len, rfl, hlt, rfl⟩ | ⟨b, len, rfl, hlt, rfl⟩⟩ | ⟨len, hu, hlt, ⟨cs, rfl, rfl⟩ | ⟨b, off, rfl, rfl⟩⟩
 ·unfold VR at hv; obtain ⟨b, off, cap, e', hl, hv, _⟩ := hv
  refine ok_here hs (v := .pointer (some ⟨b, off + i * n, none⟩)) ?_ ?_
  ·have : 0 <= j /\ j < (len : Int) := ⟨h0, by omega⟩
   simp [execOp, hop, Instr.indexAt, hiv, asIntOf, run_underlying hu, e', this, run_sizeOf hn, add_eq, hj]
  ·unfold VR; exact ⟨_, _, rfl, hv.drop _⟩
 ·unfold VR at hv; obtain ⟨hb, cap, hl, e'⟩ := hv
  refine ok_here hs (v := .pointer (some ⟨M.blk b, off + i * n, none⟩)) ?_ ?_
  ·have : 0 <= j /\ j < (len : Int) := ⟨h0, by omega⟩
   simp [execOp, hop, Instr.indexAt, hiv, asIntOf, run_underlying hu, e', this, run_sizeOf hn, add_eq, hj]
  ·unfold VR; exact ⟨hb, rfl⟩
 ·unfold VR at hv; obtain ⟨hb, hl, e'⟩ := hv
  refine ok_here hs (v := .pointer (some ⟨M.blk b, i * n, none⟩)) ?_ ?_
  ·have : 0 <= j /\ j < (len : Int) := ⟨h0, by omega⟩
   simp [execOp, hop, Instr.indexAt, hiv, asIntOf, run_underlying hu, e', this, run_sizeOf hn, add_eq, hj]
  ·unfold VR; exact ⟨hb, rfl⟩
 ·unfold VR at hv; obtain ⟨b, off, e', hv⟩ := hv
  refine ok_here hs (v := .pointer (some ⟨b, off + i * n, none⟩)) ?_ ?_
  ·have : 0 <= j /\ j < (len : Int) := ⟨h0, by omega⟩
   simp [execOp, hop, Instr.indexAt, hiv, asIntOf, run_underlying hu, e', Instr.sureAddr, this, run_sizeOf hn, add_eq, hj]
  ·unfold VR; exact ⟨_, _, rfl, hv.drop _⟩
 ·unfold VR at hv; obtain ⟨hb, e'⟩ := hv
  refine ok_here hs (v := .pointer (some ⟨M.blk b, off + i * n, none⟩)) ?_ ?_
  ·have : 0 <= j /\ j < (len : Int) := ⟨h0, by omega⟩
   simp [execOp, hop, Instr.indexAt, hiv, asIntOf, run_underlying hu, e', Instr.sureAddr, this, run_sizeOf hn, add_eq, hj]
  ·unfold VR; exact ⟨hb, rfl⟩
theorem s_indexAddr {o : Oper} {a : Act} {T : Tm} {t e : TypeId} {x ix : Operand} {i n : Nat} {ci c d : AV} (hs : Sim G B0 w0 w s M) (hT : TmR w s M T a) (hop : o.op = .indexAddr t x ix) (hi : opd G T ix = some ci) (hin : asNat ci = some i) (hn : sizeT P e = some n)
  (h : opd G T x = some c)
  (hc : (P.underlying t = some (.slice e) /\ ((∃ cs len tok, c = .sl cs len tok /\ i < len /\ d = .ref (cs.drop (i * n))) \/ (∃ b off len, c = .ms b off len /\ i < len /\ d = .box b (off + i * n)) \/ ∃ b len, c = .mg b len /\ i < len /\ d = .box b (i * n))) \/
   ∃ len, P.underlying t = some (.array len e) /\ i < len /\ ((∃ cs, c = .ref cs /\ d = .ref (cs.drop (i * n))) \/ ∃ b off, c = .box b off /\ d = .box b (off + i * n))) : OpOk P G B0 w0 w s M o a d s := by
 obtain ⟨k, j, rfl, h0, hj⟩ := asNat_some hin
 exact s_indexAddrV hs hT hop (VR_v.1 (opd_sound hs hT hi)).1 h0 hj hn h hc

theorem s_index {o : Oper} {a : Act} {T : Tm} {t e : TypeId} {x ix : Operand} {i n len : Nat} {ci d : AV} {cs : List AV} (hs : Sim G B0 w0 w s M) (hT : TmR w s M T a) (hop : o.op = .index t x ix) (hi : opd G T ix = some ci) (hin : asNat ci = some i) (hn : sizeT P e = some n)
  (h : opd G T x = some (.agg cs)) (hu : P.underlying t = some (.array len e)) (hlt : i < len) (hd : partT P e cs (i * n) = some d) : OpOk P G B0 w0 w s M o a d s := by
 have hv := opd_sound hs hT h
 obtain ⟨k, j, rfl, h0, hj⟩ := asNat_some hin
 have hiv := (VR_v.1 (opd_sound hs hT hi)).1
 unfold VR at hv; obtain ⟨vs, e', hv⟩ := hv
 obtain ⟨v, hr, hv⟩ := run_part (P := P) (w := w) hv hd
 refine ok_here hs (v := v) ?_ hv
 have : 0 <= j /\ j < (len : Int) := ⟨h0, by omega⟩
 simp [execOp, hop, Instr.index, hiv, asIntOf, run_underlying hu, e', this, run_sizeOf hn, hj, hr]

theorem s_extract {o : Oper} {a : Act} {T : Tm} {x : Operand} {ix : Nat} {vs : List AV} {d : AV} (hs : Sim G B0 w0 w s M) (hT : TmR w s M T a) (hop : o.op = .extract x ix) (h : opd G T x = some (.tup vs)) (hd : vs[ix]? = some d) : OpOk P G B0 w0 w s M o a d s := by
 have hv := opd_sound hs hT h
 unfold VR at hv; obtain ⟨us, e, hv⟩ := hv
 rcases hv.get ix with ⟨h1, _⟩ | ⟨c, v, h1, h2, h3⟩
 ·rw [h1] at hd; cases hd
 ·rw [h1] at hd; cases hd
  rw [Array.getElem?_toList] at h2
  exact ok_here hs (v := v) (by simp [execOp, hop, Instr.extract, e, h2]) h3

theorem s_makeFunc {o : Oper} {a : Act} {T : Tm} {fn : FuncId} {first captured : Array Operand} {p q : List AV} (hs : Sim G B0 w0 w s M) (hT : TmR w s M T a) (hop : o.op = .makeFunc (.func fn) first captured) (h1 : opds G T first.toList = some p) (h2 : opds G T captured.toList = some q) :
  OpOk P G B0 w0 w s M o a (.fn (.func fn) p q) s := by
 refine ok_here hs (v := .func (.func fn) (first.map a.eval) (captured.map a.eval)) (by simp [execOp, hop, Instr.makeFunc]) ?_
 unfold VR
 exact ⟨_, _, _, rfl, rfl, by rw [Array.toList_map]; exact opds_sound hs hT h1, by rw [Array.toList_map]; exact opds_sound hs hT h2⟩
end
end Go.Ab
/- The evaluator's operations against the model's, continued: rows that grow, texts, maps. -/
namespace Go.Ab
open Go Go.RowKit

section
variable [Interp] {P : Program} {G : Nat -> Option (List AV)} {B0 : Nat} {w0 w : World} {s : St} {M : Mp}

theorem runPure_run {α : Type} : ∀ {e : Sem α} {r : α}, runPure P e = some r -> ∀ w : World, e.run P w = .ok r w
 | .pure a, r, h, w => by simp only [runPure, Option.some.injEq] at h; subst h; rfl
 | .program k, r, h, w => by simp only [runPure] at h; simp only [Sem.run]; exact runPure_run h w
 | .mark m k, r, h, w => by simp only [runPure] at h; simp only [Sem.run]; exact runPure_run h w
 | .load _ _ _, _, h, _ | .store _ _ _ _, _, h, _ | .new _ _, _, h, _ | .shape _ _, _, h, _ | .freeze _ _ _, _, h, _ | .frozen _ _, _, h, _ | .getObj _ _, _, h, _
 | .setObj _ _ _, _, h, _ | .choose _ _, _, h, _ | .sys _ _, _, h, _ | .halt _, _, h, _ => by simp [runPure] at h

theorem rho_eq (hs : Sim G B0 w0 w s M) {T : Tm} {a : Act} (hT : TmR w s M T a) {x : Operand} (h : ((opd G T x).bind toValue).isSome = true) : ((opd G T x).bind toValue).getD undef = a.eval x := by
 obtain ⟨v, hv⟩ := Option.isSome_iff_exists.1 h
 rw [hv]
 rw [Option.bind_eq_some_iff] at hv
 obtain ⟨c, h1, h2⟩ := hv
 exact (toValue_some h2 (opd_sound hs hT h1)).symm

theorem s_scalar {o : Oper} {a : Act} {T : Tm} {d : AV} (hs : Sim G B0 w0 w s M) (he : execOp (fun x => ((opd G T x).bind toValue).getD undef) o = execOp a.eval o) (h : scalarOp P G T o = some d) : OpOk P G B0 w0 w s M o a d s := by
 simp only [scalarOp, Option.bind_eq_bind, Option.bind_eq_some_iff] at h
 obtain ⟨r, h1, h2⟩ := h
 rw [he] at h1
 have hr := runPure_run h1 w
 cases r with
 | value v => exact ok_here hs hr (VR_outValue h2)
 | skip => cases h2; exact ok_skip hr hs (Ext.refl _ _ _)
 | _ => cases h2

theorem exec_binOp (hs : Sim G B0 w0 w s M) {T : Tm} {a : Act} (hT : TmR w s M T a) {o : Oper} {op : BinOp} {t yt : TypeId} {x y : Operand} (hop : o.op = .binOp op t x y yt) (h : allScalar G T [x, y] = true) :
  execOp (fun x => ((opd G T x).bind toValue).getD undef) o = execOp a.eval o := by
 simp only [allScalar, List.all_cons, List.all_nil, Bool.and_true, Bool.and_eq_true] at h
 simp only [execOp, hop, rho_eq hs hT h.1, rho_eq hs hT h.2]
theorem exec_unOp (hs : Sim G B0 w0 w s M) {T : Tm} {a : Act} (hT : TmR w s M T a) {o : Oper} {op : UnOp} {t : TypeId} {x : Operand} (hop : o.op = .unOp op t x) (h : allScalar G T [x] = true) :
  execOp (fun x => ((opd G T x).bind toValue).getD undef) o = execOp a.eval o := by
 simp only [allScalar, List.all_cons, List.all_nil, Bool.and_true] at h
 simp only [execOp, hop, rho_eq hs hT h]
theorem exec_convert (hs : Sim G B0 w0 w s M) {T : Tm} {a : Act} (hT : TmR w s M T a) {o : Oper} {t u : TypeId} {x : Operand} (hop : o.op = .convert t u x) (h : allScalar G T [x] = true) :
  execOp (fun x => ((opd G T x).bind toValue).getD undef) o = execOp a.eval o := by
 simp only [allScalar, List.all_cons, List.all_nil, Bool.and_true] at h
 simp only [execOp, hop, rho_eq hs hT h]
theorem exec_index (hs : Sim G B0 w0 w s M) {T : Tm} {a : Act} (hT : TmR w s M T a) {o : Oper} {t : TypeId} {x y : Operand} (hop : o.op = .index t x y) (h : allScalar G T [x, y] = true) :
  execOp (fun x => ((opd G T x).bind toValue).getD undef) o = execOp a.eval o := by
 simp only [allScalar, List.all_cons, List.all_nil, Bool.and_true, Bool.and_eq_true] at h
 simp only [execOp, hop, rho_eq hs hT h.1, rho_eq hs hT h.2]
theorem exec_slice (hs : Sim G B0 w0 w s M) {T : Tm} {a : Act} (hT : TmR w s M T a) {o : Oper} {t : TypeId} {x : Operand} {lo hi : Option Operand} (hop : o.op = .slice t x lo hi none) (h : allScalar G T (x :: (lo.toList ++ hi.toList)) = true) :
  execOp (fun x => ((opd G T x).bind toValue).getD undef) o = execOp a.eval o := by
 simp only [allScalar, List.all_cons, List.all_append, Bool.and_eq_true] at h
 obtain ⟨h1, h2, h3⟩ := h
 have e1 : lo.map (fun x => ((opd G T x).bind toValue).getD undef) = lo.map a.eval := by
  cases lo with
  | none => rfl
  | some l => simp only [Option.toList_some, List.all_cons, List.all_nil, Bool.and_true] at h2; simp only [Option.map_some, rho_eq hs hT h2]
 have e2 : hi.map (fun x => ((opd G T x).bind toValue).getD undef) = hi.map a.eval := by
  cases hi with
  | none => rfl
  | some l => simp only [Option.toList_some, List.all_cons, List.all_nil, Bool.and_true] at h3; simp only [Option.map_some, rho_eq hs hT h3]
 simp only [execOp, hop, rho_eq hs hT h1, e1, e2, Option.map_none]
theorem exec_builtin (hs : Sim G B0 w0 w s M) {T : Tm} {a : Act} (hT : TmR w s M T a) {o : Oper} {c : Go.Call} {b : Builtin} (hop : o.op = .call c) (hc : c.callee = .builtin b) (h : allScalar G T c.args.toList = true) :
  execOp (fun x => ((opd G T x).bind toValue).getD undef) o = execOp a.eval o := by
 have e : c.args.map (fun x => ((opd G T x).bind toValue).getD undef) = c.args.map a.eval := by
  apply Array.map_congr_left
  intro x hx
  simp only [allScalar, List.all_eq_true] at h
  exact rho_eq hs hT (h x (by simpa using hx))
 simp only [execOp, hop, resolve, hc, e]

theorem eq_ptr1 {t e : TypeId} (hu : P.underlying t = some (.pointer e)) (d : Nat) (a : Addr) : (Op.equalIn (d + 1) t (.pointer (some a)) (.pointer none)).run P w = .ok false w := by
 simp [Op.equalIn, run_underlying hu]
theorem eq_ptr2 {t e : TypeId} (hu : P.underlying t = some (.pointer e)) (d : Nat) (a : Addr) : (Op.equalIn (d + 1) t (.pointer none) (.pointer (some a))).run P w = .ok false w := by
 simp [Op.equalIn, run_underlying hu]
theorem eq_sl {t e : TypeId} (hu : P.underlying t = some (.slice e)) (d : Nat) (a : Addr) (l c : Nat) (l' c' : Nat) : (Op.equalIn (d + 1) t (.slice (some a) l c) (.slice none l' c')).run P w = .ok false w := by
 simp [Op.equalIn, run_underlying hu]
theorem eq_mp {t k e : TypeId} (hu : P.underlying t = some (.map k e)) (d : Nat) (r : Nat) : (Op.equalIn (d + 1) t (.map (some r)) (.map none)).run P w = .ok false w := by
 simp [Op.equalIn, run_underlying hu]
theorem eq_fn {t : TypeId} {ps rs : Array TypeId} {vr : Bool} (hu : P.underlying t = some (.func ps rs vr)) (d : Nat) (f : Fn) (a b : Array Value) : (Op.equalIn (d + 1) t (.func f a b) .nilFunc).run P w = .ok false w := by
 simp [Op.equalIn, run_underlying hu]
theorem eq_iface {t : TypeId} {ms : Array (String × TypeId)} (hu : P.underlying t = some (.interface ms)) (d : Nat) (u : TypeId) (v : Value) : (Op.equalIn (d + 1) t (.iface u v) .nilIface).run P w = .ok false w := by
 simp [Op.equalIn, run_underlying hu]
theorem equal_of {t : TypeId} {x y : Value} {r : Bool} (h : ∀ d, (Op.equalIn (d + 1) t x y).run P w = .ok r w) : (Op.equal t x y).run P w = .ok r w := h 9999

theorem s_eqNil {o : Oper} {a : Act} {T : Tm} {op : BinOp} {t yt : TypeId} {x y : Operand} {c d : AV} {r : Bool} (hs : Sim G B0 w0 w s M) (hT : TmR w s M T a) (hop : o.op = .binOp op t x y yt) (hx : opd G T x = some c) (hy : opd G T y = some d)
  (hr : eqNil P t c d = some r) (ho : op = .eql \/ op = .neq) : OpOk P G B0 w0 w s M o a (.v (.bool (if op = .eql then r else !r))) s := by
 have h1 := opd_sound hs hT hx
 have h2 := opd_sound hs hT hy
 have key : (Op.equal t (a.eval x) (a.eval y)).run P w = .ok r w /\ (eqGuard op t x y (a.eval x) (a.eval y)).run P w = .ok () w /\
   (binOp .eql t (a.eval x) (a.eval y) = (do pure (.bool (<- Op.equal t (a.eval x) (a.eval y)))) /\ binOp .neq t (a.eval x) (a.eval y) = (do pure (.bool (!(<- Op.equal t (a.eval x) (a.eval y)))))) := by
  unfold eqNil at hr
  split at hr <;> first | (cases hr; done) | skip
  all_goals
   rename_i hu
   cases hr
   unfold VR at h1 h2
  ·obtain ⟨b, off, e1, _⟩ := h1; obtain ⟨e2, _⟩ := h2
   rw [e1, e2]; exact ⟨equal_of fun d => eq_ptr1 hu d _, by rcases ho with rfl | rfl <;> rfl, rfl, rfl⟩
  ·obtain ⟨_, e1⟩ := h1; obtain ⟨e2, _⟩ := h2
   rw [e1, e2]; exact ⟨equal_of fun d => eq_ptr1 hu d _, by rcases ho with rfl | rfl <;> rfl, rfl, rfl⟩
  ·obtain ⟨b, off, e1, _⟩ := h2; obtain ⟨e2, _⟩ := h1
   rw [e1, e2]; exact ⟨equal_of fun d => eq_ptr2 hu d _, by rcases ho with rfl | rfl <;> rfl, rfl, rfl⟩
  ·obtain ⟨_, e1⟩ := h2; obtain ⟨e2, _⟩ := h1
   rw [e1, e2]; exact ⟨equal_of fun d => eq_ptr2 hu d _, by rcases ho with rfl | rfl <;> rfl, rfl, rfl⟩
  ·obtain ⟨b, off, cap, e1, _⟩ := h1; obtain ⟨e2, _⟩ := h2
   rw [e1, e2]; exact ⟨equal_of fun d => eq_sl hu d _ _ _ _ _, by rcases ho with rfl | rfl <;> rfl, rfl, rfl⟩
  ·obtain ⟨_, cap, _, e1⟩ := h1; obtain ⟨e2, _⟩ := h2
   rw [e1, e2]; exact ⟨equal_of fun d => eq_sl hu d _ _ _ _ _, by rcases ho with rfl | rfl <;> rfl, rfl, rfl⟩
  ·obtain ⟨_, _, e1⟩ := h1; obtain ⟨e2, _⟩ := h2
   rw [e1, e2]; exact ⟨equal_of fun d => eq_sl hu d _ _ _ _ _, by rcases ho with rfl | rfl <;> rfl, rfl, rfl⟩
  ·obtain ⟨b, off, e1⟩ := h1; obtain ⟨e2, _⟩ := h2
   rw [e1, e2]; exact ⟨equal_of fun d => eq_sl hu d _ _ _ _ _, by rcases ho with rfl | rfl <;> rfl, rfl, rfl⟩
  ·obtain ⟨_, e1⟩ := h1; obtain ⟨e2, _⟩ := h2
   rw [e1, e2]; exact ⟨equal_of fun d => eq_mp hu d _, by rcases ho with rfl | rfl <;> rfl, rfl, rfl⟩
  ·obtain ⟨f', a', b', e1, _⟩ := h1; obtain ⟨e2, _⟩ := h2
   rw [e1, e2]; exact ⟨equal_of fun d => eq_fn hu d _ _ _, by rcases ho with rfl | rfl <;> rfl, rfl, rfl⟩
  ·obtain ⟨_, e1, _⟩ := h1; obtain ⟨e2, _⟩ := h2
   rw [e1, e2]; exact ⟨equal_of fun d => eq_iface hu d _ _, by rcases ho with rfl | rfl <;> rfl, rfl, rfl⟩
 obtain ⟨k1, k2, k3, k4⟩ := key
 refine ok_here hs (v := .bool (if op = .eql then r else !r)) ?_ (VR_v_of rfl)
 rcases ho with rfl | rfl
 ·simp only [execOp, hop, Sem.run_bind, k2, Result.andThen_ok, k3, k1, Sem.run_pure, if_true]
 ·simp only [execOp, hop, Sem.run_bind, k2, Result.andThen_ok, k4, k1, Sem.run_pure]
  rfl

theorem imm_row (hs : Sim G B0 w0 w s M) {r : Nat} {tip : Tip} {esz : Nat} (hr : r < s.n) (hg : s.get r = some (.row tip esz)) {i : Nat} (hi : i < tip.val M.env) : Imm s M (M.blk r) i := by
 refine ⟨?_, out_own hs hr⟩
 intro j o hj hgj hb
 cases o with
 | dead => trivial
 | row t e => have := hs.inj j r _ _ hj hr hgj hg trivial trivial hb; subst this; rw [hg] at hgj; cases hgj; exact hi
 | box cs esz => have := hs.inj j r _ _ hj hr hgj hg trivial trivial hb; subst this; rw [hg] at hgj; cases hgj
 | fz cs esz => have := hs.inj j r _ _ hj hr hgj hg trivial trivial hb; subst this; rw [hg] at hgj; cases hgj
 | map es => have := hs.inj j r _ _ hj hr hgj hg trivial trivial hb; subst this; rw [hg] at hgj; cases hgj
 | loop _ _ _ _ _ _ => have := hs.inj j r _ _ hj hr hgj hg trivial trivial hb; subst this; rw [hg] at hgj; cases hgj
 | defs => have := hs.inj j r _ _ hj hr hgj hg trivial trivial hb; subst this; rw [hg] at hgj; cases hgj
 | sym _ => have := hs.inj j r _ _ hj hr hgj hg trivial trivial hb; subst this; rw [hg] at hgj; cases hgj
 | ar _ _ _ => have := hs.inj j r _ _ hj hr hgj hg trivial trivial hb; subst this; rw [hg] at hgj; cases hgj
theorem VRs_row (hs : Sim G B0 w0 w s M) {r : Nat} {tip : Tip} {esz : Nat} (hr : r < s.n) (hg : s.get r = some (.row tip esz)) {c : Array Value} {e : TypeId} {fr : Nat × Nat} (hc : w.heap[M.blk r]? = some (.cells c e fr)) {cs : List AV}
  (hv : VRl w s M cs (c.toList.take cs.length)) (hl : cs.length <= tip.val M.env) (ha : cs.all isCell = true) : VRs w s M cs (M.blk r) 0 := by
 refine VRs.of_get fun i x hi => ?_
 have hlt : i < cs.length := (List.getElem?_eq_some_iff.1 hi).1
 rcases hv.get i with ⟨h1, _⟩ | ⟨c', v, h1, h2, h3⟩
 ·rw [h1] at hi; cases hi
 ·rw [h1] at hi; cases hi
  rw [List.getElem?_take, if_pos hlt, Array.getElem?_toList] at h2
  refine ⟨v, ?_, h3, (List.all_eq_true.1 ha) _ (List.mem_of_getElem? h1), imm_row hs hr hg (by omega)⟩
  simp only [Nat.zero_add, World.cell?, hc]
  exact h2

theorem grow_in (hs : Sim G B0 w0 w s M) (hroom : s.room = true) {t : Nat} {tip tip' : Tip} {esz : Nat} (ht : t < s.n) (hg : s.get t = some (.row tip esz)) (htip : tip.val M.env <= tip'.val M.env) {w' : World} {c c' : Array Value} {e : TypeId} {fr : Nat × Nat}
  (hc : w.heap[M.blk t]? = some (.cells c e fr)) (hc' : w'.heap[M.blk t]? = some (.cells c' e fr)) (hsz : c'.size = c.size) (hle : tip'.val M.env <= c.size) (hsame : ∀ i, i < tip.val M.env -> c'[i]? = c[i]?)
  (hw : ∀ k, k ≠ M.blk t -> w'.heap[k]? = w.heap[k]?) (hbel : Below B0 w0 w') (hws : w'.heap.size = w.heap.size) :
  Sim G B0 w0 w' ((s.put t .dead).new (.row tip' esz)) (M.add s.n (M.blk t) (M.cap t)) /\ Ext w s M w' ((s.put t .dead).new (.row tip' esz)) (M.add s.n (M.blk t) (M.cap t)) := by
 have hlid := room_lt hroom
 have htl : t < Tr.lid := by omega
 have hget : ∀ i, ((s.put t .dead).new (.row tip' esz)).get i = if i = s.n then some (.row tip' esz) else if i = t then some .dead else s.get i := fun i => by
  rw [St.get_new _ _ _ (by simpa [St.put] using hlid), St.get_put _ _ _ _ htl]; rfl
 have hn : ((s.put t .dead).new (.row tip' esz)).n = s.n + 1 := rfl
 have hne : t ≠ s.n := Nat.ne_of_lt ht
 have hE : Ext w s M w' ((s.put t .dead).new (.row tip' esz)) (M.add s.n (M.blk t) (M.cap t)) := by
  refine ⟨fun b off v hcv hi => ⟨?_, fun i o hin hgi hbk => ?_, hi.2⟩, by rw [hn]; omega, fun i hi => by simp only [Mp.add, if_neg (Nat.ne_of_lt hi), and_self], fun i tp e' hi hgi => ?_, ⟨by rw [hws]; exact Nat.le_refl _, fun b _ hno => hw b fun e => hno t _ ht hg trivial e.symm, fun i o hi hgi hl hlt => ?_⟩, rfl, rfl, rfl⟩
  ·by_cases eb : b = M.blk t
   ·subst eb
    have hoff : off < tip.val M.env := hi.1 t _ ht hg rfl
    simp only [World.cell?, hc] at hcv
    simp only [World.cell?, hc']
    rw [<- hcv]; simpa using hsame off hoff
   ·exact (World.cell?_of_block (w := w) (w' := w') (hw b eb)).trans hcv
  ·rw [hget] at hgi
   by_cases e1 : i = s.n
   ·subst e1; rw [if_pos rfl] at hgi; cases hgi
    simp only [Mp.add, if_true] at hbk
    have : off < tip.val M.env := hi.1 t _ ht hg hbk
    show off < tip'.val M.env; omega
   ·rw [if_neg e1] at hgi
    simp only [Mp.add, if_neg e1] at hbk
    by_cases e2 : i = t
    ·rw [if_pos e2] at hgi; cases hgi; trivial
    ·rw [if_neg e2] at hgi; exact hi.1 i o (by omega) hgi hbk
  ·rw [hget, if_neg (Nat.ne_of_lt hi)] at hgi
   by_cases e2 : i = t
   ·rw [if_pos e2] at hgi; cases hgi
   ·rw [if_neg e2] at hgi; exact hgi
  ·rw [hget] at hgi
   rw [hn] at hi
   simp only [Mp.add] at hlt ⊢
   by_cases e1 : i = s.n
   ·exact ⟨t, _, ht, hg, trivial, by rw [if_pos e1]⟩
   ·rw [if_neg e1] at hgi
    by_cases e2 : i = t
    ·rw [if_pos e2] at hgi; cases hgi; exact hl.elim
    ·rw [if_neg e2] at hgi
     exact ⟨i, o, by omega, hgi, hl, by rw [if_neg e1]⟩
 refine ⟨⟨hbel, hs.size, by rw [hn]; omega, fun i hi => ?_, fun i j oi oj hi hj gi gj li lj eb => ?_, fun i o hi hgi => ?_, fun g cs hgl => (hs.glob g cs hgl).ext hE, hs.fx, fun b off ho => ⟨by have h1 := (hs.out b off ho).1; omega, fun i hi => by
  simp only [Mp.add]
  rw [hn] at hi
  by_cases e1 : i = s.n
  ·rw [if_pos e1]; exact (hs.out b off ho).2 t ht
  ·rw [if_neg e1]; exact (hs.out b off ho).2 i (by omega)⟩⟩, hE⟩
 ·rw [hws]; simp only [Mp.add]
  by_cases e1 : i = s.n
  ·rw [if_pos e1]; exact hs.blk t ht
  ·rw [if_neg e1]; exact hs.blk i (by omega)
 ·rw [hget] at gi gj
  simp only [Mp.add] at eb
  by_cases e1 : i = s.n <;> by_cases e2 : j = s.n
  ·omega
  ·rw [if_pos e1, if_neg e2] at eb
   rw [if_neg e2] at gj
   by_cases e3 : j = t
   ·rw [if_pos e3] at gj; cases gj; exact lj.elim
   ·rw [if_neg e3] at gj; exact absurd (hs.inj j t _ _ (by omega) ht gj hg lj trivial eb.symm) e3
  ·rw [if_neg e1, if_pos e2] at eb
   rw [if_neg e1] at gi
   by_cases e3 : i = t
   ·rw [if_pos e3] at gi; cases gi; exact li.elim
   ·rw [if_neg e3] at gi; exact absurd (hs.inj i t _ _ (by omega) ht gi hg li trivial eb) e3
  ·rw [if_neg e1] at gi; rw [if_neg e2] at gj; rw [if_neg e1, if_neg e2] at eb
   by_cases e3 : i = t
   ·rw [if_pos e3] at gi; cases gi; exact li.elim
   ·by_cases e4 : j = t
    ·rw [if_pos e4] at gj; cases gj; exact lj.elim
    ·rw [if_neg e3] at gi; rw [if_neg e4] at gj; exact hs.inj i j _ _ (by omega) (by omega) gi gj li lj eb
 ·rw [hget] at hgi
  obtain ⟨c0, e0', fr0, a1, a2, a3, a4⟩ := hs.obj t _ ht hg
  rw [hc] at a1; cases a1
  by_cases e1 : i = s.n
  ·subst e1; rw [if_pos rfl] at hgi; cases hgi
   simp only [Mp.add, if_true]
   exact ⟨c', e, fr, hc', by rw [hsz]; exact a2, by show tip'.val M.env <= _; omega, by rw [hsz]; exact a4⟩
  ·rw [if_neg e1] at hgi
   simp only [Mp.add, if_neg e1]
   by_cases e2 : i = t
   ·rw [if_pos e2] at hgi; cases hgi; trivial
   ·rw [if_neg e2] at hgi
    have ho := hs.obj i o (by omega) hgi
    cases o with
    | dead => trivial
    | box cs esz' =>
     have hne : M.blk i ≠ M.blk t := fun e' => e2 (hs.inj i t _ _ (by omega) ht hgi hg trivial trivial e')
     obtain ⟨c, e', fr, a1, a2, a3⟩ := ho; exact ⟨c, e', fr, (hw _ hne).trans a1, a2.ext hE, a3⟩
    | fz cs esz' =>
     have hne : M.blk i ≠ M.blk t := fun e' => e2 (hs.inj i t _ _ (by omega) ht hgi hg trivial trivial e')
     obtain ⟨c, e', fr, a1, a2, a3⟩ := ho; exact ⟨c, e', fr, (hw _ hne).trans a1, a2.ext hE, a3⟩
    | row tip esz =>
     have hne : M.blk i ≠ M.blk t := fun e' => e2 (hs.inj i t _ _ (by omega) ht hgi hg trivial trivial e')
     obtain ⟨c, e', fr, a1, a2⟩ := ho; exact ⟨c, e', fr, (hw _ hne).trans a1, a2⟩
    | map es =>
     have hne : M.blk i ≠ M.blk t := fun e' => e2 (hs.inj i t _ _ (by omega) ht hgi hg trivial trivial e')
     obtain ⟨c, k, a1, a2⟩ := ho; exact ⟨c, k, (hw _ hne).trans a1, a2.ext hE⟩
    | loop T ps asg body st pend =>
     have hne : M.blk i ≠ M.blk t := fun e' => e2 (hs.inj i t _ _ (by omega) ht hgi hg trivial trivial e')
     obtain ⟨rc, a1, a2, a3, a4, a5, a6, a7, a8⟩ := ho; exact ⟨rc, (hw _ hne).trans a1, a2, a3, a4, a5, a6, a7, fun t => (a8 t).ext hE⟩
    | defs =>
     have hne : M.blk i ≠ M.blk t := fun e' => e2 (hs.inj i t _ _ (by omega) ht hgi hg trivial trivial e')
     exact (hw _ hne).trans ho
    | sym k =>
     have hne : M.blk i ≠ M.blk t := fun e' => e2 (hs.inj i t _ _ (by omega) ht hgi hg trivial trivial e')
     show SymR _ _ _ _; rw [hw _ hne]; exact ho
    | ar t' e' z' =>
     have hne : M.blk i ≠ M.blk t := fun e' => e2 (hs.inj i t _ _ (by omega) ht hgi hg trivial trivial e')
     exact arR_ext hE (hw _ hne) ho

theorem grow_box (hs : Sim G B0 w0 w s M) (hroom : s.room = true) {t esz : Nat} (hk0 : esz % tyBase ≠ 0) {cs cs' : List AV} (ht : t < s.n) (hg : s.get t = some (.box cs esz)) {w' : World} {c c' : Array Value} {e : TypeId} {fr : Nat × Nat}
  (hc : w.heap[M.blk t]? = some (.cells c e fr)) (hc' : w'.heap[M.blk t]? = some (.cells c' e fr)) (hsz : c'.size = c.size) (hv : VRl w s M cs' (c'.toList.take cs'.length)) (hac : cs'.all isCell = true)
  (hw : ∀ k, k ≠ M.blk t -> w'.heap[k]? = w.heap[k]?) (hbel : Below B0 w0 w') (hws : w'.heap.size = w.heap.size) :
  Sim G B0 w0 w' ((s.put t .dead).new (.box cs' esz)) (M.add s.n (M.blk t) (M.cap t)) /\ Ext w s M w' ((s.put t .dead).new (.box cs' esz)) (M.add s.n (M.blk t) (M.cap t)) := by
 have hlid := room_lt hroom
 have htl : t < Tr.lid := by omega
 have hget : ∀ i, ((s.put t .dead).new (.box cs' esz)).get i = if i = s.n then some (.box cs' esz) else if i = t then some .dead else s.get i := fun i => by
  rw [St.get_new _ _ _ (by simpa [St.put] using hlid), St.get_put _ _ _ _ htl]; rfl
 have hn : ((s.put t .dead).new (.box cs' esz)).n = s.n + 1 := rfl
 have hne : t ≠ s.n := Nat.ne_of_lt ht
 have hE : Ext w s M w' ((s.put t .dead).new (.box cs' esz)) (M.add s.n (M.blk t) (M.cap t)) := by
  refine ⟨fun b off v hcv hi => ⟨?_, fun i o hin hgi hbk => ?_, hi.2⟩, by rw [hn]; omega, fun i hi => by simp only [Mp.add, if_neg (Nat.ne_of_lt hi), and_self], fun i tp e' hi hgi => ?_, ⟨by rw [hws]; exact Nat.le_refl _, fun b _ hno => hw b fun e => hno t _ ht hg trivial e.symm, fun i o hi hgi hl hlt => ?_⟩, rfl, rfl, rfl⟩
  ·by_cases eb : b = M.blk t
   ·subst eb
    exact (hi.1 t _ ht hg rfl).elim
   ·exact (World.cell?_of_block (w := w) (w' := w') (hw b eb)).trans hcv
  ·rw [hget] at hgi
   by_cases e1 : i = s.n
   ·subst e1; rw [if_pos rfl] at hgi; cases hgi
    simp only [Mp.add, if_true] at hbk
    exact (hi.1 t _ ht hg hbk).elim
   ·rw [if_neg e1] at hgi
    simp only [Mp.add, if_neg e1] at hbk
    by_cases e2 : i = t
    ·rw [if_pos e2] at hgi; cases hgi; trivial
    ·rw [if_neg e2] at hgi; exact hi.1 i o (by omega) hgi hbk
  ·rw [hget, if_neg (Nat.ne_of_lt hi)] at hgi
   by_cases e2 : i = t
   ·rw [if_pos e2] at hgi; cases hgi
   ·rw [if_neg e2] at hgi; exact hgi
  ·rw [hget] at hgi
   rw [hn] at hi
   simp only [Mp.add] at hlt ⊢
   by_cases e1 : i = s.n
   ·exact ⟨t, _, ht, hg, trivial, by rw [if_pos e1]⟩
   ·rw [if_neg e1] at hgi
    by_cases e2 : i = t
    ·rw [if_pos e2] at hgi; cases hgi; exact hl.elim
    ·rw [if_neg e2] at hgi
     exact ⟨i, o, by omega, hgi, hl, by rw [if_neg e1]⟩
 refine ⟨⟨hbel, hs.size, by rw [hn]; omega, fun i hi => ?_, fun i j oi oj hi hj gi gj li lj eb => ?_, fun i o hi hgi => ?_, fun g cs hgl => (hs.glob g cs hgl).ext hE, hs.fx, fun b off ho => ⟨by have h1 := (hs.out b off ho).1; omega, fun i hi => by
  simp only [Mp.add]
  rw [hn] at hi
  by_cases e1 : i = s.n
  ·rw [if_pos e1]; exact (hs.out b off ho).2 t ht
  ·rw [if_neg e1]; exact (hs.out b off ho).2 i (by omega)⟩⟩, hE⟩
 ·rw [hws]; simp only [Mp.add]
  by_cases e1 : i = s.n
  ·rw [if_pos e1]; exact hs.blk t ht
  ·rw [if_neg e1]; exact hs.blk i (by omega)
 ·rw [hget] at gi gj
  simp only [Mp.add] at eb
  by_cases e1 : i = s.n <;> by_cases e2 : j = s.n
  ·omega
  ·rw [if_pos e1, if_neg e2] at eb
   rw [if_neg e2] at gj
   by_cases e3 : j = t
   ·rw [if_pos e3] at gj; cases gj; exact lj.elim
   ·rw [if_neg e3] at gj; exact absurd (hs.inj j t _ _ (by omega) ht gj hg lj trivial eb.symm) e3
  ·rw [if_neg e1, if_pos e2] at eb
   rw [if_neg e1] at gi
   by_cases e3 : i = t
   ·rw [if_pos e3] at gi; cases gi; exact li.elim
   ·rw [if_neg e3] at gi; exact absurd (hs.inj i t _ _ (by omega) ht gi hg li trivial eb) e3
  ·rw [if_neg e1] at gi; rw [if_neg e2] at gj; rw [if_neg e1, if_neg e2] at eb
   by_cases e3 : i = t
   ·rw [if_pos e3] at gi; cases gi; exact li.elim
   ·by_cases e4 : j = t
    ·rw [if_pos e4] at gj; cases gj; exact lj.elim
    ·rw [if_neg e3] at gi; rw [if_neg e4] at gj; exact hs.inj i j _ _ (by omega) (by omega) gi gj li lj eb
 ·rw [hget] at hgi
  obtain ⟨c0, e0', fr0, a1, a2, a3, a4, a5⟩ := hs.obj t _ ht hg
  rw [hc] at a1; cases a1
  by_cases e1 : i = s.n
  ·subst e1; rw [if_pos rfl] at hgi; cases hgi
   simp only [Mp.add, if_true]
   exact ⟨c', e, fr, hc', hv.ext hE, hac, by rw [hsz]; exact a4, fun h0 => by rw [hsz]; exact a5.1 h0, fun h0 => ⟨(a5.2 h0).1, fun h1 => absurd h1 hk0⟩⟩
  ·rw [if_neg e1] at hgi
   simp only [Mp.add, if_neg e1]
   by_cases e2 : i = t
   ·rw [if_pos e2] at hgi; cases hgi; trivial
   ·rw [if_neg e2] at hgi
    have ho := hs.obj i o (by omega) hgi
    cases o with
    | dead => trivial
    | box cs esz' =>
     have hne : M.blk i ≠ M.blk t := fun e' => e2 (hs.inj i t _ _ (by omega) ht hgi hg trivial trivial e')
     obtain ⟨c, e', fr, a1, a2, a3⟩ := ho; exact ⟨c, e', fr, (hw _ hne).trans a1, a2.ext hE, a3⟩
    | fz cs esz' =>
     have hne : M.blk i ≠ M.blk t := fun e' => e2 (hs.inj i t _ _ (by omega) ht hgi hg trivial trivial e')
     obtain ⟨c, e', fr, a1, a2, a3⟩ := ho; exact ⟨c, e', fr, (hw _ hne).trans a1, a2.ext hE, a3⟩
    | row tip esz =>
     have hne : M.blk i ≠ M.blk t := fun e' => e2 (hs.inj i t _ _ (by omega) ht hgi hg trivial trivial e')
     obtain ⟨c, e', fr, a1, a2⟩ := ho; exact ⟨c, e', fr, (hw _ hne).trans a1, a2⟩
    | map es =>
     have hne : M.blk i ≠ M.blk t := fun e' => e2 (hs.inj i t _ _ (by omega) ht hgi hg trivial trivial e')
     obtain ⟨c, k, a1, a2⟩ := ho; exact ⟨c, k, (hw _ hne).trans a1, a2.ext hE⟩
    | loop T ps asg body st pend =>
     have hne : M.blk i ≠ M.blk t := fun e' => e2 (hs.inj i t _ _ (by omega) ht hgi hg trivial trivial e')
     obtain ⟨rc, a1, a2, a3, a4, a5, a6, a7, a8⟩ := ho; exact ⟨rc, (hw _ hne).trans a1, a2, a3, a4, a5, a6, a7, fun t => (a8 t).ext hE⟩
    | defs =>
     have hne : M.blk i ≠ M.blk t := fun e' => e2 (hs.inj i t _ _ (by omega) ht hgi hg trivial trivial e')
     exact (hw _ hne).trans ho
    | sym k =>
     have hne : M.blk i ≠ M.blk t := fun e' => e2 (hs.inj i t _ _ (by omega) ht hgi hg trivial trivial e')
     show SymR _ _ _ _; rw [hw _ hne]; exact ho
    | ar t' e' z' =>
     have hne : M.blk i ≠ M.blk t := fun e' => e2 (hs.inj i t _ _ (by omega) ht hgi hg trivial trivial e')
     exact arR_ext hE (hw _ hne) ho

theorem heldBy_sound (hs : Sim G B0 w0 w s M) {size n : Nat} {c : AV} {ys : List AV} {v : Value} (h : heldBy s size c = some (ys, n)) (hv : VR w s M c v) (hl : ys.length = n * size) :
  ∃ vs, VRl w s M ys vs /\ (∀ W : World, (Builtin.lenOf v).run P W = .ok n W) /\ (Builtin.firstCells size n v).run P w = .ok vs.toArray w /\ (Builtin.firstCells size n v).run P w.drew = .ok vs.toArray w.drew := by
 unfold heldBy at h
 split at h
 ·simp only [Option.some.injEq, Prod.mk.injEq] at h
  obtain ⟨rfl, rfl⟩ := h
  obtain ⟨rfl, hsc⟩ := VR_v.1 hv
  have : ∀ l k, scalar (.slice none l k) = true -> l = 0 := fun l k h => by simp only [scalar, Bool.and_eq_true] at h; exact nbe h.1
  have := this _ _ hsc; subst this
  exact ⟨[], VRl_nil, fun W => by simp [Builtin.lenOf], by simp [Builtin.firstCells], by simp [Builtin.firstCells]⟩
 ·simp only [Option.some.injEq, Prod.mk.injEq] at h
  obtain ⟨rfl, rfl⟩ := h
  unfold VR at hv; obtain ⟨b, off, rfl⟩ := hv
  refine ⟨[], VRl_nil, fun W => by simp [Builtin.lenOf], ?_, ?_⟩
  ·have := run_firstCells_some (P := P) w size 0 ⟨b, off, none⟩ 0 0 [] (by simp) (by simp); simpa using this
  ·have := run_firstCells_some (P := P) w.drew size 0 ⟨b, off, none⟩ 0 0 [] (by simp) (by simp); simpa using this
 ·rename_i cs len tok
  split at h
  ·simp only [Option.some.injEq, Prod.mk.injEq] at h
   obtain ⟨rfl, rfl⟩ := h
   unfold VR at hv; obtain ⟨b, off, cap, rfl, hle, hv, _⟩ := hv
   obtain ⟨vs, h1, h2⟩ := (hv.take (len * size)).vals
   have hlen : vs.length = len * size := by rw [<- h1.length, hl]
   refine ⟨vs, h1, fun W => by simp [Builtin.lenOf], ?_, ?_⟩
   ·exact run_firstCells_some (P := P) w size len ⟨b, off, none⟩ len cap vs hlen fun j x hj => by rw [add_eq]; exact h2 j x hj
   ·exact run_firstCells_some (P := P) w.drew size len ⟨b, off, none⟩ len cap vs hlen fun j x hj => by rw [add_eq]; exact h2 j x hj
  ·cases h
 ·rename_i b off len
  split at h
  ·rename_i c esz hg
   split at h
   ·simp only [Option.some.injEq, Prod.mk.injEq] at h
    obtain ⟨rfl, rfl⟩ := h
    unfold VR at hv; obtain ⟨hb, cap, hle, rfl⟩ := hv
    obtain ⟨d, e, fr, h1, h2, _⟩ := hs.obj b _ hb hg
    have ha := (((at_block h1).take c.length).drop off).take (len * size)
    rw [Nat.zero_add] at ha
    have hvl := (h2.drop off).take (len * size)
    have hlen : (((d.toList.take c.length).drop off).take (len * size)).length = len * size := by rw [<- hvl.length, hl]
    refine ⟨_, hvl, fun W => by simp [Builtin.lenOf], ?_, ?_⟩
    ·exact run_firstCells_some (P := P) w size len ⟨M.blk b, off, none⟩ len cap _ hlen fun j x hj => by rw [add_eq]; exact ha j x hj
    ·exact run_firstCells_some (P := P) w.drew size len ⟨M.blk b, off, none⟩ len cap _ hlen fun j x hj => by rw [add_eq]; exact ha j x hj
   ·cases h
  ·cases h
 ·rename_i b len
  split at h
  ·rename_i c esz hg
   split at h
   ·simp only [Option.some.injEq, Prod.mk.injEq] at h
    obtain ⟨rfl, rfl⟩ := h
    unfold VR at hv; obtain ⟨hb, hle, rfl⟩ := hv
    obtain ⟨d, e, fr, h1, h2, _⟩ := hs.obj b _ hb hg
    have ha := ((at_block h1).take c.length).take (len * size)
    have hvl := h2.take (len * size)
    have hlen : ((d.toList.take c.length).take (len * size)).length = len * size := by rw [<- hvl.length, hl]
    refine ⟨_, hvl, fun W => by simp [Builtin.lenOf], ?_, ?_⟩
    ·exact run_firstCells_some (P := P) w size len ⟨M.blk b, 0, none⟩ len (M.cap b) _ hlen fun j x hj => by rw [add_eq]; exact ha j x hj
    ·exact run_firstCells_some (P := P) w.drew size len ⟨M.blk b, 0, none⟩ len (M.cap b) _ hlen fun j x hj => by rw [add_eq]; exact ha j x hj
   ·cases h
  ·cases h
 ·rename_i x
  split at h
  ·simp only [Option.some.injEq, Prod.mk.injEq] at h
   obtain ⟨rfl, rfl⟩ := h
   obtain ⟨rfl, _⟩ := VR_v.1 hv
   have e : (x.extract 0 x.size).data.map (fun b => Value.int .u8 b.toNat) = (x.data.toList.map fun b => Value.int .u8 b.toNat).toArray := by
    rw [ByteArray.extract_zero_size]
    apply Array.toList_inj.1; simp
   refine ⟨x.data.toList.map fun b => .int .u8 b.toNat, ?_, fun W => by simp [Builtin.lenOf], ?_, ?_⟩
   ·refine VRl.of_get (by simp) fun i c v h1 h2 => ?_
    simp only [List.getElem?_map, Option.map_eq_some_iff] at h1 h2
    obtain ⟨b1, hb1, rfl⟩ := h1
    obtain ⟨b2, hb2, rfl⟩ := h2
    rw [hb1] at hb2; cases hb2
    exact VR_v_of rfl
   ·simp only [Builtin.firstCells]; rw [e]; rfl
   ·simp only [Builtin.firstCells]; rw [e]; rfl
  ·cases h
 ·cases h
end
end Go.Ab
/- The evaluator's operations against the model's, continued: append, copy, make, conversions. -/
namespace Go.Ab
open Go Go.RowKit

section
variable [Interp] {P : Program} {G : Nat -> Option (List AV)} {B0 : Nat} {w0 w : World} {s : St} {M : Mp}

theorem size_zeroCells (z : Array Value) (n : Nat) : (Builtin.zeroCells z n).size = n * z.size := by simp [Builtin.zeroCells]

theorem run_append_grow' (t0 t1 ty e : TypeId) (A : Array TypeId) (hA0 : A[0]? = some t0) (hA1 : A[1]? = some t1) (i : TypeInfo) (z : Value) (d : TypeDesc) (ht0 : P.underlying t0 = some (.slice e)) (ht1 : P.underlying t1 = some d) (hd : ∀ k, d ≠ .int k)
  (hi : P.info? e = some i) (hz : i.zero = some z) (base : Option Addr) (sLen sCap n : Nat) (y : Value) (olds news : List Value) (hlen : ∀ W : World, (Builtin.lenOf y).run P W = .ok n W)
  (hold : (Builtin.firstCells i.size sLen (.slice base sLen sCap)).run P w.drew = .ok olds.toArray w.drew) (hnew : (Builtin.firstCells i.size n y).run P w.drew = .ok news.toArray w.drew)
  (hg : sCap < sLen + n) (h63 : ((sLen + n : Nat) : Int) <= 9223372036854775807) (hfit : Builtin.nextslicecap (sLen + n) sCap * i.bytes <= 281474976710656) :
  (Builtin.append_ A ty #[.slice base sLen sCap, y]).run P w =
   .ok (.slice (some ⟨w.heap.size, 0, none⟩) (sLen + n) (grownCap w (sLen + n) sCap e))
    (w.drew.alloc (.cells (olds.toArray ++ news.toArray ++ Builtin.zeroCells z.cells (grownCap w (sLen + n) sCap e - (sLen + n))) e)) := by
 have hn : ¬ (sLen + n <= sCap) := by omega
 have h63' : ¬ (9223372036854775807 < ((sLen : Int) + (n : Int))) := by omega
 have h48' : ¬ (281474976710656 < Builtin.nextslicecap (sLen + n) sCap * i.bytes) := by omega
 simp [Builtin.append_, hA0, hA1, run_underlying ht0, run_underlying ht1, sizeOf, typeInfo, zeroValue, hi, hz, hlen, hn, h63', h48', Question.forced, hold, hnew, newRow, grownCap]
 congr 2
 apply Array.toList_inj.1
 simp

theorem run_append_room' (t0 t1 ty e : TypeId) (A : Array TypeId) (hA0 : A[0]? = some t0) (hA1 : A[1]? = some t1) (i : TypeInfo) (d : TypeDesc) (ht0 : P.underlying t0 = some (.slice e)) (ht1 : P.underlying t1 = some d) (hd : ∀ k, d ≠ .int k)
  (hi : P.info? e = some i) (base : Option Addr) (sLen sCap n : Nat) (y : Value) (news : List Value) (hlen : ∀ W : World, (Builtin.lenOf y).run P W = .ok n W)
  (hnew : (Builtin.firstCells i.size n y).run P w = .ok news.toArray w) (hg : sLen + n <= sCap) {w' : World} (hst : ∀ a, base = some a -> (storeCells (a.add (sLen * i.size)) news).run P w = .ok () w') (hst' : base = none -> w' = w) :
  (Builtin.append_ A ty #[.slice base sLen sCap, y]).run P w = .ok (.slice base (sLen + n) sCap) w' := by
 cases base with
 | none => have := hst' rfl; subst this; simp [Builtin.append_, hA0, hA1, run_underlying ht0, run_underlying ht1, sizeOf, typeInfo, hi, hlen, hg, hnew]
 | some a => simp [Builtin.append_, hA0, hA1, run_underlying ht0, run_underlying ht1, sizeOf, typeInfo, hi, hlen, hg, hnew, hst a rfl]

theorem grownCap_ge (w : World) (need old : Nat) (e : TypeId) : need <= grownCap w need old e := by simp [grownCap, Question.cut]

theorem exec_append {o : Oper} {a : Act} {c : Go.Call} (hop : o.op = .call c) (hc : c.callee = .builtin .append) {w' : World} {v : Value}
  (h : (Builtin.append_ c.argTypes o.type (c.args.map a.eval)).run P w = .ok v w') : (execOp a.eval o).run P w = .ok (.value v) w' := by
 simp [execOp, hop, resolve, hc, invoke, builtin, h]

theorem tooLong_no {bytes need : Nat} (h : tooLong bytes need = false) : (2 * need + 2048) * bytes <= 2 ^ 47 /\ 0 < bytes := by
 simp only [tooLong, Bool.or_eq_false_iff, Bool.not_eq_false'] at h
 refine ⟨Nat.le_of_ble_eq_true h.1, ?_⟩
 rcases Nat.eq_zero_or_pos bytes with e | e
 ·subst e; exact absurd h.2 (by decide)
 ·exact e

theorem s_append {o : Oper} {a : Act} {T : Tm} {c : Go.Call} {t0 t1 e : TypeId} {d : TypeDesc} {x y : AV} {ox oy : Operand} {r : AV} {s' : St} (hs : Sim G B0 w0 w s M) (hT : TmR w s M T a) (hop : o.op = .call c) (hc : c.callee = .builtin .append)
  (hA0 : c.argTypes[0]? = some t0) (hA1 : c.argTypes[1]? = some t1) (ht0 : P.underlying t0 = some (.slice e)) (ht1 : P.underlying t1 = some d) (hd : ∀ k, d ≠ .int k)
  (hargs : c.args = #[ox, oy]) (hx : opd G T ox = some x) (hy : opd G T oy = some y) (h : appendA P e s x y = some (r, s')) : OpOk P G B0 w0 w s M o a r s' := by
 have vx := opd_sound hs hT hx
 have vy := opd_sound hs hT hy
 have hargs' : c.args.map a.eval = #[a.eval ox, a.eval oy] := by rw [hargs]; simp
 simp only [appendA, Option.bind_eq_bind, Option.bind_eq_some_iff] at h
 obtain ⟨size, hsize, bytes, hbytes, z, hz, ⟨ys, n⟩, hheld, h⟩ := h
 obtain ⟨zv, hz1, hz2⟩ := zeroCells_some hz
 unfold sizeT at hsize; unfold bytesT at hbytes; unfold zeroT at hz1
 rw [Option.map_eq_some_iff] at hsize hbytes
 rw [Option.bind_eq_some_iff] at hz1
 obtain ⟨i, hi, rfl⟩ := hsize
 obtain ⟨i', hi', rfl⟩ := hbytes
 obtain ⟨i'', hi'', hzv⟩ := hz1
 rw [hi] at hi' hi''; cases hi'; cases hi''
 split at h
 ·cases h
 ·rename_i hsz
  simp only [Bool.or_eq_true, Bool.not_eq_true', not_or, Bool.not_eq_false] at hsz
  obtain ⟨hz3, hyl⟩ := hsz
  have hz3 := nbe hz3
  have hyl := nbe hyl
  have hzs : zv.cells.size = i.size := by have := (VRl_scAll (w := w) (s := s) (M := M) hz2).length; rw [hz3] at this; simp at this; exact this.symm
  obtain ⟨vs, hvs, hlen, hf1, hf2⟩ := heldBy_sound (P := P) hs hheld vy hyl
  have hvl : vs.length = n * i.size := by rw [<- hvs.length, hyl]
  -- the new row, of what there was and what comes
  have fresh : ∀ (base : Option Addr) (sLen sCap : Nat) (olds : List AV) (ovs : List Value) (s1 : St), a.eval ox = .slice base sLen sCap -> Sim G B0 w0 w s1 M -> Ext w s M w s1 M -> s1.room = true -> VRl w s M olds ovs -> olds.all isCell = true -> olds.length = sLen * i.size ->
    (Builtin.firstCells i.size sLen (.slice base sLen sCap)).run P w.drew = .ok ovs.toArray w.drew -> sCap < sLen + n -> tooLong i.bytes (sLen + n) = false -> ys.all isCell = true ->
    OpOk P G B0 w0 w s M o a (.sl (olds ++ ys) (sLen + n) (some s1.n)) (s1.new (.row (.c (sLen * i.size + n * i.size)) i.size)) := by
   intro base sLen sCap olds ovs s1 ex hs1 hE1 hroom hov hoc hol hold hg htl hyc
   obtain ⟨hb1, hb2⟩ := tooLong_no htl
   have hneed : sLen + n <= 2 ^ 47 := by
    have h1 : (2 * (sLen + n) + 2048) * 1 <= (2 * (sLen + n) + 2048) * i.bytes := Nat.mul_le_mul_left _ hb2
    omega
   have hfit : Builtin.nextslicecap (sLen + n) sCap * i.bytes <= 281474976710656 := growslice_fits hg (by
    have h1 : (sLen + n) * i.bytes <= (2 * (sLen + n) + 2048) * i.bytes := Nat.mul_le_mul_right _ (by omega)
    omega)
   have hrun := run_append_grow' (w := w) t0 t1 o.type e c.argTypes hA0 hA1 i zv d ht0 ht1 hd hi hzv base sLen sCap n (a.eval oy) ovs vs hlen hold hf2 hg (by omega) hfit
   have hcapge := grownCap_ge w (sLen + n) sCap e
   have hcells : (ovs.toArray ++ vs.toArray ++ Builtin.zeroCells zv.cells (grownCap w (sLen + n) sCap e - (sLen + n))).size = grownCap w (sLen + n) sCap e * i.size := by
    simp only [Array.size_append, size_zeroCells, hzs, List.size_toArray, hvl, <- hov.length, hol]
    rw [<- Nat.add_mul, <- Nat.add_mul]; congr 1; omega
   have hs2 := sim_drew hs1
   have hEd : Ext w s M w.drew s1 M := hE1.trans ext_drew
   have hov2 : VRl w.drew s1 M (olds ++ ys) (ovs ++ vs) := (hov.ext hEd).append (hvs.ext hEd)
   obtain ⟨hs3, hE3⟩ := new_row hs2 hroom (vs := ovs.toArray ++ vs.toArray ++ Builtin.zeroCells zv.cells (grownCap w (sLen + n) sCap e - (sLen + n))) e (0, 0) (.c (sLen * i.size + n * i.size)) i.size (grownCap w (sLen + n) sCap e) hcells
    (by rw [hcells, <- Nat.add_mul]; exact Nat.mul_le_mul_right _ hcapge) (.inl rfl)
   refine ok_value (v := .slice (some ⟨w.heap.size, 0, none⟩) (sLen + n) (grownCap w (sLen + n) sCap e)) (exec_append hop hc (by rw [hargs', ex]; exact hrun)) ?_ hs3 (hEd.trans hE3)
   have hgn : (s1.new (.row (.c (sLen * i.size + n * i.size)) i.size)).get s1.n = some (.row (.c (sLen * i.size + n * i.size)) i.size) := by rw [St.get_new _ _ _ (room_lt hroom), if_pos rfl]
   have hbn : (M.add s1.n w.drew.heap.size (grownCap w (sLen + n) sCap e)).blk s1.n = w.heap.size := by simp [Mp.add]
   have hlt : s1.n < (s1.new (.row (.c (sLen * i.size + n * i.size)) i.size)).n := by simp [St.new]
   unfold VR
   refine ⟨w.heap.size, 0, _, rfl, hcapge, ?_, fun t ht => ?_⟩
   ·have := VRs_row hs3 hlt hgn (c := ovs.toArray ++ vs.toArray ++ Builtin.zeroCells zv.cells (grownCap w (sLen + n) sCap e - (sLen + n))) (e := e) (fr := (0, 0)) (by rw [hbn]; exact heap_new w.drew _) (cs := olds ++ ys)
     (by
      have : (ovs.toArray ++ vs.toArray ++ Builtin.zeroCells zv.cells (grownCap w (sLen + n) sCap e - (sLen + n))).toList.take (olds ++ ys).length = ovs ++ vs := by
       rw [hov2.length]
       simp only [Array.toList_append]
       rw [List.take_left']
       simp
      rw [this]; exact hov2.ext hE3)
     (by rw [List.length_append, hol, hyl]; exact Nat.le_refl _) (by rw [List.all_append, hoc, hyc]; rfl)
    rw [hbn] at this; exact this
   ·cases ht
    refine ⟨hlt, fun tip e' hg' => ⟨hbn.symm, rfl, ?_⟩⟩
    simp [Mp.add]
  split at h
  ·-- a nil slice
   rename_i l k
   obtain ⟨ex, hsc⟩ := VR_v.1 vx
   have hlk : l = 0 /\ k = 0 := by simp only [scalar, Bool.and_eq_true] at hsc; exact ⟨nbe hsc.1, nbe hsc.2⟩
   obtain ⟨rfl, rfl⟩ := hlk
   split at h
   ·rename_i hn0
    have hn0 := nbe hn0; subst hn0
    simp only [Option.some.injEq, Prod.mk.injEq] at h
    obtain ⟨rfl, rfl⟩ := h
    have hrun := run_append_room' (w := w) (w' := w) t0 t1 o.type e c.argTypes hA0 hA1 i d ht0 ht1 hd hi none 0 0 0 (a.eval oy) vs hlen hf1 (Nat.le_refl _) (fun a h => by cases h) (fun _ => rfl)
    refine ok_here hs (exec_append hop hc (by rw [hargs', ex]; exact hrun)) ?_
    exact VR_v_of hsc
   ·rename_i hn0
    split at h
    ·cases h
    ·rename_i hcond
     simp only [Bool.or_eq_true, Bool.not_eq_true', not_or, Bool.not_eq_false, Bool.not_eq_true] at hcond
     obtain ⟨⟨h1, h2⟩, h3⟩ := hcond
     simp only [Option.some.injEq, Prod.mk.injEq] at h
     obtain ⟨rfl, rfl⟩ := h
     have hnz : n ≠ 0 := fun e => hn0 (by rw [e]; rfl)
     have := fresh none 0 0 [] [] s ex hs (Ext.refl _ _ _) h2 VRl_nil rfl (by simp) (by simp [Builtin.firstCells]) (by omega) (by simpa using h1) h3
     simpa using this
  ·-- an empty slice without room
   have vx' := vx
   unfold VR at vx
   obtain ⟨b, off, ex⟩ := vx
   split at h
   ·rename_i hn0
    have hn0 := nbe hn0; subst hn0
    simp only [Option.some.injEq, Prod.mk.injEq] at h
    obtain ⟨rfl, rfl⟩ := h
    have hv0 : vs = [] := List.length_eq_zero_iff.1 (by rw [hvl]; simp)
    have hrun := run_append_room' (w := w) (w' := w) t0 t1 o.type e c.argTypes hA0 hA1 i d ht0 ht1 hd hi (some ⟨b, off, none⟩) 0 0 0 (a.eval oy) vs hlen hf1 (Nat.le_refl _) (fun a h => by subst hv0; rfl) (fun h => by cases h)
    refine ok_here hs (exec_append hop hc (by rw [hargs', ex]; exact hrun)) ?_
    unfold VR; exact ⟨b, off, rfl⟩
   ·rename_i hn0
    split at h
    ·cases h
    ·rename_i hcond
     simp only [Bool.or_eq_true, Bool.not_eq_true', not_or, Bool.not_eq_false, Bool.not_eq_true] at hcond
     obtain ⟨⟨h1, h2⟩, h3⟩ := hcond
     simp only [Option.some.injEq, Prod.mk.injEq] at h
     obtain ⟨rfl, rfl⟩ := h
     have hnz : n ≠ 0 := fun e => hn0 (by rw [e]; rfl)
     have := fresh (some ⟨b, off, none⟩) 0 0 [] [] s ex hs (Ext.refl _ _ _) h2 VRl_nil rfl (by simp) (by have := run_firstCells_some (P := P) w.drew i.size 0 ⟨b, off, none⟩ 0 0 [] (by simp) (by simp); simpa using this) (by omega) (by simpa using h1) h3
     simpa using this
  ·-- a row of the call's own
   rename_i cs len t
   split at h
   ·rename_i tip esz hg
    split at h
    ·cases h
    ·rename_i hcond
     simp only [Bool.or_eq_true, Bool.not_eq_true', not_or, Bool.not_eq_false, Bool.not_eq_true] at hcond
     obtain ⟨⟨⟨⟨⟨h1, h2⟩, h3⟩, h4⟩, h5⟩, h6⟩ := hcond
     simp only [Option.some.injEq, Prod.mk.injEq] at h
     obtain ⟨rfl, rfl⟩ := h
     have h3 := nbe h3
     have h4 := nbe h4
     have h5 := Nat.le_of_ble_eq_true h5
     subst h3 h4
     have vx' := vx
     unfold VR at vx
     obtain ⟨b, off, cap, ex, hle, hv, htok⟩ := vx
     obtain ⟨ht, htok⟩ := htok t rfl
     obtain ⟨rfl, rfl, rfl⟩ := htok _ _ hg
     obtain ⟨ovs, hov, hat⟩ := (hv.take (len * i.size)).vals
     have hol : (cs.take (len * i.size)).length = len * i.size := by rw [List.length_take]; omega
     have hovl : ovs.length = len * i.size := by rw [<- hov.length, hol]
     have hoc : (cs.take (len * i.size)).all isCell = true := by
      rw [List.all_eq_true]
      intro q hq
      obtain ⟨j, hj⟩ := List.mem_iff_getElem?.1 hq
      obtain ⟨_, _, _, hcell, _⟩ := (hv.take (len * i.size)).get j q hj
      exact hcell
     by_cases hroomy : len + n <= M.cap t
     ·-- there is room
      obtain ⟨c0, e0', fr, a1, a2, a3, a4⟩ := hs.obj t _ ht hg
      have hfits : len * i.size + n * i.size <= c0.size := by rw [a2, <- Nat.add_mul]; exact Nat.mul_le_mul_right _ hroomy
      obtain ⟨k1, k2, k3⟩ := heap_setCells vs (len * i.size) w c0 a1 (by rw [hvl]; exact hfits)
      have hst : (storeCells ⟨M.blk t, len * i.size, none⟩ vs).run P w = .ok () (w.setCells (M.blk t) (len * i.size) vs) := by
       have := run_storeCells_cells (P := P) (M.blk t) (len * i.size) vs 0 w (fun j hj => ?_) (fun j hj => ?_) (oneCell_all h6 hvs)
       ·simpa using this
       ·simp only [World.cell?, a1]
        simp
        omega
       ·simp only [World.frozen?, a1]
        have := a4.no (show len * i.size + 0 + j < c0.size by omega)
        simp only [Bool.and_eq_false_iff, decide_eq_false_iff_not]
        rcases Classical.em (fr.1 <= len * i.size + 0 + j) with q | q
        ·exact .inr fun q' => this ⟨q, q'⟩
        ·exact .inl q
      have hrun := run_append_room' (w := w) t0 t1 o.type e c.argTypes hA0 hA1 i d ht0 ht1 hd hi (some ⟨M.blk t, 0, none⟩) len (M.cap t) n (a.eval oy) vs hlen hf1 hroomy (fun q hq => by cases hq; rw [add_eq, Nat.zero_add]; exact hst) (fun h => by cases h)
      have hnewsz : (c0.toList.take (len * i.size) ++ vs ++ c0.toList.drop (len * i.size + vs.length)).toArray.size = c0.size := by
       simp only [List.size_toArray, List.length_append, List.length_take, List.length_drop, Array.length_toList, hvl]; omega
      obtain ⟨hs2, hE2⟩ := grow_in (tip' := .c (len * i.size + n * i.size)) hs h2 ht hg (show len * i.size <= len * i.size + n * i.size by omega) a1 k1 hnewsz hfits (fun j hj => by
       have hj : j < len * i.size := hj
       rw [List.getElem?_toArray, List.append_assoc, List.getElem?_append_left (by simp; omega), List.getElem?_take, if_pos hj, Array.getElem?_toList]) k2 (below_setCells (hs.blk t ht).1 vs _ w hs.below) k3
      refine ok_value (v := .slice (some ⟨M.blk t, 0, none⟩) (len + n) (M.cap t)) (exec_append hop hc (by rw [hargs', ex]; exact hrun)) ?_ hs2 hE2
      have htl : t < Tr.lid := Nat.lt_of_lt_of_le ht hs.bound
      have hgn : ((s.put t .dead).new (.row (.c (len * i.size + n * i.size)) i.size)).get s.n = some (.row (.c (len * i.size + n * i.size)) i.size) := by rw [St.get_new _ _ _ (by simpa [St.put] using room_lt h2)]; exact if_pos rfl
      have hlt : s.n < ((s.put t .dead).new (.row (.c (len * i.size + n * i.size)) i.size)).n := by simp [St.new, St.put]
      have hbn : (M.add s.n (M.blk t) (M.cap t)).blk s.n = M.blk t := by simp [Mp.add]
      unfold VR
      refine ⟨M.blk t, 0, _, rfl, hroomy, ?_, fun t' ht' => ?_⟩
      ·have := VRs_row hs2 hlt hgn (by rw [hbn]; exact k1) (cs := cs.take (len * i.size) ++ ys)
        (by
         have e1 : (c0.toList.take (len * i.size) ++ vs ++ c0.toList.drop (len * i.size + vs.length)).toArray.toList.take (cs.take (len * i.size) ++ ys).length = ovs ++ vs := by
          have e2 : c0.toList.take (len * i.size) = ovs := by
           apply List.ext_getElem?
           intro j
           rw [List.getElem?_take]
           by_cases hj : j < len * i.size
           ·rw [if_pos hj]
            obtain ⟨q, hq⟩ : ∃ q, ovs[j]? = some q := ⟨ovs[j], List.getElem?_eq_getElem (by omega)⟩
            have := hat j q hq
            simp only [Nat.zero_add, World.cell?, a1] at this
            rw [hq, Array.getElem?_toList]; simpa using this
           ·rw [if_neg hj, List.getElem?_eq_none (by omega)]
          rw [e2, List.length_append, hol, hyl]
          rw [List.take_left']
          simp [hovl, hvl]
         rw [e1]; exact (hov.append hvs).ext hE2)
        (by rw [List.length_append, hol, hyl]; exact Nat.le_refl _) (by rw [List.all_append, hoc, h6]; rfl)
       rw [hbn] at this; exact this
      ·cases ht'
       exact ⟨hlt, fun tip e' hg' => ⟨hbn.symm, rfl, by simp [Mp.add, St.put]⟩⟩
     ·-- a new row
      have hk := sim_kill hs t ht
      have := fresh (some ⟨M.blk t, 0, none⟩) len (M.cap t) (cs.take (len * i.size)) ovs (s.put t .dead) ex hk (ext_kill t (Nat.lt_of_lt_of_le ht hs.bound)) (by simpa [St.room, St.put] using h2) hov hoc hol
       (run_firstCells_some (P := P) w.drew i.size len ⟨M.blk t, 0, none⟩ len (M.cap t) ovs hovl fun j q hq => by rw [add_eq]; exact hat j q hq) (by omega) h1 h6
      exact this
   ·cases h
  ·cases h
theorem new_grow (hs : Sim G B0 w0 w s M) (hr : s.room = true) {cs : List AV} {vs : Array Value} (t : TypeId) (esz cap : Nat) (h0 : esz < tyBase) (hz : esz ≠ 0) (h1 : vs.size = cap * esz) (hv : VRl w s M cs (vs.toList.take cs.length)) (hc : cs.all isCell = true) :
  Sim G B0 w0 (w.alloc (.cells vs t)) (s.new (.box cs (codeOf t esz))) (M.add s.n w.heap.size cap) /\ Ext w s M (w.alloc (.cells vs t)) (s.new (.box cs (codeOf t esz))) (M.add s.n w.heap.size cap) := by
 have hE := ext_new (w := w) (M := M) (room_lt hr) (fun i hi => (hs.blk i hi).2) (.cells vs t) (.box cs (codeOf t esz)) cap
 exact ⟨sim_new hs (room_lt hr) _ _ _ ⟨vs, t, (0, 0), heap_new _ _, hv.ext hE, hc, .inl rfl, fun _ => by rw [codeOf_mod h0]; exact h1, fun _ => ⟨(codeOf_div h0).symm, fun h => by rw [codeOf_mod h0] at h; exact absurd h hz⟩⟩, hE⟩

theorem s_appendM {o : Oper} {a : Act} {T : Tm} {c : Go.Call} {t0 t1 e : TypeId} {d : TypeDesc} {x y : AV} {ox oy : Operand} {r : AV} {s' : St} (hs : Sim G B0 w0 w s M) (hT : TmR w s M T a) (hop : o.op = .call c) (hc : c.callee = .builtin .append)
  (hA0 : c.argTypes[0]? = some t0) (hA1 : c.argTypes[1]? = some t1) (ht0 : P.underlying t0 = some (.slice e)) (ht1 : P.underlying t1 = some d) (hd : ∀ k, d ≠ .int k)
  (hargs : c.args = #[ox, oy]) (hx : opd G T ox = some x) (hy : opd G T oy = some y) (h : appendM P e s x y = some (r, s')) : OpOk P G B0 w0 w s M o a r s' := by
 have vx := opd_sound hs hT hx
 have vy := opd_sound hs hT hy
 have hargs' : c.args.map a.eval = #[a.eval ox, a.eval oy] := by rw [hargs]; simp
 simp only [appendM, Option.bind_eq_bind, Option.bind_eq_some_iff] at h
 obtain ⟨size, hsize, bytes, hbytes, z, hz, ⟨ys, n⟩, hheld, h⟩ := h
 obtain ⟨zv, hz1, hz2⟩ := zeroCells_some hz
 unfold sizeT at hsize; unfold bytesT at hbytes; unfold zeroT at hz1
 rw [Option.map_eq_some_iff] at hsize hbytes
 rw [Option.bind_eq_some_iff] at hz1
 obtain ⟨i, hi, rfl⟩ := hsize
 obtain ⟨i', hi', rfl⟩ := hbytes
 obtain ⟨i'', hi'', hzv⟩ := hz1
 rw [hi] at hi' hi''; cases hi'; cases hi''
 split at h
 ·cases h
 ·rename_i hsz
  simp only [Bool.or_eq_true, Bool.not_eq_true', not_or, Bool.not_eq_false] at hsz
  obtain ⟨hz3, hyl⟩ := hsz
  have hz3 := nbe hz3
  have hyl := nbe hyl
  have hzs : zv.cells.size = i.size := by have := (VRl_scAll (w := w) (s := s) (M := M) hz2).length; rw [hz3] at this; simp at this; exact this.symm
  obtain ⟨vs, hvs, hlen, hf1, hf2⟩ := heldBy_sound (P := P) hs hheld vy hyl
  have hvl : vs.length = n * i.size := by rw [<- hvs.length, hyl]
  -- the new row, of what there was and what comes
  have fresh : ∀ (base : Option Addr) (sLen sCap : Nat) (olds : List AV) (ovs : List Value) (s1 : St), a.eval ox = .slice base sLen sCap -> Sim G B0 w0 w s1 M -> Ext w s M w s1 M -> s1.room = true -> VRl w s M olds ovs -> olds.all isCell = true -> olds.length = sLen * i.size ->
    (Builtin.firstCells i.size sLen (.slice base sLen sCap)).run P w.drew = .ok ovs.toArray w.drew -> sCap < sLen + n -> tooLong i.bytes (sLen + n) = false -> ys.all isCell = true -> Nat.beq i.size 0 = false -> Nat.ble (i.size + 1) tyBase = true ->
    OpOk P G B0 w0 w s M o a (.mg s1.n (sLen + n)) (s1.new (.box (olds ++ ys) (codeOf e i.size))) := by
   intro base sLen sCap olds ovs s1 ex hs1 hE1 hroom hov hoc hol hold hg htl hyc hz00 hzb
   obtain ⟨hb1, hb2⟩ := tooLong_no htl
   have hneed : sLen + n <= 2 ^ 47 := by
    have h1 : (2 * (sLen + n) + 2048) * 1 <= (2 * (sLen + n) + 2048) * i.bytes := Nat.mul_le_mul_left _ hb2
    omega
   have hfit : Builtin.nextslicecap (sLen + n) sCap * i.bytes <= 281474976710656 := growslice_fits hg (by
    have h1 : (sLen + n) * i.bytes <= (2 * (sLen + n) + 2048) * i.bytes := Nat.mul_le_mul_right _ (by omega)
    omega)
   have hrun := run_append_grow' (w := w) t0 t1 o.type e c.argTypes hA0 hA1 i zv d ht0 ht1 hd hi hzv base sLen sCap n (a.eval oy) ovs vs hlen hold hf2 hg (by omega) hfit
   have hcapge := grownCap_ge w (sLen + n) sCap e
   have hcells : (ovs.toArray ++ vs.toArray ++ Builtin.zeroCells zv.cells (grownCap w (sLen + n) sCap e - (sLen + n))).size = grownCap w (sLen + n) sCap e * i.size := by
    simp only [Array.size_append, size_zeroCells, hzs, List.size_toArray, hvl, <- hov.length, hol]
    rw [<- Nat.add_mul, <- Nat.add_mul]; congr 1; omega
   have hs2 := sim_drew hs1
   have hEd : Ext w s M w.drew s1 M := hE1.trans ext_drew
   have hov2 : VRl w.drew s1 M (olds ++ ys) (ovs ++ vs) := (hov.ext hEd).append (hvs.ext hEd)
   have htk : (ovs.toArray ++ vs.toArray ++ Builtin.zeroCells zv.cells (grownCap w (sLen + n) sCap e - (sLen + n))).toList.take (olds ++ ys).length = ovs ++ vs := by
    rw [hov2.length]
    simp only [Array.toList_append]
    rw [List.take_left']
    simp
   obtain ⟨hs3, hE3⟩ := new_grow hs2 hroom (vs := ovs.toArray ++ vs.toArray ++ Builtin.zeroCells zv.cells (grownCap w (sLen + n) sCap e - (sLen + n))) e i.size (grownCap w (sLen + n) sCap e) (Nat.le_of_ble_eq_true hzb) (fun h => by rw [h] at hz00; cases hz00) hcells (by rw [htk]; exact hov2) (by rw [List.all_append, hoc, hyc]; rfl)
   refine ok_value (v := .slice (some ⟨w.heap.size, 0, none⟩) (sLen + n) (grownCap w (sLen + n) sCap e)) (exec_append hop hc (by rw [hargs', ex]; exact hrun)) ?_ hs3 (hEd.trans hE3)
   unfold VR
   exact ⟨by simp [St.new], by simp only [Mp.add, if_true]; exact hcapge, by simp only [Mp.add, if_true]; rfl⟩
  split at h
  ·-- a nil slice
   rename_i l k
   obtain ⟨ex, hsc⟩ := VR_v.1 vx
   have hlk : l = 0 /\ k = 0 := by simp only [scalar, Bool.and_eq_true] at hsc; exact ⟨nbe hsc.1, nbe hsc.2⟩
   obtain ⟨rfl, rfl⟩ := hlk
   split at h
   ·rename_i hn0
    have hn0 := nbe hn0; subst hn0
    simp only [Option.some.injEq, Prod.mk.injEq] at h
    obtain ⟨rfl, rfl⟩ := h
    have hrun := run_append_room' (w := w) (w' := w) t0 t1 o.type e c.argTypes hA0 hA1 i d ht0 ht1 hd hi none 0 0 0 (a.eval oy) vs hlen hf1 (Nat.le_refl _) (fun a h => by cases h) (fun _ => rfl)
    refine ok_here hs (exec_append hop hc (by rw [hargs', ex]; exact hrun)) ?_
    exact VR_v_of hsc
   ·rename_i hn0
    split at h
    ·cases h
    ·rename_i hcond
     simp only [Bool.or_eq_true, Bool.not_eq_true', not_or, Bool.not_eq_false, Bool.not_eq_true] at hcond
     obtain ⟨⟨⟨⟨h1, h2⟩, h3⟩, h4⟩, h5⟩ := hcond
     simp only [Option.some.injEq, Prod.mk.injEq] at h
     obtain ⟨rfl, rfl⟩ := h
     have hnz : n ≠ 0 := fun e => hn0 (by rw [e]; rfl)
     have := fresh none 0 0 [] [] s ex hs (Ext.refl _ _ _) h2 VRl_nil rfl (by simp) (by simp [Builtin.firstCells]) (by omega) (by simpa using h1) h3 h4 h5
     simpa using this
  ·-- an empty slice without room
   have vx' := vx
   unfold VR at vx
   obtain ⟨b, off, ex⟩ := vx
   split at h
   ·rename_i hn0
    have hn0 := nbe hn0; subst hn0
    simp only [Option.some.injEq, Prod.mk.injEq] at h
    obtain ⟨rfl, rfl⟩ := h
    have hv0 : vs = [] := List.length_eq_zero_iff.1 (by rw [hvl]; simp)
    have hrun := run_append_room' (w := w) (w' := w) t0 t1 o.type e c.argTypes hA0 hA1 i d ht0 ht1 hd hi (some ⟨b, off, none⟩) 0 0 0 (a.eval oy) vs hlen hf1 (Nat.le_refl _) (fun a h => by subst hv0; rfl) (fun h => by cases h)
    refine ok_here hs (exec_append hop hc (by rw [hargs', ex]; exact hrun)) ?_
    unfold VR; exact ⟨b, off, rfl⟩
   ·rename_i hn0
    split at h
    ·cases h
    ·rename_i hcond
     simp only [Bool.or_eq_true, Bool.not_eq_true', not_or, Bool.not_eq_false, Bool.not_eq_true] at hcond
     obtain ⟨⟨⟨⟨h1, h2⟩, h3⟩, h4⟩, h5⟩ := hcond
     simp only [Option.some.injEq, Prod.mk.injEq] at h
     obtain ⟨rfl, rfl⟩ := h
     have hnz : n ≠ 0 := fun e => hn0 (by rw [e]; rfl)
     have := fresh (some ⟨b, off, none⟩) 0 0 [] [] s ex hs (Ext.refl _ _ _) h2 VRl_nil rfl (by simp) (by have := run_firstCells_some (P := P) w.drew i.size 0 ⟨b, off, none⟩ 0 0 [] (by simp) (by simp); simpa using this) (by omega) (by simpa using h1) h3 h4 h5
     simpa using this
  ·-- a row of the call's own
   rename_i b len
   split at h
   ·rename_i cs esz hg
    split at h
    ·cases h
    ·rename_i hcond
     simp only [Bool.or_eq_true, Bool.not_eq_true', not_or, Bool.not_eq_false, Bool.not_eq_true] at hcond
     obtain ⟨⟨⟨⟨⟨⟨h1, h2⟩, h3⟩, h4⟩, h6⟩, h7⟩, h8⟩ := hcond
     simp only [Option.some.injEq, Prod.mk.injEq] at h
     obtain ⟨rfl, rfl⟩ := h
     have h3 := nbe h3
     have h4 := nbe h4
     subst h4
     have hz0 : i.size ≠ 0 := fun e => by rw [e] at h7; cases h7
     unfold VR at vx
     obtain ⟨ht, hle, ex⟩ := vx
     obtain ⟨c0, e0', fr, a1, a2, a3, a4, a5⟩ := hs.obj b _ ht hg
     have h80 : i.size < tyBase := Nat.le_of_ble_eq_true h8
     have hk0 : codeOf e i.size % tyBase ≠ 0 := by rw [codeOf_mod h80]; exact hz0
     have a5 := a5.1 hk0
     rw [codeOf_mod h80] at a5
     have hol : cs.length = len * i.size := h3
     have hlen0 := a2.length
     have hovl : (c0.toList.take cs.length).length = len * i.size := by rw [<- hlen0, hol]
     have hat : At w (M.blk b) 0 (c0.toList.take cs.length) := (at_block a1).take _
     by_cases hroomy : len + n <= M.cap b
     ·-- there is room
      have hfits : len * i.size + n * i.size <= c0.size := by rw [a5, <- Nat.add_mul]; exact Nat.mul_le_mul_right _ hroomy
      obtain ⟨k1, k2, k3⟩ := heap_setCells vs (len * i.size) w c0 a1 (by rw [hvl]; exact hfits)
      have hst : (storeCells ⟨M.blk b, len * i.size, none⟩ vs).run P w = .ok () (w.setCells (M.blk b) (len * i.size) vs) := by
       have := run_storeCells_cells (P := P) (M.blk b) (len * i.size) vs 0 w (fun j hj => ?_) (fun j hj => ?_) (oneCell_all h6 hvs)
       ·simpa using this
       ·simp only [World.cell?, a1]
        simp
        omega
       ·simp only [World.frozen?, a1]
        have := a4.no (show len * i.size + 0 + j < c0.size by omega)
        simp only [Bool.and_eq_false_iff, decide_eq_false_iff_not]
        rcases Classical.em (fr.1 <= len * i.size + 0 + j) with q | q
        ·exact .inr fun q' => this ⟨q, q'⟩
        ·exact .inl q
      have hrun := run_append_room' (w := w) t0 t1 o.type e c.argTypes hA0 hA1 i d ht0 ht1 hd hi (some ⟨M.blk b, 0, none⟩) len (M.cap b) n (a.eval oy) vs hlen hf1 hroomy (fun q hq => by cases hq; rw [add_eq, Nat.zero_add]; exact hst) (fun h => by cases h)
      have hnewsz : (c0.toList.take (len * i.size) ++ vs ++ c0.toList.drop (len * i.size + vs.length)).toArray.size = c0.size := by
       simp only [List.size_toArray, List.length_append, List.length_take, List.length_drop, Array.length_toList, hvl]; omega
      have htk : (c0.toList.take (len * i.size) ++ vs ++ c0.toList.drop (len * i.size + vs.length)).toArray.toList.take (cs ++ ys).length = c0.toList.take cs.length ++ vs := by
       rw [List.length_append, hol, hyl]
       show (c0.toList.take (len * i.size) ++ vs ++ c0.toList.drop (len * i.size + vs.length)).take (len * i.size + n * i.size) = _
       rw [List.take_left']
       rw [hol] at hovl
       simp only [List.length_append, hovl, hvl]
      obtain ⟨hs2, hE2⟩ := grow_box (cs' := cs ++ ys) hs h2 hk0 ht hg a1 k1 hnewsz (by rw [htk]; exact a2.append hvs) (by rw [List.all_append, a3, h6]; rfl) k2 (below_setCells (hs.blk b ht).1 vs _ w hs.below) k3
      refine ok_value (v := .slice (some ⟨M.blk b, 0, none⟩) (len + n) (M.cap b)) (exec_append hop hc (by rw [hargs', ex]; exact hrun)) ?_ hs2 hE2
      unfold VR
      exact ⟨by simp [St.new, St.put], by simp only [Mp.add, if_true]; exact hroomy, by simp only [Mp.add, if_true]⟩
     ·-- a new row
      have hk := sim_kill hs b ht
      have := fresh (some ⟨M.blk b, 0, none⟩) len (M.cap b) cs (c0.toList.take cs.length) (s.put b .dead) ex hk (ext_kill b (Nat.lt_of_lt_of_le ht hs.bound)) (by simpa [St.room, St.put] using h2) a2 a3 hol
       (run_firstCells_some (P := P) w.drew i.size len ⟨M.blk b, 0, none⟩ len (M.cap b) _ hovl fun j q hq => by rw [add_eq]; exact hat j q hq) (by omega) h1 h6 h7 h8
      exact this
   ·cases h
  ·cases h

theorem s_appendX {o : Oper} {a : Act} {T : Tm} {c : Go.Call} {t0 t1 e : TypeId} {d : TypeDesc} {mu : Bool} {x y : AV} {ox oy : Operand} {r : AV} {s' : St} (hs : Sim G B0 w0 w s M) (hT : TmR w s M T a) (hop : o.op = .call c) (hc : c.callee = .builtin .append)
  (hA0 : c.argTypes[0]? = some t0) (hA1 : c.argTypes[1]? = some t1) (ht0 : P.underlying t0 = some (.slice e)) (ht1 : P.underlying t1 = some d) (hd : ∀ k, d ≠ .int k)
  (hargs : c.args = #[ox, oy]) (hx : opd G T ox = some x) (hy : opd G T oy = some y) (h : appendX P mu e s x y = some (r, s')) : OpOk P G B0 w0 w s M o a r s' := by
 have k1 : appendM P e s x y = some (r, s') -> OpOk P G B0 w0 w s M o a r s' := s_appendM hs hT hop hc hA0 hA1 ht0 ht1 hd hargs hx hy
 have k2 : appendA P e s x y = some (r, s') -> OpOk P G B0 w0 w s M o a r s' := s_append hs hT hop hc hA0 hA1 ht0 ht1 hd hargs hx hy
 unfold appendX at h
 split at h
 ·exact k1 h
 ·split at h
  ·exact k1 h
  ·exact k2 h
 ·split at h
  ·exact k1 h
  ·exact k2 h
 ·exact k2 h
end
end Go.Ab
/- The evaluator's operations against the model's, continued: what is made, conversions, lengths, slices, maps. -/
namespace Go.Ab
open Go Go.RowKit

section
variable [Interp] {P : Program} {G : Nat -> Option (List AV)} {B0 : Nat} {w0 w : World} {s : St} {M : Mp}

theorem VRl_rep {z : List AV} {zv : List Value} (h : VRl w s M z zv) : ∀ n, VRl w s M (rep z n) ((List.replicate n zv).flatten)
 | 0 => VRl_nil
 | n + 1 => by rw [List.replicate_succ, List.flatten_cons]; exact h.append (VRl_rep h n)
theorem length_rep (z : List AV) : ∀ n, (rep z n).length = n * z.length
 | 0 => by simp [rep]
 | n + 1 => by simp only [rep, List.length_append, length_rep z n]; rw [Nat.add_mul]; omega
theorem all_rep {z : List AV} (h : z.all isCell = true) : ∀ n, (rep z n).all isCell = true
 | 0 => rfl
 | n + 1 => by rw [rep, List.all_append, h, all_rep h n]; rfl
theorem getElem?_flatten_replicate {α : Type} (z : List α) : ∀ (n i : Nat), i < n * z.length -> (List.replicate n z).flatten[i]? = z[i % z.length]?
 | 0, i, h => by simp at h
 | n + 1, i, h => by
  rw [List.replicate_succ, List.flatten_cons]
  by_cases hi : i < z.length
  ·rw [List.getElem?_append_left hi, Nat.mod_eq_of_lt hi]
  ·rw [List.getElem?_append_right (by omega), getElem?_flatten_replicate z n (i - z.length) (by rw [Nat.add_mul, Nat.one_mul] at h; omega), <- Nat.mod_eq_sub_mod (by omega)]
theorem cyc_eq (z : Array Value) (n : Nat) : ((Array.range (n * z.size)).map fun i => z[i % z.size]!) = ((List.replicate n z.toList).flatten).toArray := by
 apply Array.toList_inj.1
 apply List.ext_getElem?
 intro i
 simp only [Array.toList_map, Array.toList_range, List.getElem?_map]
 by_cases h : i < n * z.size
 ·have hz : 0 < z.size := by
   rcases Nat.eq_zero_or_pos z.size with e | e
   ·rw [e] at h; simp at h
   ·exact e
  rw [List.getElem?_range h, getElem?_flatten_replicate _ _ _ (by simpa using h)]
  simp only [Option.map_some, Array.length_toList, Array.getElem?_toList]
  have hm := Nat.mod_lt i hz
  rw [Array.getElem?_eq_getElem hm, getElem!_pos z _ hm]
 ·rw [List.getElem?_eq_none (by simp; omega), List.getElem?_eq_none (by simp; omega)]
  rfl

theorem run_makeSlice' {t e : TypeId} {i : TypeInfo} {z : Value} (ht : P.underlying t = some (.slice e)) (hi : P.info? e = some i) (hz : i.zero = some z) (hzs : z.cells.size = i.size) {kl kc : IntKind} {l c : Int} (h0 : 0 <= l) (hlc : l <= c)
  (hbytes : i.bytes * c.toNat <= 2 ^ 40) (h63 : c.toNat <= 2 ^ 40) :
  (Instr.makeSlice t (.int kl l) (.int kc c)).run P w = .ok (.slice (some ⟨w.heap.size, 0, none⟩) l.toNat c.toNat) (w.alloc (.cells ((List.replicate c.toNat z.cells.toList).flatten).toArray e)) := by
 have hb : (i.bytes : Int) * c <= 281474976710656 := by
  have h1 : ((i.bytes * c.toNat : Nat) : Int) <= ((2 ^ 40 : Nat) : Int) := by exact_mod_cast hbytes
  have h2 : ((c.toNat : Nat) : Int) = c := by omega
  rw [Int.natCast_mul, h2] at h1
  have : ((2 ^ 40 : Nat) : Int) = 1099511627776 := by decide
  omega
 have hc : c <= 9223372036854775807 := by
  have : (2 ^ 40 : Nat) = 1099511627776 := by decide
  omega
 rw [run_make w t e i z ht hi hz kl kc l c h0 hlc hb hc]
 congr 2
 unfold madeCells
 by_cases hn : c.toNat * i.size = 0
 ·simp only [hn]
  rw [Nat.mul_eq_zero] at hn
  rcases hn with hn | hn
  ·rw [hn]; simp
  ·have : z.cells = #[] := Array.eq_empty_of_size_eq_zero (by rw [hzs, hn])
   rw [this]; simp
 ·rw [<- hzs, cyc_eq]

theorem info_of {t : TypeId} {size bytes : Nat} {zc : List AV} (h1 : sizeT P t = some size) (h2 : bytesT P t = some bytes) (h3 : zeroCellsT P t = some zc) (h4 : zc.length = size) :
  ∃ i z, P.info? t = some i /\ i.zero = some z /\ i.size = size /\ i.bytes = bytes /\ scAll z.cells.toList = some zc /\ z.cells.size = i.size := by
 obtain ⟨zv, hz1, hz2⟩ := zeroCells_some h3
 unfold sizeT at h1; unfold bytesT at h2; unfold zeroT at hz1
 rw [Option.map_eq_some_iff] at h1 h2
 rw [Option.bind_eq_some_iff] at hz1
 obtain ⟨i, hi, rfl⟩ := h1
 obtain ⟨i', hi', rfl⟩ := h2
 obtain ⟨i'', hi'', hzv⟩ := hz1
 rw [hi] at hi' hi''; cases hi'; cases hi''
 refine ⟨i, zv, hi, hzv, rfl, rfl, hz2, ?_⟩
 have := (VRl_scAll (w := default) (s := none0) (M := ⟨id, id, fun _ => .nil, fun _ _ => False⟩) hz2).length
 rw [h4] at this; simp at this; exact this.symm

theorem s_make_full {o : Oper} {a : Act} {T : Tm} {t e : TypeId} {ol oc : Operand} {cl cc : AV} {l size bytes : Nat} {z : List AV} (hs : Sim G B0 w0 w s M) (hT : TmR w s M T a) (hop : o.op = .makeSlice t ol oc) (ht : P.underlying t = some (.slice e))
  (h1 : sizeT P e = some size) (h2 : bytesT P e = some bytes) (h3 : zeroCellsT P e = some z) (h4 : z.length = size) (hl : opd G T ol = some cl) (hc : opd G T oc = some cc) (hln : asNat cl = some l) (hcn : asNat cc = some l) (hr : s.room = true)
  (hb : bytes * l <= 2 ^ 40) (h63 : l <= 2 ^ 40) : OpOk P G B0 w0 w s M o a (.ms s.n 0 l) (s.new (.box (rep z l) 0)) := by
 obtain ⟨i, zv, hi, hzv, rfl, rfl, hz2, hzs⟩ := info_of h1 h2 h3 h4
 obtain ⟨kl, jl, rfl, hl0, hl1⟩ := asNat_some hln
 obtain ⟨kc, jc, rfl, hc0, hc1⟩ := asNat_some hcn
 have el := (VR_v.1 (opd_sound hs hT hl)).1
 have ec := (VR_v.1 (opd_sound hs hT hc)).1
 have hrun := run_makeSlice' (w := w) ht hi hzv hzs (kl := kl) (kc := kc) hl0 (by omega : jl <= jc) (by rw [hc1]; exact hb) (by rw [hc1]; exact h63)
 rw [hc1, hl1] at hrun
 have hv := VRl_rep (VRl_scAll (w := w) (s := s) (M := M) hz2) l
 obtain ⟨hs', hE⟩ := new_box hs hr (vs := ((List.replicate l zv.cells.toList).flatten).toArray) e hv (all_rep (scAll_cells hz2) l)
 refine ok_value (v := .slice (some ⟨w.heap.size, 0, none⟩) l l) (by simp [execOp, hop, el, ec, hrun]) ?_ hs' hE
 unfold VR
 exact ⟨by simp [St.new], l, Nat.le_refl _, by simp [Mp.add]⟩
theorem s_make_none {o : Oper} {a : Act} {T : Tm} {t e : TypeId} {ol oc : Operand} {cl cc : AV} {c size bytes : Nat} {z : List AV} (hs : Sim G B0 w0 w s M) (hT : TmR w s M T a) (hop : o.op = .makeSlice t ol oc) (ht : P.underlying t = some (.slice e))
  (h1 : sizeT P e = some size) (h2 : bytesT P e = some bytes) (h3 : zeroCellsT P e = some z) (h4 : z.length = size) (hl : opd G T ol = some cl) (hc : opd G T oc = some cc) (hln : asNat cl = some 0) (hcn : asNat cc = some c) (hr : s.room = true)
  (hb : bytes * c <= 2 ^ 40) (h63 : c <= 2 ^ 40) : OpOk P G B0 w0 w s M o a (.sl [] 0 (some s.n)) (s.new (.row (.c 0) size)) := by
 obtain ⟨i, zv, hi, hzv, rfl, rfl, hz2, hzs⟩ := info_of h1 h2 h3 h4
 obtain ⟨kl, jl, rfl, hl0, hl1⟩ := asNat_some hln
 obtain ⟨kc, jc, rfl, hc0, hc1⟩ := asNat_some hcn
 have el := (VR_v.1 (opd_sound hs hT hl)).1
 have ec := (VR_v.1 (opd_sound hs hT hc)).1
 have hrun := run_makeSlice' (w := w) ht hi hzv hzs (kl := kl) (kc := kc) hl0 (by omega : jl <= jc) (by rw [hc1]; exact hb) (by rw [hc1]; exact h63)
 rw [hc1, hl1] at hrun
 obtain ⟨hs', hE⟩ := new_row hs hr (vs := ((List.replicate c zv.cells.toList).flatten).toArray) e (0, 0) (.c 0) i.size c (by simp [hzs]) (Nat.zero_le _) (.inl rfl)
 refine ok_value (v := .slice (some ⟨w.heap.size, 0, none⟩) 0 c) (by simp [execOp, hop, el, ec, hrun]) ?_ hs' hE
 unfold VR
 refine ⟨w.heap.size, 0, c, rfl, Nat.zero_le _, VRs_nil, fun t' ht' => ?_⟩
 cases ht'
 exact ⟨by simp [St.new], fun tip e' _ => by simp [Mp.add]⟩

theorem s_makeMap {o : Oper} {a : Act} {t : TypeId} (hs : Sim G B0 w0 w s M) (hop : o.op = .makeMap t none) (hr : s.room = true) : OpOk P G B0 w0 w s M o a (.mp s.n) (s.new (.map [])) := by
 have hE := ext_new (w := w) (M := M) (room_lt hr) (fun i hi => (hs.blk i hi).2) (.map #[] 0) (.map []) 0
 refine ok_value (v := .map (some w.heap.size)) (by simp [execOp, hop, Instr.makeMap]) ?_ (sim_new hs (room_lt hr) (.map #[] 0) (.map []) 0 ⟨#[], 0, heap_new _ _, rfl⟩) hE
 unfold VR; simp [St.new, Mp.add]

theorem s_str_bytes {o : Oper} {a : Act} {T : Tm} {src dst e : TypeId} {x : Operand} {b : ByteArray} (hs : Sim G B0 w0 w s M) (hT : TmR w s M T a) (hop : o.op = .convert src dst x) (h1 : P.underlying src = some .string) (h2 : P.underlying dst = some (.slice e))
  (h3 : P.underlying e = some (.int .u8)) (hx : opd G T x = some (.v (.string b))) (hr : s.room = true) :
  OpOk P G B0 w0 w s M o a (.sl (b.data.toList.map fun c => .v (.int .u8 c.toNat)) b.size (some s.n)) (s.new (.row (.c b.size) 1)) := by
 have ex := (VR_v.1 (opd_sound hs hT hx)).1
 let cap := (Question.appendCap b.size 0 e).cut (w.tape w.drawn (.appendCap b.size 0 e))
 have hcap : b.size <= cap := by simp [cap, Question.cut]
 let cells : Array Value := (b.data.map fun b => .int .u8 b.toNat) ++ Array.replicate (cap - b.size) (.int .u8 0)
 have hsz : cells.size = cap := by simp only [cells, Array.size_append, Array.size_map, Array.size_replicate]; show b.size + (cap - b.size) = cap; omega
 have hfr : ∀ W : World, ({ W.alloc (.cells cells e) with } : World) = W.alloc (.cells cells e) := fun _ => rfl
 have hmark : (markStringish ⟨w.drew.heap.size, 0, none⟩).run P (w.drew.alloc (.cells cells e)) = .ok () (w.drew.alloc (.cells cells e (cells.size, cells.size + 1))) := by
  have hsh : (w.drew.alloc (.cells cells e)).shape? w.drew.heap.size = some (e, cells.size) := by unfold World.shape?; rw [heap_new]
  unfold markStringish
  simp only [Sem.run_bind, run_shape, Result.andThen_ok, hsh, run_freeze]
  congr 1
  unfold World.freeze
  rw [if_neg (by decide)]
  show ({ w.drew.alloc (.cells cells e) with heap := (w.drew.heap.push (.cells cells e)).modify w.drew.heap.size _ } : World) = { w.drew with heap := w.drew.heap.push (.cells cells e (cells.size, cells.size + 1)) }
  have hm : ∀ (a : Array Obj) (x : Obj) (f : Obj -> Obj), (a.push x).modify a.size f = a.push (f x) := by
   intro a x f
   apply Array.ext
   ·simp
   ·intro i h1 h2
    simp only [Array.getElem_modify, Array.getElem_push]
    by_cases h : a.size = i
    ·subst h; simp
    ·have hi : i < a.size := by simp at h1; omega
     simp [h, hi]
  rw [hm]
  rfl
 have hrun : (execOp a.eval o).run P w = .ok (.value (.slice (some ⟨w.heap.size, 0, none⟩) b.size cap)) (w.drew.alloc (.cells cells e (cells.size, cells.size + 1))) := by
  have hm' := hmark
  simp only [World.size_drew] at hm'
  simp only [execOp, hop, convert, ex, Sem.run_bind, run_underlying h1, run_underlying h2, run_underlying h3, Result.andThen_ok, Conv.stringToBytes, run_choose, Question.forced, Bool.false_eq_true, if_false, newRow, run_newObj, World.alloc_eq, World.drew_eq, Sem.run_pure]
  show Result.andThen (Result.andThen ((markStringish ⟨w.drew.heap.size, 0, none⟩).run P (w.drew.alloc (.cells cells e))) _) _ = _
  rw [hmark]
  rfl
 have hs1 := sim_drew hs
 obtain ⟨hs2, hE2⟩ := new_row hs1 hr (vs := cells) e (cells.size, cells.size + 1) (.c b.size) 1 cap (by rw [hsz, Nat.mul_one]) (by rw [hsz]; exact hcap) (.inr (Nat.le_refl _))
 refine ok_value hrun ?_ hs2 (ext_drew.trans hE2)
 have hgn : (s.new (.row (.c b.size) 1)).get s.n = some (.row (.c b.size) 1) := by rw [St.get_new _ _ _ (room_lt hr)]; exact if_pos rfl
 have hbn : (M.add s.n w.drew.heap.size cap).blk s.n = w.heap.size := by simp [Mp.add]
 have hlt : s.n < (s.new (.row (.c b.size) 1)).n := by simp [St.new]
 unfold VR
 refine ⟨w.heap.size, 0, cap, rfl, hcap, ?_, fun t' ht' => ?_⟩
 ·have := VRs_row hs2 hlt hgn (c := cells) (e := e) (fr := (cells.size, cells.size + 1)) (by rw [hbn]; exact heap_new w.drew _) (cs := b.data.toList.map fun c => .v (.int .u8 c.toNat))
   (by
    have e1 : cells.toList.take (b.data.toList.map fun c => AV.v (.int .u8 c.toNat)).length = b.data.toList.map fun c => Value.int .u8 c.toNat := by
     simp only [cells, Array.toList_append, Array.toList_map, List.length_map]
     rw [List.take_left']
     simp
    rw [e1]
    refine VRl.of_get (by simp) fun i c v h1 h2 => ?_
    simp only [List.getElem?_map, Option.map_eq_some_iff] at h1 h2
    obtain ⟨b1, hb1, rfl⟩ := h1
    obtain ⟨b2, hb2, rfl⟩ := h2
    rw [hb1] at hb2; cases hb2
    exact VR_v_of rfl)
   (by simp [Tip.val]) (by rw [List.all_eq_true]; intro q hq; rw [List.mem_map] at hq; obtain ⟨_, _, rfl⟩ := hq; rfl)
  rw [hbn] at this; exact this
 ·cases ht'
  exact ⟨hlt, fun tip e' _ => by simp [Mp.add]⟩

theorem bytesGo : ∀ {cs : List AV} {acc b : ByteArray} {vs : List Value}, bytesOfCells.go cs acc = some b -> VRl w s M cs vs -> ∃ ns : List Int, vs = ns.map (Value.int .u8) /\ b = ns.foldl (fun r n => r.push (UInt8.ofNat n.toNat)) acc
 | [], acc, b, vs, h, k => by
  simp only [bytesOfCells.go, Option.some.injEq] at h
  unfold VRl at k; subst k h
  exact ⟨[], rfl, rfl⟩
 | c :: r, acc, b, vs, h, k => by
  unfold VRl at k; obtain ⟨v, t, rfl, k1, k2⟩ := k
  unfold bytesOfCells.go at h
  split at h
  ·cases ‹_ :: _ = []›
  ·rename_i acc' n r' e
   cases e
   obtain ⟨rfl, _⟩ := VR_v.1 k1
   obtain ⟨ns, rfl, rfl⟩ := bytesGo h k2
   exact ⟨n :: ns, rfl, rfl⟩
  ·cases h
theorem bytesOf {cs : List AV} {b : ByteArray} {vs : List Value} (h : bytesOfCells cs = some b) (k : VRl w s M cs vs) : ∃ ns : List Int, vs = ns.map (Value.int .u8) /\ b = ns.foldl (fun r n => r.push (UInt8.ofNat n.toNat)) .empty := by
 unfold bytesOfCells at h
 split at h
 ·cases h; unfold VRl at k; subst k; exact ⟨[], rfl, rfl⟩
 ·exact bytesGo h k

theorem s_bytes_str {o : Oper} {a : Act} {T : Tm} {src dst e : TypeId} {x : Operand} {c : AV} {cs : List AV} {n : Nat} {b : ByteArray} (hs : Sim G B0 w0 w s M) (hT : TmR w s M T a) (hop : o.op = .convert src dst x) (h1 : P.underlying src = some (.slice e))
  (h2 : P.underlying dst = some .string) (h3 : P.underlying e = some (.int .u8)) (hx : opd G T x = some c) (hc : (∃ cs len tok, c = .sl cs len tok) \/ (∃ b off len, c = .ms b off len) \/ ∃ b len, c = .mg b len) (hh : heldBy s 1 c = some (cs, n)) (hb : bytesOfCells cs = some b) :
  OpOk P G B0 w0 w s M o a (.v (.string b)) s := by
 have vx := opd_sound hs hT hx
 have hl : cs.length = n * 1 := by
  rcases hc with ⟨cs', len, tok, rfl⟩ | ⟨b', off, len, rfl⟩ | ⟨b', len, rfl⟩
  ·simp only [heldBy] at hh
   split at hh
   ·rename_i hle; simp only [Option.some.injEq, Prod.mk.injEq] at hh; obtain ⟨rfl, rfl⟩ := hh
    have := Nat.le_of_ble_eq_true hle; rw [List.length_take]; omega
   ·cases hh
  ·simp only [heldBy] at hh
   split at hh
   ·split at hh
    ·rename_i hle; simp only [Option.some.injEq, Prod.mk.injEq] at hh; obtain ⟨rfl, rfl⟩ := hh
     have := Nat.le_of_ble_eq_true hle; rw [List.length_take, List.length_drop]; omega
    ·cases hh
   ·cases hh
  ·simp only [heldBy] at hh
   split at hh
   ·split at hh
    ·rename_i hle; simp only [Option.some.injEq, Prod.mk.injEq] at hh; obtain ⟨rfl, rfl⟩ := hh
     have := Nat.le_of_ble_eq_true hle; rw [List.length_take]; omega
    ·cases hh
   ·cases hh
 obtain ⟨vs, hvs, hlen, hf, _⟩ := heldBy_sound (P := P) hs hh vx hl
 obtain ⟨ns, rfl, rfl⟩ := bytesOf hb hvs
 have key : ∃ b off cap, a.eval x = .slice (some ⟨b, off, none⟩) n cap := by
  rcases hc with ⟨cs', len, tok, rfl⟩ | ⟨b', off, len, rfl⟩ | ⟨b', len, rfl⟩
  ·unfold VR at vx; obtain ⟨b, off, cap, e1, _⟩ := vx
   have := hlen w; rw [e1] at this; simp [Builtin.lenOf] at this; subst this
   exact ⟨b, off, cap, e1⟩
  ·unfold VR at vx; obtain ⟨_, cap, _, e1⟩ := vx
   have := hlen w; rw [e1] at this; simp [Builtin.lenOf] at this; subst this
   exact ⟨_, off, cap, e1⟩
  ·unfold VR at vx; obtain ⟨_, _, e1⟩ := vx
   have := hlen w; rw [e1] at this; simp [Builtin.lenOf] at this; subst this
   exact ⟨_, 0, _, e1⟩
 obtain ⟨b, off, cap, e1⟩ := key
 rw [e1] at hf
 simp only [Builtin.firstCells, Nat.mul_one] at hf
 refine ok_here hs (v := .string _) ?_ (VR_v_of rfl)
 simp only [execOp, hop, Sem.run_bind, e1, run_convert_bytes_string w src dst e _ _ _ h1 h3 h2, run_bytesToString w _ n cap ns hf, Result.andThen_ok, Sem.run_pure]

theorem s_nil_str {o : Oper} {a : Act} {T : Tm} {src dst e : TypeId} {x : Operand} {c : AV} (hs : Sim G B0 w0 w s M) (hT : TmR w s M T a) (hop : o.op = .convert src dst x) (h1 : P.underlying src = some (.slice e))
  (h2 : P.underlying dst = some .string) (h3 : P.underlying e = some (.int .u8)) (hx : opd G T x = some c) (hc : (∃ l k, c = .v (.slice none l k)) \/ c = .e0) : OpOk P G B0 w0 w s M o a (.v (.string .empty)) s := by
 have vx := opd_sound hs hT hx
 refine ok_here hs (v := .string .empty) ?_ (VR_v_of rfl)
 rcases hc with ⟨l, k, rfl⟩ | rfl
 ·have e1 := (VR_v.1 vx).1
  simp only [execOp, hop, Sem.run_bind, e1, run_convert_bytes_string w src dst e _ _ _ h1 h3 h2]
  simp [Conv.bytesToString]
 ·unfold VR at vx; obtain ⟨b, off, e1⟩ := vx
  have := run_bytesToString (P := P) w ⟨b, off, none⟩ 0 0 [] (by simp [loadCells, loadCellsFrom])
  simp only [execOp, hop, Sem.run_bind, e1, run_convert_bytes_string w src dst e _ _ _ h1 h3 h2, this, Result.andThen_ok, Sem.run_pure]
  rfl
end
end Go.Ab
