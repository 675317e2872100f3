/- Plain data, expressions over it, and what they stand for. -/
import Derived.Calls
import Derived.Laws.Sem
namespace Go.Ab
set_option linter.unusedVariables false
set_option linter.unusedSimpArgs false
set_option linter.unusedSectionVars false
set_option linter.constructorNameAsVariable false
open Go

/-- Plain data: a scalar, no slice, a slice of rows, a row of cells (a struct, flattened; an element). -/
inductive D where
  | v (x : Value)
  | nil
  | lst (rows : List D)
  | row (cells : List D)
instance : Inhabited D := ⟨.nil⟩

/-- What scalars there are. -/
inductive Ty where
  | i (k : IntKind)
  | b
  | s
  deriving DecidableEq
/-- A cell's shape: a scalar, or a slice of rows of a kind. -/
inductive CT where
  | sc (t : Ty)
  | sl (t : Nat)
  deriving DecidableEq
def tyV : Ty → Value → Bool
  | .i k, .int k' _ => k == k'
  | .b, .bool _ => true
  | .s, .string _ => true
  | _, _ => false

/-- What is known of any program: the operations of expressions. -/
inductive Prim where
  | iop (op : BinOp) (k : IntKind)
  | icmp (op : BinOp)
  | scmp (op : BinOp)
  | bcmp (op : BinOp)
  | not
  | neg (k : IntKind)
  | conv (k : IntKind)
  | slen
  | sat
  | ssub
  | scat
  | len
  | at
  | cell (j : Nat)
  | row
  | lst
  | snoc
  | cat
  | sub
  | ite
  | and
  | mhas
  | mget
  | mset
  | upd
  | sofb
  deriving DecidableEq
inductive E where
  | var (i : Nat)
  | lit (x : Value)
  | nil
  | pr (p : Prim) (args : List E)
  | app (g : Nat) (args : List E)
instance : Inhabited E := ⟨.nil⟩

/-- What the functions and loops of a program come to: their contracts. -/
class Interp where
  phi : Nat → List D → D

namespace D
def rows : D → List D
  | .lst r => r
  | _ => []
def cells : D → List D
  | .row c => c
  | _ => []
def val : D → Value
  | .v x => x
  | _ => .tuple #[]
def int : D → Int
  | .v (.int _ i) => i
  | _ => 0
def bool : D → Bool
  | .v (.bool b) => b
  | _ => false
def str : D → ByteArray
  | .v (.string s) => s
  | _ => .empty
def ofBool (b : Bool) : D := .v (.bool b)
def ofInt (k : IntKind) (i : Int) : D := .v (.int k i)
def ofStr (s : ByteArray) : D := .v (.string s)
end D

/-! Tables: rows of a key and what it stands for. -/
def dkeyIs : D → D → Bool
  | .v (.int k a), .v (.int l b) => decide (k = l) && decide (a = b)
  | .v (.string a), .v (.string b) => decide (a = b)
  | _, _ => false
def mfind (k : D) : List D → Option D
  | [] => none
  | .row [x, v] :: r => bif dkeyIs k x then some v else mfind k r
  | _ :: r => mfind k r
def mput (k v : D) : List D → List D
  | [] => [.row [k, v]]
  | .row [x, u] :: r => bif dkeyIs k x then .row [k, v] :: r else .row [x, u] :: mput k v r
  | d :: r => d :: mput k v r
def cmpI : BinOp → Int → Int → Bool
  | .eql, a, b => a == b
  | .neq, a, b => a != b
  | .lss, a, b => decide (a < b)
  | .leq, a, b => decide (a ≤ b)
  | .gtr, a, b => decide (a > b)
  | .geq, a, b => decide (a ≥ b)
  | _, _, _ => false
def isCmp : BinOp → Bool
  | .eql | .neq | .lss | .leq | .gtr | .geq => true
  | _ => false
def cmpS : BinOp → ByteArray → ByteArray → Bool
  | .eql, a, b => a.toList == b.toList
  | .neq, a, b => !(a.toList == b.toList)
  | .lss, a, b => Op.bytesLess a.toList b.toList
  | .leq, a, b => Op.bytesLess a.toList b.toList || a.toList == b.toList
  | .gtr, a, b => !(Op.bytesLess a.toList b.toList || a.toList == b.toList)
  | .geq, a, b => !(Op.bytesLess a.toList b.toList)
  | _, _, _ => false
def iopV (op : BinOp) (k : IntKind) (x y : Int) : Int :=
  match op with
  | .add => k.wrap (x + y)
  | .sub => k.wrap (x - y)
  | .mul => k.wrap (x * y)
  | .quo => k.wrap (x.tdiv y)
  | .rem => x.tmod y
  | .and => k.wrap (BitVec.ofInt k.bits x &&& BitVec.ofInt k.bits y).toNat
  | .or => k.wrap (BitVec.ofInt k.bits x ||| BitVec.ofInt k.bits y).toNat
  | .xor => k.wrap (BitVec.ofInt k.bits x ^^^ BitVec.ofInt k.bits y).toNat
  | .andNot => k.wrap (BitVec.ofInt k.bits x &&& ~~~BitVec.ofInt k.bits y).toNat
  | .shl => k.wrap (x * 2 ^ (min y.toNat k.bits))
  | .shr => x.fdiv (2 ^ (min y.toNat k.bits))
  | _ => 0
def Prim.den : Prim → List D → D
  | .iop op k, [a, b] => .ofInt k (iopV op k a.int b.int)
  | .icmp op, [a, b] => .ofBool (cmpI op a.int b.int)
  | .scmp op, [a, b] => .ofBool (cmpS op a.str b.str)
  | .bcmp .eql, [a, b] => .ofBool (a.bool == b.bool)
  | .bcmp _, [a, b] => .ofBool (a.bool != b.bool)
  | .not, [a] => .ofBool (!a.bool)
  | .neg k, [a] => .ofInt k (k.wrap (-a.int))
  | .conv k, [a] => .ofInt k (k.wrap a.int)
  | .slen, [a] => .ofInt .i64 a.str.size
  | .sat, [a, i] => .ofInt .u8 ((a.str.data.toList.getD i.int.toNat 0).toNat)
  | .ssub, [a, lo, hi] => .ofStr (a.str.extract lo.int.toNat hi.int.toNat)
  | .scat, [a, b] => .ofStr (a.str ++ b.str)
  | .len, [a] => .ofInt .i64 a.rows.length
  | .at, [a, i] => a.rows.getD i.int.toNat (.row [])
  | .cell j, [a] => a.cells.getD j .nil
  | .row, l => .row l
  | .lst, l => .lst l
  | .snoc, [a, x] => .lst (a.rows ++ [x])
  | .cat, [a, b] => .lst (a.rows ++ b.rows)
  | .sub, [a, lo, hi] => .lst ((a.rows.take hi.int.toNat).drop lo.int.toNat)
  | .ite, [c, a, b] => if c.bool then a else b
  | .and, l => .ofBool (l.all D.bool)
  | .mhas, [m, k] => .ofBool (mfind k m.rows).isSome
  | .mget, [m, k, z] => (mfind k m.rows).getD z
  | .mset, [m, k, v] => .lst (mput k v m.rows)
  | .upd, [l, i, x] => .lst (l.rows.set i.int.toNat x)
  | .sofb, l => .ofStr (l.foldl (fun r d => r.push (UInt8.ofNat d.int.toNat)) .empty)
  | _, _ => .nil
section
variable [Interp]
mutual
def E.den (env : Nat → D) : E → D
  | .var i => env i
  | .lit x => .v x
  | .nil => .nil
  | .pr p l => p.den (E.denL env l)
  | .app g l => Interp.phi g (E.denL env l)
def E.denL (env : Nat → D) : List E → List D
  | [] => []
  | e :: r => e.den env :: E.denL env r
end
end

/-! ### Expressions held against each other -/
def scEq : Value → Value → Bool
  | .bool a, .bool b => a == b
  | .int k a, .int l b => decide (k = l) && decide (a = b)
  | .string a, .string b => decide (a = b)
  | _, _ => false
mutual
def eEq : E → E → Bool
  | .var i, .var j => Nat.beq i j
  | .lit x, .lit y => scEq x y
  | .nil, .nil => true
  | .pr p l, .pr q m => decide (p = q) && eEqL l m
  | .app g l, .app h m => Nat.beq g h && eEqL l m
  | _, _ => false
def eEqL : List E → List E → Bool
  | [], [] => true
  | a :: r, b :: t => eEq a b && eEqL r t
  | _, _ => false
end
theorem scEq_eq {a b : Value} (h : scEq a b = true) : a = b := by
  unfold scEq at h
  split at h
  · rw [beq_iff_eq] at h; rw [h]
  · rw [Bool.and_eq_true, decide_eq_true_eq, decide_eq_true_eq] at h; rw [h.1, h.2]
  · rw [decide_eq_true_eq] at h; rw [h]
  · cases h
mutual
theorem eEq_eq : ∀ {a b : E}, eEq a b = true → a = b
  | .var i, .var j, h => by unfold eEq at h; rw [Nat.eq_of_beq_eq_true h]
  | .lit x, .lit y, h => by unfold eEq at h; rw [scEq_eq h]
  | .nil, .nil, _ => rfl
  | .pr p l, .pr q m, h => by
    unfold eEq at h
    rw [Bool.and_eq_true, decide_eq_true_eq] at h
    rw [h.1, eEqL_eq h.2]
  | .app g l, .app k m, h => by
    unfold eEq at h
    rw [Bool.and_eq_true] at h
    rw [Nat.eq_of_beq_eq_true h.1, eEqL_eq h.2]
  | .var _, .lit _, h | .var _, .nil, h | .var _, .pr _ _, h | .var _, .app _ _, h | .lit _, .var _, h | .lit _, .nil, h | .lit _, .pr _ _, h | .lit _, .app _ _, h | .nil, .var _, h | .nil, .lit _, h | .nil, .pr _ _, h | .nil, .app _ _, h
  | .pr _ _, .var _, h | .pr _ _, .lit _, h | .pr _ _, .nil, h | .pr _ _, .app _ _, h | .app _ _, .var _, h | .app _ _, .lit _, h | .app _ _, .nil, h | .app _ _, .pr _ _, h => by unfold eEq at h; cases h
theorem eEqL_eq : ∀ {a b : List E}, eEqL a b = true → a = b
  | [], [], _ => rfl
  | a :: r, b :: t, h => by
    unfold eEqL at h
    rw [Bool.and_eq_true] at h
    rw [eEq_eq h.1, eEqL_eq h.2]
  | [], _ :: _, h => by unfold eEqL at h; cases h
  | _ :: _, [], h => by unfold eEqL at h; cases h
end
def hasE (e : E) : List E → Bool
  | [] => false
  | f :: r => eEq e f || hasE e r
theorem hasE_mem {e : E} : ∀ {l : List E}, hasE e l = true → e ∈ l
  | [], h => by cases h
  | f :: r, h => by
    unfold hasE at h
    rw [Bool.or_eq_true] at h
    rcases h with h | h
    · rw [eEq_eq h]; simp
    · exact List.mem_cons_of_mem _ (hasE_mem h)

/-! ### Plain data in memory -/
section
variable (C : Nat → Nat → Option Value) (I : Nat → Nat → Prop)
def okScalar : Value → Prop
  | .bool _ | .int _ _ | .string _ => True
  | _ => False
mutual
/-- What a value holds. -/
def DV : D → Value → Prop
  | .v x, y => y = x ∧ okScalar x
  | .nil, _ => False
  | .lst rows, y => (rows = [] ∧ ∃ a cap, y = .slice a 0 cap) ∨ ∃ b off cap, y = .slice (some ⟨b, off, none⟩) rows.length cap ∧ rows.length ≤ cap ∧ DVr rows b off
  | .row _, _ => False
/-- Rows, one behind the other. -/
def DVr : List D → Nat → Nat → Prop
  | [], _, _ => True
  | d :: r, b, off => DVw d b off ∧ DVr r b (off + d.cells.length)
def DVw : D → Nat → Nat → Prop
  | .row cs, b, off => DVs cs b off
  | .v _, _, _ | .nil, _, _ | .lst _, _, _ => False
def DVs : List D → Nat → Nat → Prop
  | [], _, _ => True
  | d :: r, b, off => (∃ v, C b off = some v ∧ DV d v) ∧ I b off ∧ DVs r b (off + 1)
end
end
section
variable {C C' : Nat → Nat → Option Value} {I I' : Nat → Nat → Prop} (h : ∀ b off v, C b off = some v → I b off → C' b off = some v ∧ I' b off)
include h
mutual
theorem DV.mono : ∀ {d : D} {y : Value}, DV C I d y → DV C' I' d y
  | .v x, y, k => by unfold DV at k ⊢; exact k
  | .nil, y, k => by unfold DV at k; exact k.elim
  | .lst rows, y, k => by
    unfold DV at k ⊢
    rcases k with k | ⟨b, off, cap, e, hl, k⟩
    · exact .inl k
    · exact .inr ⟨b, off, cap, e, hl, DVr.mono k⟩
  | .row _, _, k => by unfold DV at k; exact k.elim
theorem DVr.mono : ∀ {l : List D} {b off : Nat}, DVr C I l b off → DVr C' I' l b off
  | [], _, _, _ => by unfold DVr; trivial
  | d :: r, _, _, k => by
    unfold DVr at k ⊢
    exact ⟨DVw.mono k.1, DVr.mono k.2⟩
theorem DVw.mono : ∀ {d : D} {b off : Nat}, DVw C I d b off → DVw C' I' d b off
  | .row cs, _, _, k => by unfold DVw at k ⊢; exact DVs.mono k
  | .v _, _, _, k => by unfold DVw at k; exact k.elim
  | .nil, _, _, k => by unfold DVw at k; exact k.elim
  | .lst _, _, _, k => by unfold DVw at k; exact k.elim
theorem DVs.mono : ∀ {l : List D} {b off : Nat}, DVs C I l b off → DVs C' I' l b off
  | [], _, _, _ => by unfold DVs; trivial
  | d :: r, b, off, k => by
    unfold DVs at k ⊢
    obtain ⟨⟨v, k0, k1⟩, k2, k3⟩ := k
    obtain ⟨g1, g2⟩ := h b off v k0 k2
    exact ⟨⟨v, g1, DV.mono k1⟩, g2, DVs.mono k3⟩
end
end

/-! ### Shapes -/
section
variable (tb : Nat → List CT)
mutual
def fits : D → CT → Prop
  | .v x, .sc t => tyV t x = true
  | .lst rows, .sl t => fitsR rows t
  | _, _ => False
def fitsR : List D → Nat → Prop
  | [], _ => True
  | d :: r, t => fitsW d t ∧ fitsR r t
def fitsW : D → Nat → Prop
  | .row cs, t => fitsC cs (tb t)
  | _, _ => False
def fitsC : List D → List CT → Prop
  | [], [] => True
  | d :: r, c :: t => fits d c ∧ fitsC r t
  | _, _ => False
end
end
end Go.Ab
