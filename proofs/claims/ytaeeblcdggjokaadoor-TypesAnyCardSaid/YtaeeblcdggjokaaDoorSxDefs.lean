/- An evaluator of the model's code over relative memory: values that never change again stand as trees, what is written stands in numbered objects. Its definitions. -/
import Derived.Test.YtaeeblcdggjokaaDoorSxData
import Derived.Calls
import Derived.Laws.Sem
import Derived.LoopN
import Derived.ScopeJumps
import Derived.Orders
namespace Go.Ab
set_option linter.unusedVariables false
set_option linter.unusedSimpArgs false
set_option linter.unusedSectionVars false
set_option linter.constructorNameAsVariable false
open Go

/-! ### A table by numbers -/
inductive Tr (α : Type) where
  | lf
  | nd (l : Tr α) (x : Option α) (r : Tr α)
namespace Tr
variable {α : Type}
def left : Tr α → Tr α
  | lf => lf
  | nd l _ _ => l
def right : Tr α → Tr α
  | lf => lf
  | nd _ _ r => r
def val : Tr α → Option α
  | lf => none
  | nd _ x _ => x
def get : Tr α → Nat → Option α
  | lf, _ => none
  | nd l x r, t => bif Nat.beq t 0 then x else bif Nat.beq (t % 2) 1 then l.get (t / 2) else r.get (t / 2 - 1)
def setF : Nat → Tr α → Nat → Option α → Tr α
  | 0, s, _, _ => s
  | f + 1, s, t, v =>
    bif Nat.beq t 0 then .nd s.left v s.right
    else bif Nat.beq (t % 2) 1 then .nd (setF f s.left (t / 2) v) s.val s.right
    else .nd s.left s.val (setF f s.right (t / 2 - 1) v)
def lid : Nat := 1000000000
def set (s : Tr α) (t : Nat) (v : Option α) : Tr α := setF 31 s t v
end Tr

/-! ### Values -/
inductive AV where
  | v (x : Value)
  | ref (cs : List AV)
  | box (b off : Nat)
  | sl (cs : List AV) (len : Nat) (tok : Option Nat)
  | ms (b off len : Nat)
  | mg (b len : Nat)
  | e0
  | mp (m : Nat)
  | fn (f : Fn) (first captured : List AV)
  | agg (cs : List AV)
  | tup (vs : List AV)
  | iface (t : TypeId) (x : AV)
  | pan (x : AV)
  | any
  | sy (x : Value) (bits : List (BinOp × Value × Bool))
  | x (t : Ty) (e : E)
  | d (t : Nat) (e : E) (tok : Option Nat)
  | rd (t : Nat) (e : E) (off : Nat)
  | so (i : Nat) (off len : E) (wh : Bool)
  | po (i : Nat) (off : E)
  deriving Inhabited

structure Tm where
  n : Nat
  t : Tr AV
  ds : List Nat := []
  dl : List (Nat × List AV × List AV) := []
  mu : Bool × Bool := (false, false)
def und : AV := .tup []
def gt (T : Tm) (t : Nat) : AV := (T.t.get t).getD und
def putT (T : Tm) (d : Option Nat) (x : AV) : Option Tm :=
  match d with
  | some d => if Nat.ble (d + 1) T.n && Nat.ble T.n Tr.lid then some { T with t := T.t.set d (some x) } else none
  | none => some T

/-- How far a row is laid: so many cells, or so many rows as an expression tells. -/
inductive Tip where
  | c (n : Nat)
  | e (x : E) (w : Nat)
/-- What is written, of content that an expression tells: a table; an array of scalars. -/
inductive SK where
  | map (kt ct : Ty) (e : E)
  | arr (ct : Ty) (e : E)
inductive AObj where
  | box (cs : List AV) (esz : Nat)
  | fz (cs : List AV) (esz : Nat)
  | row (tip : Tip) (esz : Nat)
  | sym (k : SK)
  | map (es : List (Value × AV))
  | dead
  | loop (T : Tm) (ps : List Nat) (asg body : Code) (st : LoopState) (pend : Option Code)
  | defs

/-- What is known from the start: conditions that hold, the shapes of rows. -/
structure Kn where
  fx : List E := []
  tb : List (Nat × List CT) := []
def Kn.shape (k : Kn) (t : Nat) : List CT := (k.tb.lookup t).getD []
structure St where
  n : Nat
  o : Tr AObj
  k : Kn := {}
def none0 : St := { n := 0, o := .lf }

def St.get (s : St) (i : Nat) : Option AObj := s.o.get i
def St.put (s : St) (i : Nat) (x : AObj) : St := { s with o := s.o.set i (some x) }
def St.new (s : St) (x : AObj) : St := { s with n := s.n + 1, o := s.o.set s.n (some x) }
def St.room (s : St) : Bool := Nat.ble (s.n + 1) Tr.lid

def scalar : Value → Bool
  | .bool _ | .int _ _ | .float _ _ | .string _ | .pointer none | .map none | .nilFunc | .nilIface => true
  | .slice none l c => Nat.beq l 0 && Nat.beq c 0
  | _ => false

def isCell : AV → Bool
  | .agg _ | .tup _ | .pan _ | .any => false
  | _ => true
def cellsOf : AV → List AV
  | .agg cs => cs
  | x => [x]

def sc (x : Value) : Option AV := if scalar x then some (.v x) else none
def scAll : List Value → Option (List AV)
  | [] => some []
  | x :: r => do let a ← sc x; let b ← scAll r; pure (a :: b)
def ofValue : Value → Option AV
  | .agg cs => (scAll cs.toList).map .agg
  | .tuple vs => if Nat.beq vs.size 0 then some und else none
  | x => sc x
def unSc : AV → Option Value
  | .v x => some x
  | _ => none
def unAll : List AV → Option (List Value)
  | [] => some []
  | x :: r => do let a ← unSc x; let b ← unAll r; pure (a :: b)
def toValue : AV → Option Value
  | .v x => some x
  | .agg cs => (unAll cs).map fun l => .agg l.toArray
  | .tup cs => (unAll cs).map fun l => .tuple l.toArray
  | .iface t x => (toValue x).map (.iface t)
  | _ => none
def outValue : Value → Option AV
  | .agg cs => (scAll cs.toList).map .agg
  | .tuple cs => (scAll cs.toList).map .tup
  | x => sc x

/-! ### The program's facts -/
variable (P : Program)

def isAggT (t : TypeId) : Option Bool :=
  match P.underlying t with
  | some (.struct _) | some (.array _ _) => some true
  | some _ => some false
  | none => none
def sizeT (t : TypeId) : Option Nat := (P.info? t).map (·.size)
def bytesT (t : TypeId) : Option Nat := (P.info? t).map (·.bytes)
def zeroT (t : TypeId) : Option Value := (P.info? t).bind (·.zero)
def zeroCellsT (t : TypeId) : Option (List AV) := (zeroT P t).bind fun z => scAll z.cells.toList

/-- An operation that neither reads nor writes: run as it stands. -/
def runPure {α : Type} : Sem α → Option α
  | .pure a => some a
  | .program k => runPure (k P)
  | .mark _ k => runPure k
  | _ => none

/-- What stands at a place, read as a type. -/
def takeT (t : TypeId) (cs : List AV) : Option AV := do
  if ← isAggT P t then
    let n ← sizeT P t
    if Nat.ble n cs.length then some (.agg (cs.take n)) else none
  else cs.head?

def partT (t : TypeId) (cs : List AV) (off : Nat) : Option AV := do
  if ← isAggT P t then
    let n ← sizeT P t
    if Nat.ble (off + n) cs.length then some (.agg ((cs.drop off).take n)) else none
  else cs[off]?

def fillA (place : Nat → Option (Nat × Nat)) (cells : List AV) : List (Nat × AV) → Option (List AV)
  | [] => some cells
  | (i, v) :: rest =>
    match place i with
    | none => none
    | some (off, size) =>
      let cs := cellsOf v
      if Nat.beq cs.length size && Nat.ble (off + size) cells.length && cs.all isCell then fillA place (cells.take off ++ cs ++ cells.drop (off + size)) rest else none

def places (fs : List Field) : Option (List (Nat × Nat)) :=
  match fs with
  | [] => some []
  | f :: r => do let s ← sizeT P f.type; let q ← places r; pure ((f.offset, s) :: q)

def asNat : AV → Option Nat
  | .v (.int _ i) => if 0 ≤ i then some i.toNat else none
  | _ => none

def bytesOfCells : List AV → Option ByteArray
  | [] => some .empty
  | l => (go l .empty)
where
  go : List AV → ByteArray → Option ByteArray
    | [], acc => some acc
    | .v (.int .u8 n) :: r, acc => go r (acc.push (UInt8.ofNat n.toNat))
    | _ :: _, _ => none

variable (G : Nat → Option (List AV))

def opd (T : Tm) : Operand → Option AV
  | .tmp t => some (gt T t)
  | .const x => ofValue x
  | .global g => (G g).map .ref
  | .func f => some (.fn (.func f) [] [])
def opds (T : Tm) : List Operand → Option (List AV)
  | [] => some []
  | x :: r => do let a ← opd G T x; let b ← opds T r; pure (a :: b)

def opdO (T : Tm) : Option Operand → Option (Option AV)
  | none => some none
  | some x => (opd G T x).map some
def bnd (T : Tm) (x : Option Operand) (d : Nat) : Option Nat :=
  match x with
  | none => some d
  | some i => (opd G T i).bind asNat

def bnd0 (T : Tm) (x : Option Operand) : Option Nat :=
  match x with
  | none => none
  | some i => (opd G T i).bind asNat

/-- What a slice holds: its cells, as many as its elements take. -/
def heldBy (s : St) (size : Nat) : AV → Option (List AV × Nat)
  | .v (.slice none _ _) => some ([], 0)
  | .e0 => some ([], 0)
  | .sl cs len _ => if Nat.ble (len * size) cs.length then some (cs.take (len * size), len) else none
  | .ms b off len =>
    match s.get b with
    | some (.box c _) => if Nat.ble (off + len * size) c.length then some ((c.drop off).take (len * size), len) else none
    | _ => none
  | .mg b len =>
    match s.get b with
    | some (.box c _) => if Nat.ble (len * size) c.length then some (c.take (len * size), len) else none
    | _ => none
  | .v (.string x) => if Nat.beq size 1 then some (x.data.toList.map fun b => .v (.int .u8 b.toNat), x.size) else none
  | _ => none

/-- A block's kind: how large its elements are (0: one variable), and of what type (from tyBase on). -/
def tyBase : Nat := 4294967296
def codeOf (t size : Nat) : Nat := tyBase * (t + 1) + size

def tooLong (bytes need : Nat) : Bool := !(Nat.ble ((2 * need + 2048) * bytes) (2 ^ 47)) || Nat.beq bytes 0

def appendA (e : TypeId) (s : St) (x y : AV) : Option (AV × St) := do
  let size ← sizeT P e
  let bytes ← bytesT P e
  let z ← zeroCellsT P e
  let (ys, n) ← heldBy s size y
  if !(Nat.beq z.length size) || !(Nat.beq ys.length (n * size)) then none else
  match x with
  | .v (.slice none _ _) | .e0 =>
    if Nat.beq n 0 then some (x, s) else
    if tooLong bytes n || !s.room || !(ys.all isCell) then none else
    some (.sl ys n (some s.n), s.new (.row (.c (n * size)) size))
  | .sl cs len (some t) =>
    match s.get t with
    | some (.row (.c tip) esz) =>
      if tooLong bytes (len + n) || !s.room || !(Nat.beq tip (len * size)) || !(Nat.beq esz size) || !(Nat.ble tip cs.length) || !(ys.all isCell) then none else
      some (.sl (cs.take tip ++ ys) (len + n) (some s.n), (s.put t .dead).new (.row (.c (tip + n * size)) size))
    | _ => none
  | _ => none

/-- Where the row is one that is written. -/
def appendM (e : TypeId) (s : St) (x y : AV) : Option (AV × St) := do
  let size ← sizeT P e
  let bytes ← bytesT P e
  let z ← zeroCellsT P e
  let (ys, n) ← heldBy s size y
  if !(Nat.beq z.length size) || !(Nat.beq ys.length (n * size)) then none else
  match x with
  | .v (.slice none _ _) | .e0 =>
    if Nat.beq n 0 then some (x, s) else
    if tooLong bytes n || !s.room || !(ys.all isCell) || Nat.beq size 0 || !(Nat.ble (size + 1) tyBase) then none else
    some (.mg s.n n, s.new (.box ys (codeOf e size)))
  | .mg b len =>
    match s.get b with
    | some (.box cs esz) =>
      if tooLong bytes (len + n) || !s.room || !(Nat.beq cs.length (len * size)) || !(Nat.beq esz (codeOf e size)) || !(ys.all isCell) || Nat.beq size 0 || !(Nat.ble (size + 1) tyBase) then none else
      some (.mg s.n (len + n), (s.put b .dead).new (.box (cs ++ ys) (codeOf e size)))
    | _ => none
  | _ => none
def appendX (mu : Bool) (e : TypeId) (s : St) (x y : AV) : Option (AV × St) :=
  match x with
  | .mg _ _ => appendM P e s x y
  | .v _ | .e0 => if mu then appendM P e s x y else appendA P e s x y
  | _ => appendA P e s x y

def sameKey : Value → Value → Option Bool
  | .int k a, .int k' b => if k = k' then some (a == b) else none
  | .string a, .string b => some (a == b)
  | _, _ => none
def findA (k : Value) : List (Value × AV) → Option (Option AV)
  | [] => some none
  | e :: es => do if ← sameKey k e.1 then pure (some e.2) else findA k es
def findIn (s : St) (k : Value) : AV → Option (Option AV)
  | .v (.map none) => some none
  | .mp m =>
    match s.get m with
    | some (.map es) => findA k es
    | _ => none
  | _ => none
def setA (k : Value) (x : AV) : List (Value × AV) → Option (List (Value × AV))
  | [] => some [(k, x)]
  | e :: es => do if ← sameKey k e.1 then pure ((k, x) :: es) else do let r ← setA k x es; pure (e :: r)
def keyT (t : TypeId) (k : Value) : Bool :=
  match P.underlying t, k with
  | some .string, .string _ => true
  | some (.int _), .int _ _ => true
  | _, _ => false

def notNil : AV → Bool
  | .ref _ | .box _ _ | .sl _ _ _ | .ms _ _ _ | .mg _ _ | .e0 | .mp _ | .fn _ _ _ => true
  | _ => false
/-- A comparison with nil: of what there is. -/
def eqNil (t : TypeId) (x y : AV) : Option Bool :=
  match P.underlying t, x, y with
  | some (.pointer _), .ref _, .v (.pointer none) | some (.pointer _), .box _ _, .v (.pointer none)
  | some (.pointer _), .v (.pointer none), .ref _ | some (.pointer _), .v (.pointer none), .box _ _
  | some (.slice _), .sl _ _ _, .v (.slice none _ _) | some (.slice _), .ms _ _ _, .v (.slice none _ _) | some (.slice _), .mg _ _, .v (.slice none _ _) | some (.slice _), .e0, .v (.slice none _ _)
  | some (.map _ _), .mp _, .v (.map none)
  | some (.func _ _ _), .fn _ _ _, .v .nilFunc
  | some (.interface _), .iface _ _, .v .nilIface => some false
  | _, _, _ => none

/-- A scalar of which alone some comparisons are known. -/
def cmpV (op : BinOp) (x y : Value) : Option Bool :=
  match x, y with
  | .int k a, .int k' b =>
    if k = k' then
      match op with
      | .eql => some (a == b)
      | .neq => some (a != b)
      | .lss => some (decide (a < b))
      | .leq => some (decide (a ≤ b))
      | .gtr => some (decide (a > b))
      | .geq => some (decide (a ≥ b))
      | _ => none
    else none
  | .string a, .string b =>
    match op with
    | .eql => some (a.toList == b.toList)
    | .neq => some (!(a.toList == b.toList))
    | _ => none
  | _, _ => none
def keyIs (k x : Value) : Bool := match sameKey k x with | some true => true | _ => false
def symLook (op : BinOp) (l : Value) : List (BinOp × Value × Bool) → Option Bool
  | [] => none
  | (o, m, b) :: r => if o = op && keyIs l m then some b else symLook op l r
def symCmp (op : BinOp) (a b : AV) : Option Bool :=
  match a, b with
  | .sy _ bits, .v l => symLook op l bits
  | .v l, .sy _ bits => if op = .eql then symLook op l bits else none
  | _, _ => none
/-! ### What is computed on symbols -/
def toE : AV → Option (Ty × E)
  | .v (.int k i) => some (.i k, .lit (.int k i))
  | .v (.bool b) => some (.b, .lit (.bool b))
  | .v (.string x) => some (.s, .lit (.string x))
  | .x t e => some (t, e)
  | _ => none
/-- Whether a condition is known to hold, or not to hold. -/
def unNot : E → Option E
  | .pr .not [c] => some c
  | _ => none
/-- A whole number against itself. -/
def selfCmp : E → Option Bool
  | .pr (.icmp op) [a, b] => if eEq a b then (match op with | .eql => some true | .neq => some false | .lss => some false | .gtr => some false | .leq => some true | .geq => some true | _ => none) else none
  | _ => none
def ask (k : Kn) (e : E) : Option Bool :=
  if hasE e k.fx then some true else if hasE (.pr .not [e]) k.fx then some false else
  match unNot e with
  | some c => if hasE c k.fx then some false else none
  | none => selfCmp e
def mkB (k : Kn) (e : E) : AV :=
  match ask k e with
  | some b => .v (.bool b)
  | none => .x .b e
def eInt (i : Int) : E := .lit (.int .i64 i)
def litI : E → Option Int
  | .lit (.int _ i) => some i
  | _ => none
/-- That a number is not negative; that a text is not too long. -/
def isLen : E → Bool
  | .pr .slen _ | .pr .len _ => true
  | _ => false
def nonNeg (k : Kn) (e : E) : Bool :=
  match litI e with
  | some i => decide (0 ≤ i)
  | none => isLen e || hasE (.pr (.icmp .leq) [eInt 0, e]) k.fx
def textMax : Int := 1099511627776
def short (k : Kn) (e : E) : Bool :=
  match e with
  | .lit (.string x) => decide ((x.size : Int) ≤ textMax)
  | e => hasE (.pr (.icmp .leq) [.pr .slen [e], eInt textMax]) k.fx
def below (k : Kn) (a b : E) : Bool := hasE (.pr (.icmp .lss) [a, b]) k.fx
def upTo (k : Kn) (a b : E) : Bool := eEq a b || (match litI a with | some i => decide (i ≤ 0) && nonNeg k b | none => false) || hasE (.pr (.icmp .leq) [a, b]) k.fx
def symBin (k : Kn) (ub : Bool) (op : BinOp) (a b : AV) : Option AV :=
  match toE a, toE b with
  | some (.i k1, x), some (.i k2, y) =>
    match op with
    | .shl | .shr => if nonNeg k y then some (.x (.i k1) (.pr (.iop op k1) [x, y])) else none
    | .add | .sub | .mul | .and | .or | .xor | .andNot => if k1 = k2 then some (.x (.i k1) (.pr (.iop op k1) [x, y])) else none
    | .quo | .rem =>
      if k1 = k2 then
        match litI y with
        | some i => if i = 0 then none else some (.x (.i k1) (.pr (.iop op k1) [x, y]))
        | none => if hasE (.pr (.icmp .neq) [y, .lit (.int k1 0)]) k.fx then some (.x (.i k1) (.pr (.iop op k1) [x, y])) else none
      else none
    | .eql | .neq | .lss | .leq | .gtr | .geq => if k1 = k2 then some (mkB k (.pr (.icmp op) [x, y])) else none
  | some (.s, x), some (.s, y) =>
    match op with
    | .add => if short k x && short k y then some (.x .s (.pr .scat [x, y])) else none
    | .eql | .neq | .lss | .leq | .gtr | .geq => some (mkB k (.pr (.scmp op) [x, y]))
    | _ => none
  | some (.b, x), some (.b, y) =>
    match op with
    | .eql | .neq => if ub then some (mkB k (.pr (.bcmp op) [x, y])) else none
    | _ => none
  | _, _ => none
/-- Whether two values of plain cells are the same, along their type. -/
def eqFs (g : TypeId → AV → AV → Option E) (P : Program) : List Field → List AV → List AV → Option (List E)
  | [], _, _ => some []
  | f :: r, xs, ys =>
    if f.name == "_" then none else
    match partT P f.type xs f.offset, partT P f.type ys f.offset with
    | some a, some b =>
      match g f.type a b, eqFs g P r xs ys with
      | some e, some es => some (e :: es)
      | _, _ => none
    | _, _ => none
def eqT (P : Program) : Nat → TypeId → AV → AV → Option E
  | 0, _, _, _ => none
  | n + 1, t, a, b =>
    match P.underlying t, a, b with
    | some (.struct fs), .agg xs, .agg ys => if P.stoodInHeld t then none else (eqFs (eqT P n) P fs.toList xs ys).map (.pr .and)
    | some .bool, a, b => match toE a, toE b with | some (.b, x), some (.b, y) => some (.pr (.bcmp .eql) [x, y]) | _, _ => none
    | some (.int _), a, b => match toE a, toE b with | some (.i k, x), some (.i l, y) => if k = l then some (.pr (.icmp .eql) [x, y]) else none | _, _ => none
    | some .string, a, b => match toE a, toE b with | some (.s, x), some (.s, y) => some (.pr (.scmp .eql) [x, y]) | _, _ => none
    | _, _, _ => none
def symEqA (P : Program) (k : Kn) (op : BinOp) (t : TypeId) (a b : AV) : Option AV :=
  match a, b with
  | .agg _, .agg _ =>
    if P.eqGuardType P.depth t then none else
    match eqT P 10 t a b with
    | some e => match op with | .eql => some (mkB k e) | .neq => some (mkB k (.pr .not [e])) | _ => none
    | none => none
  | _, _ => none
/-- The greater, or the less, of two. -/
def symMM (mx : Bool) (l : List AV) : Option AV :=
  match l with
  | [a, b] =>
    match toE a, toE b with
    | some (.i k1, x), some (.i k2, y) => if k1 = k2 then some (.x (.i k1) (.pr .ite [.pr (.icmp (bif mx then .gtr else .lss)) [y, x], y, x])) else none
    | _, _ => none
  | _ => none
def symUn (k : Kn) (op : UnOp) (a : AV) : Option AV :=
  match op, toE a with
  | .not, some (.b, x) => some (mkB k (.pr .not [x]))
  | .neg, some (.i k1, x) => some (.x (.i k1) (.pr (.neg k1) [x]))
  | _, _ => none
def symConv (src dst : Option TypeDesc) (a : AV) : Option AV :=
  match src, dst, toE a with
  | some _, some (.int k), some (.i _, x) => some (.x (.i k) (.pr (.conv k) [x]))
  | some _, some .string, some (.s, x) => some (.x .s x)
  | _, _, _ => none
/-- A cell of a row. -/
def cellE (e : E) (j : Nat) : E :=
  match e with
  | .pr .row l => l.getD j .nil
  | e => .pr (.cell j) [e]
def cellA (e : E) (j : Nat) : CT → AV
  | .sc t => .x t (cellE e j)
  | .sl t => .d t (cellE e j) none
def cellsA (e : E) : Nat → List CT → List AV
  | _, [] => []
  | j, c :: r => cellA e j c :: cellsA e (j + 1) r
def loadRow (P : Program) (k : Kn) (t : TypeId) (rt : Nat) (e : E) (off : Nat) : Option AV := do
  let sh := k.shape rt
  if ← isAggT P t then
    let n ← sizeT P t
    if Nat.ble (off + n) sh.length then some (.agg (cellsA e off ((sh.drop off).take n))) else none
  else do let c ← sh[off]?; pure (cellA e off c)
def lenE (e : E) : E := .pr .len [e]
/-- An index, in a slice of symbols. -/
def symAt (k : Kn) (e : E) (ix : AV) : Option E :=
  match toE ix with
  | some (.i _, i) => if nonNeg k i && below k i (lenE e) then some (.pr .at [e, i]) else none
  | _ => none
def symIndex (k : Kn) (a ix : AV) : Option AV :=
  match toE a, toE ix with
  | some (.s, x), some (.i _, i) => if nonNeg k i && below k i (.pr .slen [x]) then some (.x (.i .u8) (.pr .sat [x, i])) else none
  | _, _ => none
/-- A part of a text. -/
def boundE (d : E) : Option AV → Option E
  | none => some d
  | some v => match toE v with | some (.i _, l) => some l | _ => none
def symSub (k : Kn) (a : AV) (lo hi : Option AV) : Option AV :=
  match toE a with
  | some (.s, x) =>
    match boundE (eInt 0) lo, boundE (.pr .slen [x]) hi with
    | some l, some h => if nonNeg k l && nonNeg k h && upTo k l h && upTo k h (.pr .slen [x]) then some (.x .s (.pr .ssub [x, l, h])) else none
    | _, _ => none
  | _ => none
/-- A pointer held against itself. -/
def ptrEq (t : TypeId) (x y : AV) : Option Bool :=
  match P.underlying t, x, y with
  | some (.pointer e), .box i a, .box j b => if Nat.beq i j && Nat.beq a b && (P.info? e).isSome then some true else none
  | _, _, _ => none
def eqRef (t : TypeId) (x y : AV) : Option Bool :=
  match eqNil P t x y with
  | some r => some r
  | none => ptrEq P t x y

/-- A pointer turned to unsafe.Pointer, and back to its own type. -/
def toUnsafe (e : TypeId) (s : St) (x : AV) : Option (AV × St) :=
  match x with
  | .box i off =>
    match s.get i, sizeT P e with
    | some (.box cs _), some n => if Nat.ble (off + 1) cs.length && !(Nat.beq n 0) then some (.box i off, s) else none
    | _, _ => none
  | _ => none
def fromUnsafe (u : TypeId) (s : St) (x : AV) : Option (AV × St) :=
  match x with
  | .box i off =>
    match s.get i with
    | some (.box cs k) =>
      if Nat.ble tyBase k && Nat.beq (k % tyBase) 0 && (P.info? u).isSome && liesAt P P.depth (k / tyBase - 1) (cs.length / P.cellsOf (k / tyBase - 1)) off u 1 then some (.box i off, s) else none
    | _ => none
  | _ => none
/-- The first element's address. -/
def sliceData : AV → Option AV
  | .mg b len => if Nat.ble 1 len then some (.box b 0) else none
  | .v (.slice none _ _) => some (.v (.pointer none))
  | _ => none
def rowOf (s : St) (b : Nat) : Option (List AV × Nat) :=
  match s.get b with
  | some (.box cs k) => some (cs, k)
  | some (.fz cs k) => some (cs, k)
  | _ => none
def bytesEx : List AV → Option (List UInt8)
  | [] => some []
  | .v (.int .u8 (.ofNat m)) :: r =>
    if Nat.ble m 255 then
      match bytesEx r with
      | some l => some (UInt8.ofNat m :: l)
      | none => none
    else none
  | _ :: _ => none
/-- A row's bytes as a text: the row is written no more. -/
def unsafeStr (pt : TypeId) (s : St) (x : AV) (n : Nat) : Option (AV × St) :=
  match x with
  | .v (.pointer none) => if Nat.beq n 0 then some (.v (.string .empty), s) else none
  | .box b 0 =>
    match rowOf s b, P.underlying pt with
    | some (cs, k), some (.pointer e) =>
      if Nat.ble 1 n && Nat.ble n cs.length && Nat.ble n (2 ^ 40) && Nat.beq (k % tyBase) 1 && Nat.beq (k / tyBase) (e + 1) && Nat.beq (P.cellsOf e) 1 then
        match bytesEx (cs.take n) with
        | some l => some (.v (.string ⟨l.toArray⟩), s.put b (.fz cs k))
        | none => none
      else none
    | _, _ => none
  | _ => none

/-- The method behind an interface value. -/
def methodA (t : TypeId) (name : String) : Option FuncId :=
  match P.info? t with
  | none => none
  | some i =>
    match i.methods.find? (·.name == name) with
    | none => none
    | some m =>
      if !m.path.isEmpty then none else
      match m.func, P.underlying t with
      | some (f, true), some (.pointer _) => some f
      | some (f, false), some (.pointer _) => none
      | some (f, false), some _ => some f
      | _, _ => none

def isPan : AV → Option AV
  | .pan y => some y
  | _ => none

abbrev Call := Fn → List AV → St → Option (AV × St)

def scalarOp (T : Tm) (o : Oper) : Option AV := do
  let r ← runPure P (execOp (fun x => ((opd G T x).bind toValue).getD undef) o)
  match r with
  | .value v => outValue v
  | .skip => some und
  | _ => none

def allScalar (T : Tm) (xs : List Operand) : Bool := xs.all fun x => ((opd G T x).bind toValue).isSome

def callA (call : Call) (f : FuncId) (args : List AV) (s : St) : Option (AV × St) :=
  match P.funcs[f]? with
  | none => none
  | some fn =>
    match fn.body with
    | some _ => call (.func f) args s
    | none =>
      if fn.name == "internal/abi.NoEscape" && (Extern.findNext fn).isNone then (match args with | [x] => some (x, s) | _ => none) else do
      let vs ← unAll args
      let r ← runPure P (callFunc f vs.toArray)
      match r with
      | .value v => do let x ← outValue v; pure (x, s)
      | _ => none

def callB (call : Call) (f : FuncId) (args : List AV) (s : St) : Option (AV × St) :=
  match P.funcs[f]? with
  | none => none
  | some fn =>
    match fn.body with
    | some _ =>
      match call (.func f) args s with
      | some (x, s') => if (isPan x).isNone then some (x, s') else none
      | none => none
    | none => none

def parts (T : Tm) : List (Nat × Operand) → Option (List (Nat × AV))
  | [] => some []
  | (i, x) :: r => do let a ← opd G T x; let b ← parts T r; pure ((i, a) :: b)

def rep (z : List AV) : Nat → List AV
  | 0 => []
  | n + 1 => z ++ rep z n

def evOp1 (call : Call) (o : Oper) (T : Tm) (s : St) : Option (AV × St) :=
  match o.op with
  | .move x | .assign x => do let a ← opd G T x; pure (a, s)
  | .pick c a b => do
    match ← opd G T c with
    | .v (.bool true) => do let x ← opd G T a; pure (x, s)
    | .v (.bool false) => do let x ← opd G T b; pure (x, s)
    | _ => none
  | .alloc t => do
    let z ← zeroCellsT P t
    if s.room then some (.box s.n 0, s.new (.box z (codeOf t 0))) else none
  | .box _ x => do
    let a ← opd G T x
    if s.room && (cellsOf a).all isCell then some (.box s.n 0, s.new (.box (cellsOf a) 0)) else none
  | .build t ps => do
    let z ← zeroCellsT P t
    let ps ← parts G T ps.toList
    match P.underlying t with
    | some (.struct fs) => do
      let pl ← places P fs.toList
      let cs ← fillA (pl[·]?) z ps
      pure (.agg cs, s)
    | some (.array _ e) => do
      let size ← sizeT P e
      let cs ← fillA (fun i => some (i * size, size)) z ps
      pure (.agg cs, s)
    | _ => none
  | .buildSlice t len ps => do
    match P.underlying t with
    | some (.slice e) => do
      let size ← sizeT P e
      let z ← zeroCellsT P e
      let ps ← parts G T ps.toList
      if !(Nat.beq z.length size) || !(Nat.ble (len * size) (2 ^ 24)) then none else
      let cs ← fillA (fun i => some (i * size, size)) (rep z len) ps
      if T.mu.2 then (if cs.all isCell then some (.sl cs len none, s) else none)
      else if s.room && cs.all isCell then some (.sl cs len (some s.n), s.new (.row (.c (len * size)) size)) else none
    | _ => none
  | .load t a => do
    match ← opd G T a with
    | .rd rt e off => do let x ← loadRow P s.k t rt e off; pure (x, s)
    | .ref cs => do let x ← takeT P t cs; pure (x, s)
    | .box b off =>
      match s.get b with
      | some (.box c _) => do let x ← takeT P t (c.drop off); pure (x, s)
      | _ => none
    | _ => none
  | .store t a x => do
    let y ← opd G T x
    let n ← sizeT P t
    let cs := cellsOf y
    match ← opd G T a with
    | .box b off =>
      match s.get b with
      | some (.box c e) =>
        if Nat.beq cs.length n && Nat.ble (off + n) c.length && cs.all isCell then some (und, s.put b (.box (c.take off ++ cs ++ c.drop (off + n)) e)) else none
      | _ => none
    | _ => none
  | .nilCheck x => do
    match ← opd G T x with
    | .ref cs => pure (.ref cs, s)
    | .box b off => pure (.box b off, s)
    | .fn (.func f) a b => pure (.fn (.func f) a b, s)
    | _ => none
  | .binOp op t x y _ =>
    if allScalar G T [x, y] then (scalarOp P G T o).map (·, s) else do
      let a ← opd G T x
      let b ← opd G T y
      match symCmp op a b with
      | some r => pure (.v (.bool r), s)
      | none =>
        match symBin s.k (match P.underlying t with | some .bool => true | _ => false) op a b with
        | some r => pure (r, s)
        | none =>
          match symEqA P s.k op t a b with
          | some r => pure (r, s)
          | none => do
            let r ← eqRef P t a b
            match op with
            | .eql => pure (.v (.bool r), s)
            | .neq => pure (.v (.bool !r), s)
            | _ => none
  | .unOp op _ x => if allScalar G T [x] then (scalarOp P G T o).map (·, s) else do
    let a ← opd G T x
    let r ← symUn s.k op a
    pure (r, s)
  | .convert src dst x =>
    match P.underlying src, P.underlying dst with
    | some .string, some (.slice e) => do
      match P.underlying e, ← opd G T x with
      | some (.int .u8), .v (.string b) =>
        if s.room && Nat.ble b.size (2 ^ 40) then some (.sl (b.data.toList.map fun c => .v (.int .u8 c.toNat)) b.size (some s.n), s.new (.row (.c b.size) 1)) else none
      | _, _ => none
    | some (.slice e), some .string => do
      match P.underlying e with
      | some (.int .u8) => do
        let a ← opd G T x
        match a with
        | .v (.slice none _ _) => pure (.v (.string .empty), s)
        | .e0 => pure (.v (.string .empty), s)
        | .sl _ _ _ | .ms _ _ _ | .mg _ _ => do
          let (cs, _) ← heldBy s 1 a
          let b ← bytesOfCells cs
          pure (.v (.string b), s)
        | _ => none
      | _ => none
    | some (.slice e), some (.slice _) => do
      match P.underlying e, ← opd G T x with
      | some (.int .u8), .sl cs len (some t) =>
        match s.get t with
        | some (.row tip esz) => if Nat.beq src dst then pure (.sl cs len (some t), s.put t (.row tip esz)) else none
        | _ => none
      | _, _ => none
    | some (.pointer e), some .unsafePointer => do toUnsafe P e s (← opd G T x)
    | some .unsafePointer, some (.pointer u) => do fromUnsafe P u s (← opd G T x)
    | _, _ => if allScalar G T [x] then (scalarOp P G T o).map (·, s) else do
      let a ← opd G T x
      let r ← symConv (P.underlying src) (P.underlying dst) a
      pure (r, s)
  | .makeFunc fn first captured => do
    let a ← opds G T first.toList
    let b ← opds G T captured.toList
    match fn with
    | .func f => pure (.fn (.func f) a b, s)
    | _ => none
  | .makeInterface t x =>
    match P.underlying t with
    | none | some (.interface _) => none
    | some _ => do let a ← opd G T x; pure (.iface t a, s)
  | .typeAssert x _ t ok =>
    match P.underlying t with
    | none | some (.interface _) => none
    | some _ => do
      match ← opd G T x with
      | .iface u a =>
        if Nat.beq u t then (if ok then pure (.tup [a, .v (.bool true)], s) else pure (a, s))
        else if ok then do let z ← (zeroT P t).bind ofValue; pure (.tup [z, .v (.bool false)], s) else none
      | _ => none
  | .panic x => do
    match ← opd G T x with
    | .iface t a => pure (.pan (.iface t a), s)
    | _ => none
  | .makeMap _ r =>
    match r with
    | none => if s.room then some (.mp s.n, s.new (.map [])) else none
    | some _ => none
  | .makeSlice t l c => do
    match P.underlying t with
    | some (.slice e) => do
      let size ← sizeT P e
      let bytes ← bytesT P e
      let z ← zeroCellsT P e
      let l ← asNat (← opd G T l)
      let c ← asNat (← opd G T c)
      if !(Nat.beq z.length size) || !s.room || !(Nat.ble (bytes * c) (2 ^ 40)) || !(Nat.ble c (2 ^ 40)) then none else
      if Nat.beq l c then some (.ms s.n 0 l, s.new (.box (rep z l) 0)) else
      if Nat.beq l 0 then some (.sl [] 0 (some s.n), s.new (.row (.c 0) size)) else none
    | _ => none
  | .slice t x lo hi mx => do
    match P.underlying t with
    | some .string =>
      if !mx.isNone then none else
      if allScalar G T (x :: (lo.toList ++ hi.toList)) then (scalarOp P G T o).map (·, s) else do
        let a ← opd G T x
        let l ← opdO G T lo
        let h ← opdO G T hi
        let r ← symSub s.k a l h
        pure (r, s)
    | some (.slice e) => do
      let size ← sizeT P e
      let l ← bnd G T lo 0
      let a ← opd G T x
      match mx with
      | some m => do
        let h ← bnd0 G T hi
        let m ← asNat (← opd G T m)
        if Nat.beq l 0 && Nat.beq h 0 && Nat.beq m 0 then
          match a with
          | .v (.slice none x y) => pure (.v (.slice none x y), s)
          | .sl _ _ _ | .ms _ _ _ | .mg _ _ | .e0 => pure (.e0, s)
          | _ => none
        else none
      | none =>
        match a with
        | .v (.slice none x y) => do
          let h ← bnd G T hi 0
          if Nat.beq l 0 && Nat.beq h 0 then pure (.v (.slice none x y), s) else none
        | .e0 => do
          let h ← bnd G T hi 0
          if Nat.beq l 0 && Nat.beq h 0 then pure (.e0, s) else none
        | .sl cs len tok => do
          let h ← bnd G T hi len
          if !(Nat.ble l h) || !(Nat.ble h len) then none else
          if Nat.beq l len then pure (.sl [] 0 none, s) else
          pure (.sl (cs.drop (l * size)) (h - l) (if Nat.beq l 0 && Nat.beq h len then tok else none), s)
        | .ms b off len => do
          let h ← bnd G T hi len
          if !(Nat.ble l h) || !(Nat.ble h len) then none else
          if Nat.beq l len then pure (.sl [] 0 none, s) else
          pure (.ms b (off + l * size) (h - l), s)
        | .mg b len => do
          let h ← bnd G T hi len
          if !(Nat.ble l h) || !(Nat.ble h len) then none else
          if Nat.beq l len then pure (.sl [] 0 none, s) else
          if Nat.beq l 0 && Nat.beq h len then pure (.mg b len, s) else
          pure (.ms b (l * size) (h - l), s)
        | _ => none
    | some (.array n e) => do
      let size ← sizeT P e
      let l ← bnd G T lo 0
      let h ← bnd G T hi n
      if mx.isSome || !(Nat.ble l h) || !(Nat.ble h n) then none else
      if Nat.beq l n then none else
      match ← opd G T x with
      | .box b off => pure (.ms b (off + l * size) (h - l), s)
      | .ref cs => pure (.sl (cs.drop (l * size)) (h - l) none, s)
      | _ => none
    | _ => none
  | .fieldAddr st x f => do
    match P.underlying st with
    | some (.struct fs) => do
      let f ← fs[f]?
      let size ← sizeT P f.type
      if Nat.beq size 0 then none else
      match ← opd G T x with
      | .ref cs => pure (.ref (cs.drop f.offset), s)
      | .rd rt e off => pure (.rd rt e (off + f.offset), s)
      | .box b off => pure (.box b (off + f.offset), s)
      | _ => none
    | _ => none
  | .field t x f => do
    match P.underlying t with
    | some (.struct fs) => do
      let f ← fs[f]?
      match ← opd G T x with
      | .agg cs => do let y ← partT P f.type cs f.offset; pure (y, s)
      | _ => none
    | _ => none
  | .indexAddr t x ix => do
    match ← opd G T x, P.underlying t with
    | .d rt e _, some (.slice el) => do
      let size ← sizeT P el
      if !(Nat.beq (s.k.shape rt).length size) then none else do
      let v ← opd G T ix
      let e' ← symAt s.k e v
      pure (.rd rt e' 0, s)
    | _, _ => do
    let i ← asNat (← opd G T ix)
    match P.underlying t with
    | some (.slice e) => do
      let size ← sizeT P e
      match ← opd G T x with
      | .sl cs len _ => if Nat.ble (i + 1) len then pure (.ref (cs.drop (i * size)), s) else none
      | .ms b off len => if Nat.ble (i + 1) len then pure (.box b (off + i * size), s) else none
      | .mg b len => if Nat.ble (i + 1) len then pure (.box b (i * size), s) else none
      | _ => none
    | some (.array len e) => do
      let size ← sizeT P e
      match ← opd G T x with
      | .ref cs => if Nat.ble (i + 1) len then pure (.ref (cs.drop (i * size)), s) else none
      | .box b off => if Nat.ble (i + 1) len then pure (.box b (off + i * size), s) else none
      | _ => none
    | _ => none
  | .index t x ix => do
    match P.underlying t with
    | some (.array len e) => do
      let i ← asNat (← opd G T ix)
      let size ← sizeT P e
      match ← opd G T x with
      | .agg cs => if Nat.ble (i + 1) len then do let y ← partT P e cs (i * size); pure (y, s) else none
      | _ => none
    | _ => if allScalar G T [x, ix] then (scalarOp P G T o).map (·, s) else
      match P.underlying t with
      | some .string => do
        let a ← opd G T x
        let i ← opd G T ix
        let r ← symIndex s.k a i
        pure (r, s)
      | _ => none
  | .lookup t x ix ok => do
    match P.underlying t with
    | some (.map k e) => do
      let key ← unSc (← opd G T ix)
      let z ← (zeroT P e).bind ofValue
      if !(keyT P k key) then none else
      let r ← findIn s key (← opd G T x)
      let v := r.getD z
      if ok then pure (.tup [v, .v (.bool r.isSome)], s) else pure (v, s)
    | _ => none
  | .mapUpdate t m k x | .insert t m k x => do
    match P.underlying t with
    | some (.map kt _) => do
      let key ← unSc (← opd G T k)
      let y ← opd G T x
      if !(keyT P kt key) then none else
      match ← opd G T m with
      | .mp m =>
        match s.get m with
        | some (.map es) => do let es' ← setA key y es; pure (und, s.put m (.map es'))
        | _ => none
      | _ => none
    | _ => none
  | .extract t ix => do
    match ← opd G T t with
    | .tup vs => do let v ← vs[ix]?; pure (v, s)
    | _ => none
  | .call c => do
    let args : List AV ← opds G T c.args.toList
    match c.callee with
    | .builtin .len => do
      let t0 : TypeId ← c.argTypes[0]?
      match P.underlying t0, (args.head? : Option AV) with
      | some .string, some (.v (.string b)) => pure (.v (goInt b.size), s)
      | some .string, some (.x .s e) => pure (.x (.i .i64) (.pr .slen [e]), s)
      | some (.slice _), some (.d _ e _) => pure (.x (.i .i64) (lenE e), s)
      | some (.slice _), some (.v (.slice none l _)) => pure (.v (goInt l), s)
      | some (.slice _), some .e0 => pure (.v (goInt 0), s)
      | some (.slice _), some (.sl _ len _) => pure (.v (goInt len), s)
      | some (.slice _), some (.ms _ _ len) => pure (.v (goInt len), s)
      | some (.slice _), some (.mg _ len) => pure (.v (goInt len), s)
      | some (.array n _), some _ => pure (.v (goInt n), s)
      | some (.map _ _), some (.v (.map none)) => pure (.v (goInt 0), s)
      | some (.map _ _), some (.mp m) =>
        match s.get m with
        | some (.map es) => pure (.v (goInt es.length), s)
        | _ => none
      | _, _ => none
    | .builtin .append => do
      let t0 : TypeId ← c.argTypes[0]?
      let t1 : TypeId ← c.argTypes[1]?
      match P.underlying t0, args with
      | some (.slice e), [x, y] =>
        match P.underlying t1 with
        | some (.slice _) | some .string => appendX P T.mu.1 e s x y
        | _ => none
      | _, _ => none
    | .builtin .copy => do
      let t0 : TypeId ← c.argTypes[0]?
      match P.underlying t0, args with
      | some (.slice e), [.ms b off len, y] => do
        let size ← sizeT P e
        let (ys, n) ← heldBy s size y
        match s.get b with
        | some (.box d e) =>
          let k := Nat.min n len
          let cs := ys.take (k * size)
          if Nat.ble (off + k * size) d.length && Nat.beq cs.length (k * size) && cs.all isCell && Nat.beq ys.length (n * size) then some (.v (goInt k), s.put b (.box (d.take off ++ cs ++ d.drop (off + k * size)) e)) else none
        | _ => none
      | _, _ => none
    | .builtin .max => if allScalar G T c.args.toList then (scalarOp P G T o).map (·, s) else (symMM true args).map (·, s)
    | .builtin .min => if allScalar G T c.args.toList then (scalarOp P G T o).map (·, s) else (symMM false args).map (·, s)
    | .builtin .unsafeSliceData =>
      match args with
      | [x] => do pure (← sliceData x, s)
      | _ => none
    | .builtin .unsafeString =>
      match c.argTypes.toList, args with
      | [pt, _], [x, .v (.int .i64 (.ofNat n))] => unsafeStr P pt s x n
      | _, _ => none
    | .builtin _ => none
    | .invoke recv name => do
      match ← opd G T recv with
      | .iface t x => do callA P call (← methodA P t name) (x :: args) s
      | _ => none
    | .value f => do
      match ← opd G T f with
      | .fn (.func g) first captured => callA P call g (first ++ args ++ captured) s
      | .fn (.yield l) [] [] => call (.yield l) args s
      | _ => none
  | _ => none

mutual
def cellX (k : Kn) : Nat → CT → AV → Option E
  | 0, _, _ => none
  | n + 1, c, a =>
    match c, a with
    | .sl t, .d t' e _ => if t = t' then some e else none
    | .sl _, .v (.slice none 0 0) => some (.pr .lst [])
    | .sl _, .e0 => some (.pr .lst [])
    | .sl t, .sl cs len _ => (rowsX k n t len cs).map (.pr .lst)
    | .sc t, a =>
      match toE a with
      | some (t', e) => if t = t' then some e else none
      | none => none
    | _, _ => none
def rowsX (k : Kn) : Nat → Nat → Nat → List AV → Option (List E)
  | 0, _, _, _ => none
  | n + 1, t, len, cs =>
    match len with
    | 0 => some []
    | len + 1 =>
      match cellsX k n (k.shape t) cs, rowsX k n t len (cs.drop (k.shape t).length) with
      | some r, some rest => some (.pr .row r :: rest)
      | _, _ => none
def cellsX (k : Kn) : Nat → List CT → List AV → Option (List E)
  | 0, _, _ => none
  | n + 1, ct, cs =>
    match ct, cs with
    | [], _ => some []
    | c :: r, a :: as =>
      match cellX k n c a, cellsX k n r as with
      | some x, some y => some (x :: y)
      | _, _ => none
    | _ :: _, [] => none
end
/-! ### Operations on what is written, of symbols -/
def tyT (t : TypeId) : Option Ty :=
  match P.underlying t with
  | some (.int k) => some (.i k)
  | some .bool => some .b
  | some .string => some .s
  | _ => none
def entE (kt ct : Ty) : List (Value × AV) → Option (List E)
  | [] => some []
  | (k, a) :: r =>
    match toE (.v k), toE a, entE kt ct r with
    | some (t, ek), some (u, ea), some rest => if t = kt then (if u = ct then some (.pr .row [ek, ea] :: rest) else none) else none
    | _, _, _ => none
def mapE (kt ct : Ty) : Option AObj → Option E
  | some (.map es) => (entE kt ct es).map (.pr .lst)
  | some (.sym (.map kt' ct' e)) => if kt = kt' then (if ct = ct' then some e else none) else none
  | _ => none
def mkX (k : Kn) (t : Ty) (e : E) : AV :=
  match t with
  | .b => mkB k e
  | t => .x t e
def symLookup (s : St) (t : TypeId) (x ix : AV) (ok : Bool) : Option AV :=
  match P.underlying t, x with
  | some (.map k e), .mp m =>
    match tyT P k, tyT P e, toE ix, zeroT P e with
    | some kt, some ct, some (kt', ek), some z =>
      if kt = kt' && !(kt = .b) && tyV ct z then
        match mapE kt ct (s.get m) with
        | some em => some (if ok then .tup [mkX s.k ct (.pr .mget [em, ek, .lit z]), mkB s.k (.pr .mhas [em, ek])] else mkX s.k ct (.pr .mget [em, ek, .lit z]))
        | none => none
      else none
    | _, _, _, _ => none
  | _, _ => none
def symUpdate (s : St) (t : TypeId) (x ix y : AV) : Option St :=
  match P.underlying t, x with
  | some (.map k e), .mp m =>
    match tyT P k, tyT P e, toE ix, toE y with
    | some kt, some ct, some (kt', ek), some (ct', ey) =>
      if kt = kt' && !(kt = .b) && ct = ct' then
        match mapE kt ct (s.get m) with
        | some em => some (s.put m (.sym (.map kt ct (.pr .mset [em, ek, ey]))))
        | none => none
      else none
    | _, _, _, _ => none
  | _, _ => none
def rowMax : Nat := 4294967296
def few (k : Kn) (bytes : Nat) (e : E) : Bool := hasE (.pr (.icmp .leq) [lenE e, eInt rowMax]) k.fx && !(tooLong bytes rowMax)
/-- What a slice holds, as an expression. -/
def rowsE (s : St) (t size : Nat) (y : AV) : Option E :=
  match y with
  | .d t' e _ => if t = t' then some e else none
  | y =>
    match heldBy s size y with
    | some (ys, n) => if Nat.beq ys.length (n * size) then (rowsX s.k 1000 t n ys).map (.pr .lst) else none
    | none => none
/-- A row of the call's own, as an expression. -/
def ownE (s : St) (t size : Nat) (x : AV) : Option (E × Nat) :=
  match x with
  | .d t' e (some tk) =>
    match s.get tk with
    | some (.row (.e e' w) esz) => if t = t' then (if eEq e e' && Nat.beq w size && Nat.beq esz size && Nat.ble (tk + 1) s.n then some (e, tk) else none) else none
    | _ => none
  | .sl cs len (some tk) =>
    match s.get tk with
    | some (.row (.c tip) esz) => if Nat.beq tip (len * size) && Nat.beq esz size && Nat.ble (tk + 1) s.n && Nat.ble (len * size) cs.length then (rowsX s.k 1000 t len (cs.take (len * size))).map fun l => (.pr .lst l, tk) else none
    | _ => none
  | _ => none
def symAppend (el : TypeId) (s : St) (x y : AV) : Option (AV × St) := do
  let size ← sizeT P el
  let bytes ← bytesT P el
  let z ← zeroCellsT P el
  if !(Nat.beq (s.k.shape el).length size) || Nat.beq size 0 || !(Nat.beq z.length size) || !s.room then none else
  let ey ← rowsE s el size y
  match x with
  | .v (.slice none 0 0) => if few s.k bytes ey then some (.d el ey none, s) else none
  | x => do
    let (ex, tk) ← ownE s el size x
    if few s.k bytes (.pr .cat [ex, ey]) then some (.d el (.pr .cat [ex, ey]) (some s.n), (s.put tk .dead).new (.row (.e (.pr .cat [ex, ey]) size) size)) else none
/-- Bytes, one by one. -/
def bytesE : List AV → Option (List E)
  | [] => some []
  | a :: r =>
    match toE a, bytesE r with
    | some (.i .u8, e), some l => some (e :: l)
    | _, _ => none
/-- The number that a fact tells. -/
def litOf (k : Kn) (kd : IntKind) (e : E) (n : Nat) : Option Nat := (List.range n).find? fun i => hasE (.pr (.icmp .eql) [e, .lit (.int kd i)]) k.fx
def evSym (o : Oper) (T : Tm) (s : St) : Option (AV × St) :=
  match o.op with
  | .convert src dst x =>
    match P.underlying src, P.underlying dst with
    | some (.slice e), some .string =>
      match P.underlying e with
      | some (.int .u8) => do
        let a ← opd G T x
        match a with
        | .sl cs len tok => do
          let p ← heldBy s 1 (.sl cs len tok)
          let es ← bytesE p.1
          pure (.x .s (.pr .sofb es), s)
        | _ => none
      | _ => none
    | _, _ => none
  | .indexAddr t x ix =>
    match P.underlying t with
    | some (.slice el) => do
      let v ← opd G T ix
      let c ← opd G T x
      let size ← sizeT P el
      match v, c with
      | .x (.i kd) e, .sl cs len _ => do
        let i ← litOf s.k kd e len
        if Nat.ble (i + 1) len then pure (.ref (cs.drop (i * size)), s) else none
      | .x (.i kd) e, .ms b off len => do
        let i ← litOf s.k kd e len
        if Nat.ble (i + 1) len then pure (.box b (off + i * size), s) else none
      | .x (.i kd) e, .mg b len => do
        let i ← litOf s.k kd e len
        if Nat.ble (i + 1) len then pure (.box b (i * size), s) else none
      | _, _ => none
    | some (.array len el) => do
      let v ← opd G T ix
      let c ← opd G T x
      let size ← sizeT P el
      match v, c with
      | .x (.i kd) e, .ref cs => do
        let i ← litOf s.k kd e len
        if Nat.ble (i + 1) len then pure (.ref (cs.drop (i * size)), s) else none
      | .x (.i kd) e, .box b off => do
        let i ← litOf s.k kd e len
        if Nat.ble (i + 1) len then pure (.box b (off + i * size), s) else none
      | _, _ => none
    | _ => none
  | .lookup t x ix ok => do
    let a ← opd G T x
    let i ← opd G T ix
    let r ← symLookup P s t a i ok
    pure (r, s)
  | .mapUpdate t m k x | .insert t m k x => do
    let a ← opd G T m
    let i ← opd G T k
    let y ← opd G T x
    let s' ← symUpdate P s t a i y
    pure (und, s')
  | .call c =>
    match c.callee with
    | .builtin .append => do
      let t0 : TypeId ← c.argTypes[0]?
      let t1 : TypeId ← c.argTypes[1]?
      match P.underlying t0, P.underlying t1, c.args.toList with
      | some (.slice e), some (.slice _), [ox, oy] => do
        let x ← opd G T ox
        let y ← opd G T oy
        symAppend P e s x y
      | _, _, _ => none
    | .builtin .len => do
      let t0 : TypeId ← c.argTypes[0]?
      match P.underlying t0, c.args.toList with
      | some (.map _ _), [ox] => do
        match ← opd G T ox with
        | .mp m =>
          match s.get m with
          | some (.sym (.map _ _ e)) => pure (.x (.i .i64) (lenE e), s)
          | _ => none
        | _ => none
      | _, _ => none
    | _ => none
  | _ => none

/-- What a fact tells is known. -/
def settleB (k : Kn) (a : AV) : AV :=
  match a with
  | .x .b e => match ask k e with | some b => .v (.bool b) | none => .x .b e
  | a => a
def evOp (call : Call) (o : Oper) (T : Tm) (s : St) : Option (AV × St) :=
  match evOp1 P G call o T s with
  | some (x, s') => some (settleB s'.k x, s')
  | none =>
    match evSym P G o T s with
    | some (x, s') => some (settleB s'.k x, s')
    | none => none

def yieldedA (ops : Array Oper) (T : Tm) (j : Nat) : Option Bool :=
  match (ops[j]?).bind (·.dst) with
  | some d => match gt T d with
    | .v (.bool b) => some b
    | _ => none
  | none => none

/-- An operation, if what it hangs on is known. -/
def known : AV → Bool
  | .any | .x _ _ => false
  | _ => true
def gk (ops : Array Oper) (T : Tm) (o : Oper) : Bool :=
  match o.guard with
  | none => true
  | some (j, _) => match (ops[j]?).bind (·.dst) with
    | some d => known (gt T d)
    | none => true
def fetch (ops : Array Oper) (T : Tm) (i : Nat) : Option Oper :=
  match ops[i]? with
  | some o => if gk ops T o then some o else none
  | none => none
/-- A call that is put off. -/
def deferA (T : Tm) (c : Go.Call) : Option (Nat × List AV × List AV) :=
  match c.callee with
  | .value f => do
    match ← opd G T f with
    | .fn (.func g) first captured => do let args ← opds G T c.args.toList; pure (g, first ++ args, captured)
    | _ => none
  | _ => none
def evOps (call : Call) (dok : Bool) (ops : Array Oper) : List Nat → Tm → St → Option (Option AV × Tm × St)
  | [], T, s => some (none, T, s)
  | i :: rest, T, s =>
    match fetch ops T i with
    | none => none
    | some o =>
      if Region.wanted o (yieldedA ops T) then
        match o.op with
        | .defer c =>
          match T.ds, o.dst, dok, deferA G T c with
          | [], none, true, some d => evOps call dok ops rest { T with dl := d :: T.dl } s
          | _, _, _, _ => none
        | _ =>
          match evOp P G call o T s with
          | some (x, s') =>
            match isPan x with
            | some y => some (some y, T, s')
            | none =>
              match putT T o.dst x with
              | some T' => evOps call dok ops rest T' s'
              | none => none
          | none => none
      else match putT T o.dst und with
        | some T' => evOps call dok ops rest T' s
        | none => none

inductive Ex where
  | normal
  | exit (id : Nat)
  | goto (l : Nat)
  | ret
  | panic (x : AV)

/-- A region whose order is drawn: D says what comes of it. -/
abbrev Drawn := Array Oper → Tm → St → Option (Option AV × Tm × St)

def evScope (self : Code → Tm → St → Option (Ex × Tm × St)) (b : Code) : Nat → Code → Tm → St → Option (Ex × Tm × St)
  | 0, _, _, _ => none
  | n + 1, c, T, s =>
    match self c T s with
    | some (.goto l, T, s) =>
      match findLabel b l with
      | some rest => evScope self b n rest T s
      | none => none
    | r => r

/-- A condition: known, or told by a fact. -/
def cnd (T : Tm) (s : St) (c : Operand) : Option Bool :=
  match opd G T c with
  | some (.v (.bool b)) => some b
  | some (.x .b e) => ask s.k e
  | _ => none
def evCode (D : Call → Drawn) (call : Call) (rb : Bool) : Nat → Code → Tm → St → Option (Ex × Tm × St)
  | 0, _, _, _ => none
  | k + 1, c, T, s =>
    match c with
    | .skip | .label _ => some (.normal, T, s)
    | .region _ ops draw =>
      if draw then match D call ops T s with
        | some (none, T, s) => some (.normal, T, s)
        | some (some y, T, s) => some (.panic y, T, s)
        | none => none
      else match evOps P G call (!rb) ops (List.range ops.size) T s with
        | some (none, T, s) => some (.normal, T, s)
        | some (some y, T, s) => some (.panic y, T, s)
        | none => none
    | .seq a b =>
      match evCode D call rb k a T s with
      | some (.normal, T, s) => evCode D call rb k b T s
      | r => r
    | .cond c a b =>
      match cnd G T s c with
      | some true => evCode D call rb k a T s
      | some false => evCode D call rb k b T s
      | none => none
    | .block id b =>
      match evCode D call rb k b T s with
      | some (.exit i, T, s) => if i = id then some (.normal, T, s) else some (.exit i, T, s)
      | r => r
    | .loop b =>
      match evCode D call rb k b T s with
      | some (.normal, T, s) => evCode D call rb k (.loop b) T s
      | r => r
    | .scope b => if rb then none else evScope (fun c T s => evCode D call rb k c T s) b k b T s
    | .rangeFunc f ps asg body =>
      if rb || !(Nat.ble (s.n + 2) Tr.lid) then none else
      let s2 := (s.new .defs).new (.loop T ps.toList asg body .ready none)
      match opd G T f with
      | some (.fn (.func g) first captured) =>
        match callB P call g (first ++ [.fn (.yield (s.n + 1)) [] []] ++ captured) s2 with
        | some (_, s3) =>
          match s3.get (s.n + 1) with
          | some (.loop T1 ps1 asg1 body1 st pend) =>
            if st == .busy then none else
            let s4 := s3.put (s.n + 1) (.loop T1 ps1 asg1 body1 .exhausted pend)
            let T' := { T with ds := s.n :: T.ds }
            match pend with
            | none => some (.normal, T', s4)
            | some c => evCode D call rb k c T' s4
          | _ => none
        | none => none
      | _ => none
    | .exit id => some (.exit id, T, s)
    | .goto l => some (.goto l, T, s)
    | .ret => some (.ret, T, s)
    | _ => none

def initF : List AV → Nat → Tr AV
  | [], _ => .lf
  | x :: r, i => (initF r (i + 1)).set i (some x)
def initT (args : List AV) (n : Nat) : Tm := { n := args.length + (n - args.length), t := initF args 0 }

def resultA (T : Tm) (s : St) : ResultVar → Option AV
  | .tmp t => some (gt T t)
  | .cell a t =>
    match gt T a with
    | .box b off =>
      match s.get b with
      | some (.box c _) => takeT P t (c.drop off)
      | _ => none
    | _ => none
def resultsA (T : Tm) (s : St) : List ResultVar → Option (List AV)
  | [] => some []
  | x :: r => do let a ← resultA P T s x; let b ← resultsA T s r; pure (a :: b)

def putAll : Tm → List Nat → List AV → Option Tm
  | T, [], _ => some T
  | T, _, [] => some T
  | T, p :: ps, x :: xs => (putT T (some p) x).bind fun T' => putAll T' ps xs
def jumpOf : Ex → Option Code
  | .normal => none
  | .exit id => some (.exit id)
  | .goto l => some (.goto l)
  | .ret => some .ret
  | .panic _ => none
def killAll (s : St) : List Nat → Option St
  | [] => some s
  | d :: r =>
    match s.get d with
    | some .defs => killAll (s.put d .dead) r
    | _ => none

/-- What opens a deferred call that recovers: plain moves alone. -/
def evMoves (ops : Array Oper) : List Nat → Tm → Option Tm
  | [], T => some T
  | i :: rest, T =>
    match fetch ops T i with
    | none => none
    | some o =>
      if Region.wanted o (yieldedA ops T) then
        match o.op with
        | .move x | .assign x =>
          match opd G T x with
          | some a =>
            match putT T o.dst a with
            | some T' => evMoves ops rest T'
            | none => none
          | none => none
        | _ => none
      else none
def isRecover (o : Oper) : Bool :=
  match o.op with
  | .call c => match c.callee with | .builtin .recover => true | _ => false
  | _ => false

/-- A deferred call that recovers first of all: p is what panics. -/
def evDef (run : Code → Tm → St → Option (Ex × Tm × St)) (g : Nat) (args : List AV) (p : Option AV) (s : St) : Option St :=
  match P.funcs[g]? with
  | none => none
  | some fn =>
    match fn.body with
    | some (.seq (.region _ ops false) c) =>
      match ops[0]? with
      | none => none
      | some o =>
        let T := initT args fn.ntmps
        if !(Nat.ble (args.length + fn.ntmps) Tr.lid) || !(gk ops T o && Region.wanted o (yieldedA ops T)) || !(isRecover o) || !fn.results.isEmpty then none else
        match putT T o.dst (p.getD (.v .nilIface)) with
        | none => none
        | some T1 =>
          match evMoves G ops ((List.range ops.size).drop 1) T1 with
          | none => none
          | some T2 =>
            match run c T2 s with
            | some (.normal, T3, s3) | some (.ret, T3, s3) => if T3.ds.isEmpty && T3.dl.isEmpty then some s3 else none
            | _ => none
    | _ => none

/-- A deferred call that does not recover. -/
def evDefPlain (run : Code → Tm → St → Option (Ex × Tm × St)) (g : Nat) (args : List AV) (s : St) : Option St :=
  match P.funcs[g]? with
  | none => none
  | some fn =>
    match fn.body with
    | none => none
    | some c =>
      if !(Nat.ble (args.length + fn.ntmps) Tr.lid) || !fn.results.isEmpty then none else
      match run c (initT args fn.ntmps) s with
      | some (.normal, T3, s3) | some (.ret, T3, s3) => if T3.ds.isEmpty && T3.dl.isEmpty then some s3 else none
      | _ => none

def runDefs (run : Code → Tm → St → Option (Ex × Tm × St)) : List (Nat × List AV × List AV) → Option AV → St → Option (Option AV × St)
  | [], p, s => some (p, s)
  | (g, args, cap) :: r, p, s =>
    match evDef P G run g (args ++ cap) p s with
    | some s' => runDefs run r none s'
    | none =>
      match evDefPlain P run g (args ++ cap) s with
      | some s' => runDefs run r p s'
      | none => none

/-- How a function leaves: its deferred calls, then its results. -/
def finA (run : Code → Tm → St → Option (Ex × Tm × St)) (fn : Func) (T : Tm) (p : Option AV) (s : St) : Option (AV × St) :=
  match runDefs P G run T.dl p s with
  | some (none, s) =>
    match resultsA P T s fn.results.toList with
    | some [x] => some (x, s)
    | some xs => some (.tup xs, s)
    | none => none
  | some (some y, s) => some (.pan y, s)
  | none => none

def evBody (mu : Nat → Bool) (D : Call → Drawn) (K : Nat) (self : Call) : Call := fun fr args s =>
  match fr with
  | .func f =>
    match P.funcs[f]? with
    | none => none
    | some fn =>
      match fn.body with
      | none => none
      | some c =>
        if !(Nat.ble (args.length + fn.ntmps) Tr.lid) then none else
        match evCode P G D self false K c { initT args fn.ntmps with mu := (mu f, false) } s with
        | some (.normal, T, s) | some (.ret, T, s) =>
          match killAll s T.ds with
          | some s => finA P G (evCode P G D self false K) fn T none s
          | none => none
        | some (.panic y, T, s) =>
          match T.ds with
          | [] => finA P G (evCode P G D self false K) fn T (some y) s
          | _ => none
        | _ => none
  | .yield l =>
    match s.get l with
    | some (.loop T ps asg body .ready _) =>
      if !(Nat.beq ps.length args.length) || !(Nat.ble (l + 1) s.n) then none else
      match putAll { T with ds := [], dl := [] } ps args with
      | none => none
      | some T1 =>
        match evCode P G D self true K asg T1 s with
        | some (.normal, T2, s2) =>
          match s2.get l with
          | some (.loop Ta psa asga bodya .ready penda) =>
            match evCode P G D self true K body T2 (s2.put l (.loop Ta psa asga bodya .busy penda)) with
            | some (.panic _, _, _) => none
            | some (ex, _, s4) =>
              match s4.get l with
              | some (.loop Tb psb asgb bodyb _ _) =>
                some (.v (.bool (jumpOf ex).isNone), s4.put l (.loop Tb psb asgb bodyb (if (jumpOf ex).isNone then .ready else .done) (jumpOf ex)))
              | _ => none
            | none => none
          | _ => none
        | _ => none
    | _ => none
  | _ => none

def evFn (mu : Nat → Bool) (D : Call → Drawn) (K : Nat) (orc : Call) : Nat → Call
  | 0 => fun _ _ _ => none
  | k + 1 => fun fr args s =>
    match orc fr args s with
    | some r => some r
    | none => evBody P G mu D K (evFn mu D K orc k) fr args s

end Go.Ab
