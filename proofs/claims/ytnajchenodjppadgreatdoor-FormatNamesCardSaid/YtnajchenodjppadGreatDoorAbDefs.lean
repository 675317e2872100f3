/- An evaluator of the model's code over relative memory: values that never change again stand as trees, what is written stands in numbered objects. Its definitions. -/
import Derived.Calls
import Derived.Laws.Sem
import Derived.LoopN
import Derived.ScopeJumps
import Derived.Orders
namespace Go.Ab
set_option linter.unusedVariables false
set_option linter.unusedSimpArgs false
set_option linter.constructorNameAsVariable false
open Go

/-! ### A table by numbers -/
inductive Tr (α : Type) where
  | lf
  | nd (l : Tr α) (x : Option α) (r : Tr α)
namespace Tr
variable {α : Type}
def left : Tr α → Tr α
  | lf => lf
  | nd l _ _ => l
def right : Tr α → Tr α
  | lf => lf
  | nd _ _ r => r
def val : Tr α → Option α
  | lf => none
  | nd _ x _ => x
def get : Tr α → Nat → Option α
  | lf, _ => none
  | nd l x r, t => bif Nat.beq t 0 then x else bif Nat.beq (t % 2) 1 then l.get (t / 2) else r.get (t / 2 - 1)
def setF : Nat → Tr α → Nat → Option α → Tr α
  | 0, s, _, _ => s
  | f + 1, s, t, v =>
    bif Nat.beq t 0 then .nd s.left v s.right
    else bif Nat.beq (t % 2) 1 then .nd (setF f s.left (t / 2) v) s.val s.right
    else .nd s.left s.val (setF f s.right (t / 2 - 1) v)
def lid : Nat := 1000000000
def set (s : Tr α) (t : Nat) (v : Option α) : Tr α := setF 31 s t v
end Tr

/-! ### Values -/
inductive AV where
  | v (x : Value)
  | ref (cs : List AV)
  | box (b off : Nat)
  | sl (cs : List AV) (len : Nat) (tok : Option Nat)
  | ms (b off len : Nat)
  | mg (b len : Nat)
  | e0
  | mp (m : Nat)
  | fn (f : Fn) (first captured : List AV)
  | agg (cs : List AV)
  | tup (vs : List AV)
  | iface (t : TypeId) (x : AV)
  | pan (x : AV)
  | any
  | sy (x : Value) (bits : List (BinOp × Value × Bool))
  deriving Inhabited

structure Tm where
  n : Nat
  t : Tr AV
  ds : List Nat := []
  dl : List (Nat × List AV × List AV) := []
  mu : Bool × Bool := (false, false)
def und : AV := .tup []
def gt (T : Tm) (t : Nat) : AV := (T.t.get t).getD und
def putT (T : Tm) (d : Option Nat) (x : AV) : Option Tm :=
  match d with
  | some d => if Nat.ble (d + 1) T.n && Nat.ble T.n Tr.lid then some { T with t := T.t.set d (some x) } else none
  | none => some T

inductive AObj where
  | box (cs : List AV) (esz : Nat)
  | fz (cs : List AV) (esz : Nat)
  | row (tip esz : Nat)
  | map (es : List (Value × AV))
  | dead
  | loop (T : Tm) (ps : List Nat) (asg body : Code) (st : LoopState) (pend : Option Code)
  | defs

structure St where
  n : Nat
  o : Tr AObj

def St.get (s : St) (i : Nat) : Option AObj := s.o.get i
def St.put (s : St) (i : Nat) (x : AObj) : St := { s with o := s.o.set i (some x) }
def St.new (s : St) (x : AObj) : St := { n := s.n + 1, o := s.o.set s.n (some x) }
def St.room (s : St) : Bool := Nat.ble (s.n + 1) Tr.lid

def scalar : Value → Bool
  | .bool _ | .int _ _ | .float _ _ | .string _ | .pointer none | .map none | .nilFunc | .nilIface => true
  | .slice none l c => Nat.beq l 0 && Nat.beq c 0
  | _ => false

def isCell : AV → Bool
  | .agg _ | .tup _ | .pan _ | .any => false
  | _ => true
def cellsOf : AV → List AV
  | .agg cs => cs
  | x => [x]

def sc (x : Value) : Option AV := if scalar x then some (.v x) else none
def scAll : List Value → Option (List AV)
  | [] => some []
  | x :: r => do let a ← sc x; let b ← scAll r; pure (a :: b)
def ofValue : Value → Option AV
  | .agg cs => (scAll cs.toList).map .agg
  | .tuple vs => if Nat.beq vs.size 0 then some und else none
  | x => sc x
def unSc : AV → Option Value
  | .v x => some x
  | _ => none
def unAll : List AV → Option (List Value)
  | [] => some []
  | x :: r => do let a ← unSc x; let b ← unAll r; pure (a :: b)
def toValue : AV → Option Value
  | .v x => some x
  | .agg cs => (unAll cs).map fun l => .agg l.toArray
  | .tup cs => (unAll cs).map fun l => .tuple l.toArray
  | .iface t x => (toValue x).map (.iface t)
  | _ => none
def outValue : Value → Option AV
  | .agg cs => (scAll cs.toList).map .agg
  | .tuple cs => (scAll cs.toList).map .tup
  | x => sc x

/-! ### The program's facts -/
variable (P : Program)

def isAggT (t : TypeId) : Option Bool :=
  match P.underlying t with
  | some (.struct _) | some (.array _ _) => some true
  | some _ => some false
  | none => none
def sizeT (t : TypeId) : Option Nat := (P.info? t).map (·.size)
def bytesT (t : TypeId) : Option Nat := (P.info? t).map (·.bytes)
def zeroT (t : TypeId) : Option Value := (P.info? t).bind (·.zero)
def zeroCellsT (t : TypeId) : Option (List AV) := (zeroT P t).bind fun z => scAll z.cells.toList

/-- An operation that neither reads nor writes: run as it stands. -/
def runPure {α : Type} : Sem α → Option α
  | .pure a => some a
  | .program k => runPure (k P)
  | .mark _ k => runPure k
  | _ => none

/-- What stands at a place, read as a type. -/
def takeT (t : TypeId) (cs : List AV) : Option AV := do
  if ← isAggT P t then
    let n ← sizeT P t
    if Nat.ble n cs.length then some (.agg (cs.take n)) else none
  else cs.head?

def partT (t : TypeId) (cs : List AV) (off : Nat) : Option AV := do
  if ← isAggT P t then
    let n ← sizeT P t
    if Nat.ble (off + n) cs.length then some (.agg ((cs.drop off).take n)) else none
  else cs[off]?

def fillA (place : Nat → Option (Nat × Nat)) (cells : List AV) : List (Nat × AV) → Option (List AV)
  | [] => some cells
  | (i, v) :: rest =>
    match place i with
    | none => none
    | some (off, size) =>
      let cs := cellsOf v
      if Nat.beq cs.length size && Nat.ble (off + size) cells.length && cs.all isCell then fillA place (cells.take off ++ cs ++ cells.drop (off + size)) rest else none

def places (fs : List Field) : Option (List (Nat × Nat)) :=
  match fs with
  | [] => some []
  | f :: r => do let s ← sizeT P f.type; let q ← places r; pure ((f.offset, s) :: q)

def asNat : AV → Option Nat
  | .v (.int _ i) => if 0 ≤ i then some i.toNat else none
  | _ => none

def bytesOfCells : List AV → Option ByteArray
  | [] => some .empty
  | l => (go l .empty)
where
  go : List AV → ByteArray → Option ByteArray
    | [], acc => some acc
    | .v (.int .u8 n) :: r, acc => go r (acc.push (UInt8.ofNat n.toNat))
    | _ :: _, _ => none

variable (G : Nat → Option (List AV))

def opd (T : Tm) : Operand → Option AV
  | .tmp t => some (gt T t)
  | .const x => ofValue x
  | .global g => (G g).map .ref
  | .func f => some (.fn (.func f) [] [])
def opds (T : Tm) : List Operand → Option (List AV)
  | [] => some []
  | x :: r => do let a ← opd G T x; let b ← opds T r; pure (a :: b)

def bnd (T : Tm) (x : Option Operand) (d : Nat) : Option Nat :=
  match x with
  | none => some d
  | some i => (opd G T i).bind asNat

def bnd0 (T : Tm) (x : Option Operand) : Option Nat :=
  match x with
  | none => none
  | some i => (opd G T i).bind asNat

/-- What a slice holds: its cells, as many as its elements take. -/
def heldBy (s : St) (size : Nat) : AV → Option (List AV × Nat)
  | .v (.slice none _ _) => some ([], 0)
  | .e0 => some ([], 0)
  | .sl cs len _ => if Nat.ble (len * size) cs.length then some (cs.take (len * size), len) else none
  | .ms b off len =>
    match s.get b with
    | some (.box c _) => if Nat.ble (off + len * size) c.length then some ((c.drop off).take (len * size), len) else none
    | _ => none
  | .mg b len =>
    match s.get b with
    | some (.box c _) => if Nat.ble (len * size) c.length then some (c.take (len * size), len) else none
    | _ => none
  | .v (.string x) => if Nat.beq size 1 then some (x.data.toList.map fun b => .v (.int .u8 b.toNat), x.size) else none
  | _ => none

/-- A block's kind: how large its elements are (0: one variable), and of what type (from tyBase on). -/
def tyBase : Nat := 4294967296
def codeOf (t size : Nat) : Nat := tyBase * (t + 1) + size

def tooLong (bytes need : Nat) : Bool := !(Nat.ble ((2 * need + 2048) * bytes) (2 ^ 47)) || Nat.beq bytes 0

def appendA (e : TypeId) (s : St) (x y : AV) : Option (AV × St) := do
  let size ← sizeT P e
  let bytes ← bytesT P e
  let z ← zeroCellsT P e
  let (ys, n) ← heldBy s size y
  if !(Nat.beq z.length size) || !(Nat.beq ys.length (n * size)) then none else
  match x with
  | .v (.slice none _ _) | .e0 =>
    if Nat.beq n 0 then some (x, s) else
    if tooLong bytes n || !s.room || !(ys.all isCell) then none else
    some (.sl ys n (some s.n), s.new (.row (n * size) size))
  | .sl cs len (some t) =>
    match s.get t with
    | some (.row tip esz) =>
      if tooLong bytes (len + n) || !s.room || !(Nat.beq tip (len * size)) || !(Nat.beq esz size) || !(Nat.ble tip cs.length) || !(ys.all isCell) then none else
      some (.sl (cs.take tip ++ ys) (len + n) (some s.n), (s.put t .dead).new (.row (tip + n * size) size))
    | _ => none
  | _ => none

/-- Where the row is one that is written. -/
def appendM (e : TypeId) (s : St) (x y : AV) : Option (AV × St) := do
  let size ← sizeT P e
  let bytes ← bytesT P e
  let z ← zeroCellsT P e
  let (ys, n) ← heldBy s size y
  if !(Nat.beq z.length size) || !(Nat.beq ys.length (n * size)) then none else
  match x with
  | .v (.slice none _ _) | .e0 =>
    if Nat.beq n 0 then some (x, s) else
    if tooLong bytes n || !s.room || !(ys.all isCell) || Nat.beq size 0 || !(Nat.ble (size + 1) tyBase) then none else
    some (.mg s.n n, s.new (.box ys (codeOf e size)))
  | .mg b len =>
    match s.get b with
    | some (.box cs esz) =>
      if tooLong bytes (len + n) || !s.room || !(Nat.beq cs.length (len * size)) || !(Nat.beq esz (codeOf e size)) || !(ys.all isCell) || Nat.beq size 0 || !(Nat.ble (size + 1) tyBase) then none else
      some (.mg s.n (len + n), (s.put b .dead).new (.box (cs ++ ys) (codeOf e size)))
    | _ => none
  | _ => none
def appendX (mu : Bool) (e : TypeId) (s : St) (x y : AV) : Option (AV × St) :=
  match x with
  | .mg _ _ => appendM P e s x y
  | .v _ | .e0 => if mu then appendM P e s x y else appendA P e s x y
  | _ => appendA P e s x y

def sameKey : Value → Value → Option Bool
  | .int k a, .int k' b => if k = k' then some (a == b) else none
  | .string a, .string b => some (a == b)
  | _, _ => none
def findA (k : Value) : List (Value × AV) → Option (Option AV)
  | [] => some none
  | e :: es => do if ← sameKey k e.1 then pure (some e.2) else findA k es
def findIn (s : St) (k : Value) : AV → Option (Option AV)
  | .v (.map none) => some none
  | .mp m =>
    match s.get m with
    | some (.map es) => findA k es
    | _ => none
  | _ => none
def setA (k : Value) (x : AV) : List (Value × AV) → Option (List (Value × AV))
  | [] => some [(k, x)]
  | e :: es => do if ← sameKey k e.1 then pure ((k, x) :: es) else do let r ← setA k x es; pure (e :: r)
def keyT (t : TypeId) (k : Value) : Bool :=
  match P.underlying t, k with
  | some .string, .string _ => true
  | some (.int _), .int _ _ => true
  | _, _ => false

def notNil : AV → Bool
  | .ref _ | .box _ _ | .sl _ _ _ | .ms _ _ _ | .mg _ _ | .e0 | .mp _ | .fn _ _ _ => true
  | _ => false
/-- A comparison with nil: of what there is. -/
def eqNil (t : TypeId) (x y : AV) : Option Bool :=
  match P.underlying t, x, y with
  | some (.pointer _), .ref _, .v (.pointer none) | some (.pointer _), .box _ _, .v (.pointer none)
  | some (.pointer _), .v (.pointer none), .ref _ | some (.pointer _), .v (.pointer none), .box _ _
  | some (.slice _), .sl _ _ _, .v (.slice none _ _) | some (.slice _), .ms _ _ _, .v (.slice none _ _) | some (.slice _), .mg _ _, .v (.slice none _ _) | some (.slice _), .e0, .v (.slice none _ _)
  | some (.map _ _), .mp _, .v (.map none)
  | some (.func _ _ _), .fn _ _ _, .v .nilFunc
  | some (.interface _), .iface _ _, .v .nilIface => some false
  | _, _, _ => none

/-- A scalar of which alone some comparisons are known. -/
def cmpV (op : BinOp) (x y : Value) : Option Bool :=
  match x, y with
  | .int k a, .int k' b =>
    if k = k' then
      match op with
      | .eql => some (a == b)
      | .neq => some (a != b)
      | .lss => some (decide (a < b))
      | .leq => some (decide (a ≤ b))
      | .gtr => some (decide (a > b))
      | .geq => some (decide (a ≥ b))
      | _ => none
    else none
  | .string a, .string b =>
    match op with
    | .eql => some (a.toList == b.toList)
    | .neq => some (!(a.toList == b.toList))
    | _ => none
  | _, _ => none
def keyIs (k x : Value) : Bool := match sameKey k x with | some true => true | _ => false
def symLook (op : BinOp) (l : Value) : List (BinOp × Value × Bool) → Option Bool
  | [] => none
  | (o, m, b) :: r => if o = op && keyIs l m then some b else symLook op l r
def symCmp (op : BinOp) (a b : AV) : Option Bool :=
  match a, b with
  | .sy _ bits, .v l => symLook op l bits
  | .v l, .sy _ bits => if op = .eql then symLook op l bits else none
  | _, _ => none
/-- A pointer held against itself. -/
def ptrEq (t : TypeId) (x y : AV) : Option Bool :=
  match P.underlying t, x, y with
  | some (.pointer e), .box i a, .box j b => if Nat.beq i j && Nat.beq a b && (P.info? e).isSome then some true else none
  | _, _, _ => none
def eqRef (t : TypeId) (x y : AV) : Option Bool :=
  match eqNil P t x y with
  | some r => some r
  | none => ptrEq P t x y

/-- A pointer turned to unsafe.Pointer, and back to its own type. -/
def toUnsafe (e : TypeId) (s : St) (x : AV) : Option (AV × St) :=
  match x with
  | .box i off =>
    match s.get i, sizeT P e with
    | some (.box cs _), some n => if Nat.ble (off + 1) cs.length && !(Nat.beq n 0) then some (.box i off, s) else none
    | _, _ => none
  | _ => none
def fromUnsafe (u : TypeId) (s : St) (x : AV) : Option (AV × St) :=
  match x with
  | .box i off =>
    match s.get i with
    | some (.box cs k) =>
      if Nat.ble tyBase k && Nat.beq (k % tyBase) 0 && (P.info? u).isSome && liesAt P P.depth (k / tyBase - 1) (cs.length / P.cellsOf (k / tyBase - 1)) off u 1 then some (.box i off, s) else none
    | _ => none
  | _ => none
/-- The first element's address. -/
def sliceData : AV → Option AV
  | .mg b len => if Nat.ble 1 len then some (.box b 0) else none
  | .v (.slice none _ _) => some (.v (.pointer none))
  | _ => none
def rowOf (s : St) (b : Nat) : Option (List AV × Nat) :=
  match s.get b with
  | some (.box cs k) => some (cs, k)
  | some (.fz cs k) => some (cs, k)
  | _ => none
def bytesEx : List AV → Option (List UInt8)
  | [] => some []
  | .v (.int .u8 (.ofNat m)) :: r =>
    if Nat.ble m 255 then
      match bytesEx r with
      | some l => some (UInt8.ofNat m :: l)
      | none => none
    else none
  | _ :: _ => none
/-- A row's bytes as a text: the row is written no more. -/
def unsafeStr (pt : TypeId) (s : St) (x : AV) (n : Nat) : Option (AV × St) :=
  match x with
  | .v (.pointer none) => if Nat.beq n 0 then some (.v (.string .empty), s) else none
  | .box b 0 =>
    match rowOf s b, P.underlying pt with
    | some (cs, k), some (.pointer e) =>
      if Nat.ble 1 n && Nat.ble n cs.length && Nat.ble n (2 ^ 40) && Nat.beq (k % tyBase) 1 && Nat.beq (k / tyBase) (e + 1) && Nat.beq (P.cellsOf e) 1 then
        match bytesEx (cs.take n) with
        | some l => some (.v (.string ⟨l.toArray⟩), s.put b (.fz cs k))
        | none => none
      else none
    | _, _ => none
  | _ => none

/-- The method behind an interface value. -/
def methodA (t : TypeId) (name : String) : Option FuncId :=
  match P.info? t with
  | none => none
  | some i =>
    match i.methods.find? (·.name == name) with
    | none => none
    | some m =>
      if !m.path.isEmpty then none else
      match m.func, P.underlying t with
      | some (f, true), some (.pointer _) => some f
      | some (f, false), some (.pointer _) => none
      | some (f, false), some _ => some f
      | _, _ => none

def isPan : AV → Option AV
  | .pan y => some y
  | _ => none

abbrev Call := Fn → List AV → St → Option (AV × St)

def scalarOp (T : Tm) (o : Oper) : Option AV := do
  let r ← runPure P (execOp (fun x => ((opd G T x).bind toValue).getD undef) o)
  match r with
  | .value v => outValue v
  | .skip => some und
  | _ => none

def allScalar (T : Tm) (xs : List Operand) : Bool := xs.all fun x => ((opd G T x).bind toValue).isSome

def callA (call : Call) (f : FuncId) (args : List AV) (s : St) : Option (AV × St) :=
  match P.funcs[f]? with
  | none => none
  | some fn =>
    match fn.body with
    | some _ => call (.func f) args s
    | none =>
      if fn.name == "internal/abi.NoEscape" && (Extern.findNext fn).isNone then (match args with | [x] => some (x, s) | _ => none) else do
      let vs ← unAll args
      let r ← runPure P (callFunc f vs.toArray)
      match r with
      | .value v => do let x ← outValue v; pure (x, s)
      | _ => none

def callB (call : Call) (f : FuncId) (args : List AV) (s : St) : Option (AV × St) :=
  match P.funcs[f]? with
  | none => none
  | some fn =>
    match fn.body with
    | some _ =>
      match call (.func f) args s with
      | some (x, s') => if (isPan x).isNone then some (x, s') else none
      | none => none
    | none => none

def parts (T : Tm) : List (Nat × Operand) → Option (List (Nat × AV))
  | [] => some []
  | (i, x) :: r => do let a ← opd G T x; let b ← parts T r; pure ((i, a) :: b)

def rep (z : List AV) : Nat → List AV
  | 0 => []
  | n + 1 => z ++ rep z n

def evOp (call : Call) (o : Oper) (T : Tm) (s : St) : Option (AV × St) :=
  match o.op with
  | .move x | .assign x => do let a ← opd G T x; pure (a, s)
  | .pick c a b => do
    match ← opd G T c with
    | .v (.bool true) => do let x ← opd G T a; pure (x, s)
    | .v (.bool false) => do let x ← opd G T b; pure (x, s)
    | _ => none
  | .alloc t => do
    let z ← zeroCellsT P t
    if s.room then some (.box s.n 0, s.new (.box z (codeOf t 0))) else none
  | .box _ x => do
    let a ← opd G T x
    if s.room && (cellsOf a).all isCell then some (.box s.n 0, s.new (.box (cellsOf a) 0)) else none
  | .build t ps => do
    let z ← zeroCellsT P t
    let ps ← parts G T ps.toList
    match P.underlying t with
    | some (.struct fs) => do
      let pl ← places P fs.toList
      let cs ← fillA (pl[·]?) z ps
      pure (.agg cs, s)
    | some (.array _ e) => do
      let size ← sizeT P e
      let cs ← fillA (fun i => some (i * size, size)) z ps
      pure (.agg cs, s)
    | _ => none
  | .buildSlice t len ps => do
    match P.underlying t with
    | some (.slice e) => do
      let size ← sizeT P e
      let z ← zeroCellsT P e
      let ps ← parts G T ps.toList
      if !(Nat.beq z.length size) || !(Nat.ble (len * size) (2 ^ 24)) then none else
      let cs ← fillA (fun i => some (i * size, size)) (rep z len) ps
      if T.mu.2 then (if cs.all isCell then some (.sl cs len none, s) else none)
      else if s.room && cs.all isCell then some (.sl cs len (some s.n), s.new (.row (len * size) size)) else none
    | _ => none
  | .load t a => do
    match ← opd G T a with
    | .ref cs => do let x ← takeT P t cs; pure (x, s)
    | .box b off =>
      match s.get b with
      | some (.box c _) => do let x ← takeT P t (c.drop off); pure (x, s)
      | _ => none
    | _ => none
  | .store t a x => do
    let y ← opd G T x
    let n ← sizeT P t
    let cs := cellsOf y
    match ← opd G T a with
    | .box b off =>
      match s.get b with
      | some (.box c e) =>
        if Nat.beq cs.length n && Nat.ble (off + n) c.length && cs.all isCell then some (und, s.put b (.box (c.take off ++ cs ++ c.drop (off + n)) e)) else none
      | _ => none
    | _ => none
  | .nilCheck x => do
    match ← opd G T x with
    | .ref cs => pure (.ref cs, s)
    | .box b off => pure (.box b off, s)
    | .fn (.func f) a b => pure (.fn (.func f) a b, s)
    | _ => none
  | .binOp op t x y _ =>
    if allScalar G T [x, y] then (scalarOp P G T o).map (·, s) else do
      let a ← opd G T x
      let b ← opd G T y
      match symCmp op a b with
      | some r => pure (.v (.bool r), s)
      | none => do
        let r ← eqRef P t a b
        match op with
        | .eql => pure (.v (.bool r), s)
        | .neq => pure (.v (.bool !r), s)
        | _ => none
  | .unOp _ _ x => if allScalar G T [x] then (scalarOp P G T o).map (·, s) else none
  | .convert src dst x =>
    match P.underlying src, P.underlying dst with
    | some .string, some (.slice e) => do
      match P.underlying e, ← opd G T x with
      | some (.int .u8), .v (.string b) =>
        if s.room && Nat.ble b.size (2 ^ 40) then some (.sl (b.data.toList.map fun c => .v (.int .u8 c.toNat)) b.size (some s.n), s.new (.row b.size 1)) else none
      | _, _ => none
    | some (.slice e), some .string => do
      match P.underlying e with
      | some (.int .u8) => do
        let a ← opd G T x
        match a with
        | .v (.slice none _ _) => pure (.v (.string .empty), s)
        | .e0 => pure (.v (.string .empty), s)
        | .sl _ _ _ | .ms _ _ _ | .mg _ _ => do
          let (cs, _) ← heldBy s 1 a
          let b ← bytesOfCells cs
          pure (.v (.string b), s)
        | _ => none
      | _ => none
    | some (.slice e), some (.slice _) => do
      match P.underlying e, ← opd G T x with
      | some (.int .u8), .sl cs len (some t) =>
        match s.get t with
        | some (.row tip esz) => if Nat.beq src dst then pure (.sl cs len (some t), s.put t (.row tip esz)) else none
        | _ => none
      | _, _ => none
    | some (.pointer e), some .unsafePointer => do toUnsafe P e s (← opd G T x)
    | some .unsafePointer, some (.pointer u) => do fromUnsafe P u s (← opd G T x)
    | _, _ => if allScalar G T [x] then (scalarOp P G T o).map (·, s) else none
  | .makeFunc fn first captured => do
    let a ← opds G T first.toList
    let b ← opds G T captured.toList
    match fn with
    | .func f => pure (.fn (.func f) a b, s)
    | _ => none
  | .makeInterface t x =>
    match P.underlying t with
    | none | some (.interface _) => none
    | some _ => do let a ← opd G T x; pure (.iface t a, s)
  | .typeAssert x _ t ok =>
    match P.underlying t with
    | none | some (.interface _) => none
    | some _ => do
      match ← opd G T x with
      | .iface u a =>
        if Nat.beq u t then (if ok then pure (.tup [a, .v (.bool true)], s) else pure (a, s))
        else if ok then do let z ← (zeroT P t).bind ofValue; pure (.tup [z, .v (.bool false)], s) else none
      | _ => none
  | .panic x => do
    match ← opd G T x with
    | .iface t a => pure (.pan (.iface t a), s)
    | _ => none
  | .makeMap _ r =>
    match r with
    | none => if s.room then some (.mp s.n, s.new (.map [])) else none
    | some _ => none
  | .makeSlice t l c => do
    match P.underlying t with
    | some (.slice e) => do
      let size ← sizeT P e
      let bytes ← bytesT P e
      let z ← zeroCellsT P e
      let l ← asNat (← opd G T l)
      let c ← asNat (← opd G T c)
      if !(Nat.beq z.length size) || !s.room || !(Nat.ble (bytes * c) (2 ^ 40)) || !(Nat.ble c (2 ^ 40)) then none else
      if Nat.beq l c then some (.ms s.n 0 l, s.new (.box (rep z l) 0)) else
      if Nat.beq l 0 then some (.sl [] 0 (some s.n), s.new (.row 0 size)) else none
    | _ => none
  | .slice t x lo hi mx => do
    match P.underlying t with
    | some .string => if mx.isNone && allScalar G T (x :: (lo.toList ++ hi.toList)) then (scalarOp P G T o).map (·, s) else none
    | some (.slice e) => do
      let size ← sizeT P e
      let l ← bnd G T lo 0
      let a ← opd G T x
      match mx with
      | some m => do
        let h ← bnd0 G T hi
        let m ← asNat (← opd G T m)
        if Nat.beq l 0 && Nat.beq h 0 && Nat.beq m 0 then
          match a with
          | .v (.slice none x y) => pure (.v (.slice none x y), s)
          | .sl _ _ _ | .ms _ _ _ | .mg _ _ | .e0 => pure (.e0, s)
          | _ => none
        else none
      | none =>
        match a with
        | .v (.slice none x y) => do
          let h ← bnd G T hi 0
          if Nat.beq l 0 && Nat.beq h 0 then pure (.v (.slice none x y), s) else none
        | .e0 => do
          let h ← bnd G T hi 0
          if Nat.beq l 0 && Nat.beq h 0 then pure (.e0, s) else none
        | .sl cs len tok => do
          let h ← bnd G T hi len
          if !(Nat.ble l h) || !(Nat.ble h len) then none else
          if Nat.beq l len then pure (.sl [] 0 none, s) else
          pure (.sl (cs.drop (l * size)) (h - l) (if Nat.beq l 0 && Nat.beq h len then tok else none), s)
        | .ms b off len => do
          let h ← bnd G T hi len
          if !(Nat.ble l h) || !(Nat.ble h len) then none else
          if Nat.beq l len then pure (.sl [] 0 none, s) else
          pure (.ms b (off + l * size) (h - l), s)
        | .mg b len => do
          let h ← bnd G T hi len
          if !(Nat.ble l h) || !(Nat.ble h len) then none else
          if Nat.beq l len then pure (.sl [] 0 none, s) else
          if Nat.beq l 0 && Nat.beq h len then pure (.mg b len, s) else
          pure (.ms b (l * size) (h - l), s)
        | _ => none
    | some (.array n e) => do
      let size ← sizeT P e
      let l ← bnd G T lo 0
      let h ← bnd G T hi n
      if mx.isSome || !(Nat.ble l h) || !(Nat.ble h n) then none else
      if Nat.beq l n then none else
      match ← opd G T x with
      | .box b off => pure (.ms b (off + l * size) (h - l), s)
      | .ref cs => pure (.sl (cs.drop (l * size)) (h - l) none, s)
      | _ => none
    | _ => none
  | .fieldAddr st x f => do
    match P.underlying st with
    | some (.struct fs) => do
      let f ← fs[f]?
      let size ← sizeT P f.type
      if Nat.beq size 0 then none else
      match ← opd G T x with
      | .ref cs => pure (.ref (cs.drop f.offset), s)
      | .box b off => pure (.box b (off + f.offset), s)
      | _ => none
    | _ => none
  | .field t x f => do
    match P.underlying t with
    | some (.struct fs) => do
      let f ← fs[f]?
      match ← opd G T x with
      | .agg cs => do let y ← partT P f.type cs f.offset; pure (y, s)
      | _ => none
    | _ => none
  | .indexAddr t x ix => do
    let i ← asNat (← opd G T ix)
    match P.underlying t with
    | some (.slice e) => do
      let size ← sizeT P e
      match ← opd G T x with
      | .sl cs len _ => if Nat.ble (i + 1) len then pure (.ref (cs.drop (i * size)), s) else none
      | .ms b off len => if Nat.ble (i + 1) len then pure (.box b (off + i * size), s) else none
      | .mg b len => if Nat.ble (i + 1) len then pure (.box b (i * size), s) else none
      | _ => none
    | some (.array len e) => do
      let size ← sizeT P e
      match ← opd G T x with
      | .ref cs => if Nat.ble (i + 1) len then pure (.ref (cs.drop (i * size)), s) else none
      | .box b off => if Nat.ble (i + 1) len then pure (.box b (off + i * size), s) else none
      | _ => none
    | _ => none
  | .index t x ix => do
    match P.underlying t with
    | some (.array len e) => do
      let i ← asNat (← opd G T ix)
      let size ← sizeT P e
      match ← opd G T x with
      | .agg cs => if Nat.ble (i + 1) len then do let y ← partT P e cs (i * size); pure (y, s) else none
      | _ => none
    | _ => if allScalar G T [x, ix] then (scalarOp P G T o).map (·, s) else none
  | .lookup t x ix ok => do
    match P.underlying t with
    | some (.map k e) => do
      let key ← unSc (← opd G T ix)
      let z ← (zeroT P e).bind ofValue
      if !(keyT P k key) then none else
      let r ← findIn s key (← opd G T x)
      let v := r.getD z
      if ok then pure (.tup [v, .v (.bool r.isSome)], s) else pure (v, s)
    | _ => none
  | .mapUpdate t m k x | .insert t m k x => do
    match P.underlying t with
    | some (.map kt _) => do
      let key ← unSc (← opd G T k)
      let y ← opd G T x
      if !(keyT P kt key) then none else
      match ← opd G T m with
      | .mp m =>
        match s.get m with
        | some (.map es) => do let es' ← setA key y es; pure (und, s.put m (.map es'))
        | _ => none
      | _ => none
    | _ => none
  | .extract t ix => do
    match ← opd G T t with
    | .tup vs => do let v ← vs[ix]?; pure (v, s)
    | _ => none
  | .call c => do
    let args : List AV ← opds G T c.args.toList
    match c.callee with
    | .builtin .len => do
      let t0 : TypeId ← c.argTypes[0]?
      match P.underlying t0, (args.head? : Option AV) with
      | some .string, some (.v (.string b)) => pure (.v (goInt b.size), s)
      | some (.slice _), some (.v (.slice none l _)) => pure (.v (goInt l), s)
      | some (.slice _), some .e0 => pure (.v (goInt 0), s)
      | some (.slice _), some (.sl _ len _) => pure (.v (goInt len), s)
      | some (.slice _), some (.ms _ _ len) => pure (.v (goInt len), s)
      | some (.slice _), some (.mg _ len) => pure (.v (goInt len), s)
      | some (.array n _), some _ => pure (.v (goInt n), s)
      | some (.map _ _), some (.v (.map none)) => pure (.v (goInt 0), s)
      | some (.map _ _), some (.mp m) =>
        match s.get m with
        | some (.map es) => pure (.v (goInt es.length), s)
        | _ => none
      | _, _ => none
    | .builtin .append => do
      let t0 : TypeId ← c.argTypes[0]?
      let t1 : TypeId ← c.argTypes[1]?
      match P.underlying t0, args with
      | some (.slice e), [x, y] =>
        match P.underlying t1 with
        | some (.slice _) | some .string => appendX P T.mu.1 e s x y
        | _ => none
      | _, _ => none
    | .builtin .copy => do
      let t0 : TypeId ← c.argTypes[0]?
      match P.underlying t0, args with
      | some (.slice e), [.ms b off len, y] => do
        let size ← sizeT P e
        let (ys, n) ← heldBy s size y
        match s.get b with
        | some (.box d e) =>
          let k := Nat.min n len
          let cs := ys.take (k * size)
          if Nat.ble (off + k * size) d.length && Nat.beq cs.length (k * size) && cs.all isCell && Nat.beq ys.length (n * size) then some (.v (goInt k), s.put b (.box (d.take off ++ cs ++ d.drop (off + k * size)) e)) else none
        | _ => none
      | _, _ => none
    | .builtin .max | .builtin .min => if allScalar G T c.args.toList then (scalarOp P G T o).map (·, s) else none
    | .builtin .unsafeSliceData =>
      match args with
      | [x] => do pure (← sliceData x, s)
      | _ => none
    | .builtin .unsafeString =>
      match c.argTypes.toList, args with
      | [pt, _], [x, .v (.int .i64 (.ofNat n))] => unsafeStr P pt s x n
      | _, _ => none
    | .builtin _ => none
    | .invoke recv name => do
      match ← opd G T recv with
      | .iface t x => do callA P call (← methodA P t name) (x :: args) s
      | _ => none
    | .value f => do
      match ← opd G T f with
      | .fn (.func g) first captured => callA P call g (first ++ args ++ captured) s
      | .fn (.yield l) [] [] => call (.yield l) args s
      | _ => none
  | _ => none

def yieldedA (ops : Array Oper) (T : Tm) (j : Nat) : Option Bool :=
  match (ops[j]?).bind (·.dst) with
  | some d => match gt T d with
    | .v (.bool b) => some b
    | _ => none
  | none => none

/-- A call that is put off. -/
def deferA (T : Tm) (c : Go.Call) : Option (Nat × List AV × List AV) :=
  match c.callee with
  | .value f => do
    match ← opd G T f with
    | .fn (.func g) first captured => do let args ← opds G T c.args.toList; pure (g, first ++ args, captured)
    | _ => none
  | _ => none
def evOps (call : Call) (dok : Bool) (ops : Array Oper) : List Nat → Tm → St → Option (Option AV × Tm × St)
  | [], T, s => some (none, T, s)
  | i :: rest, T, s =>
    match ops[i]? with
    | none => none
    | some o =>
      if Region.wanted o (yieldedA ops T) then
        match o.op with
        | .defer c =>
          match T.ds, o.dst, dok, deferA G T c with
          | [], none, true, some d => evOps call dok ops rest { T with dl := d :: T.dl } s
          | _, _, _, _ => none
        | _ =>
          match evOp P G call o T s with
          | some (x, s') =>
            match isPan x with
            | some y => some (some y, T, s')
            | none =>
              match putT T o.dst x with
              | some T' => evOps call dok ops rest T' s'
              | none => none
          | none => none
      else match putT T o.dst und with
        | some T' => evOps call dok ops rest T' s
        | none => none

inductive Ex where
  | normal
  | exit (id : Nat)
  | goto (l : Nat)
  | ret
  | panic (x : AV)

/-- A region whose order is drawn: D says what comes of it. -/
abbrev Drawn := Array Oper → Tm → St → Option (Option AV × Tm × St)

def evScope (self : Code → Tm → St → Option (Ex × Tm × St)) (b : Code) : Nat → Code → Tm → St → Option (Ex × Tm × St)
  | 0, _, _, _ => none
  | n + 1, c, T, s =>
    match self c T s with
    | some (.goto l, T, s) =>
      match findLabel b l with
      | some rest => evScope self b n rest T s
      | none => none
    | r => r

def evCode (D : Call → Drawn) (call : Call) (rb : Bool) : Nat → Code → Tm → St → Option (Ex × Tm × St)
  | 0, _, _, _ => none
  | k + 1, c, T, s =>
    match c with
    | .skip | .label _ => some (.normal, T, s)
    | .region _ ops draw =>
      if draw then match D call ops T s with
        | some (none, T, s) => some (.normal, T, s)
        | some (some y, T, s) => some (.panic y, T, s)
        | none => none
      else match evOps P G call (!rb) ops (List.range ops.size) T s with
        | some (none, T, s) => some (.normal, T, s)
        | some (some y, T, s) => some (.panic y, T, s)
        | none => none
    | .seq a b =>
      match evCode D call rb k a T s with
      | some (.normal, T, s) => evCode D call rb k b T s
      | r => r
    | .cond c a b =>
      match opd G T c with
      | some (.v (.bool true)) => evCode D call rb k a T s
      | some (.v (.bool false)) => evCode D call rb k b T s
      | _ => none
    | .block id b =>
      match evCode D call rb k b T s with
      | some (.exit i, T, s) => if i = id then some (.normal, T, s) else some (.exit i, T, s)
      | r => r
    | .loop b =>
      match evCode D call rb k b T s with
      | some (.normal, T, s) => evCode D call rb k (.loop b) T s
      | r => r
    | .scope b => if rb then none else evScope (fun c T s => evCode D call rb k c T s) b k b T s
    | .rangeFunc f ps asg body =>
      if rb || !(Nat.ble (s.n + 2) Tr.lid) then none else
      let s2 := (s.new .defs).new (.loop T ps.toList asg body .ready none)
      match opd G T f with
      | some (.fn (.func g) first captured) =>
        match callB P call g (first ++ [.fn (.yield (s.n + 1)) [] []] ++ captured) s2 with
        | some (_, s3) =>
          match s3.get (s.n + 1) with
          | some (.loop T1 ps1 asg1 body1 st pend) =>
            if st == .busy then none else
            let s4 := s3.put (s.n + 1) (.loop T1 ps1 asg1 body1 .exhausted pend)
            let T' := { T with ds := s.n :: T.ds }
            match pend with
            | none => some (.normal, T', s4)
            | some c => evCode D call rb k c T' s4
          | _ => none
        | none => none
      | _ => none
    | .exit id => some (.exit id, T, s)
    | .goto l => some (.goto l, T, s)
    | .ret => some (.ret, T, s)
    | _ => none

def initF : List AV → Nat → Tr AV
  | [], _ => .lf
  | x :: r, i => (initF r (i + 1)).set i (some x)
def initT (args : List AV) (n : Nat) : Tm := { n := args.length + (n - args.length), t := initF args 0 }

def resultA (T : Tm) (s : St) : ResultVar → Option AV
  | .tmp t => some (gt T t)
  | .cell a t =>
    match gt T a with
    | .box b off =>
      match s.get b with
      | some (.box c _) => takeT P t (c.drop off)
      | _ => none
    | _ => none
def resultsA (T : Tm) (s : St) : List ResultVar → Option (List AV)
  | [] => some []
  | x :: r => do let a ← resultA P T s x; let b ← resultsA T s r; pure (a :: b)

def putAll : Tm → List Nat → List AV → Option Tm
  | T, [], _ => some T
  | T, _, [] => some T
  | T, p :: ps, x :: xs => (putT T (some p) x).bind fun T' => putAll T' ps xs
def jumpOf : Ex → Option Code
  | .normal => none
  | .exit id => some (.exit id)
  | .goto l => some (.goto l)
  | .ret => some .ret
  | .panic _ => none
def killAll (s : St) : List Nat → Option St
  | [] => some s
  | d :: r =>
    match s.get d with
    | some .defs => killAll (s.put d .dead) r
    | _ => none

/-- What opens a deferred call that recovers: plain moves alone. -/
def evMoves (ops : Array Oper) : List Nat → Tm → Option Tm
  | [], T => some T
  | i :: rest, T =>
    match ops[i]? with
    | none => none
    | some o =>
      if Region.wanted o (yieldedA ops T) then
        match o.op with
        | .move x | .assign x =>
          match opd G T x with
          | some a =>
            match putT T o.dst a with
            | some T' => evMoves ops rest T'
            | none => none
          | none => none
        | _ => none
      else none
def isRecover (o : Oper) : Bool :=
  match o.op with
  | .call c => match c.callee with | .builtin .recover => true | _ => false
  | _ => false

/-- A deferred call that recovers first of all: p is what panics. -/
def evDef (run : Code → Tm → St → Option (Ex × Tm × St)) (g : Nat) (args : List AV) (p : Option AV) (s : St) : Option St :=
  match P.funcs[g]? with
  | none => none
  | some fn =>
    match fn.body with
    | some (.seq (.region _ ops false) c) =>
      match ops[0]? with
      | none => none
      | some o =>
        let T := initT args fn.ntmps
        if !(Nat.ble (args.length + fn.ntmps) Tr.lid) || !(Region.wanted o (yieldedA ops T)) || !(isRecover o) || !fn.results.isEmpty then none else
        match putT T o.dst (p.getD (.v .nilIface)) with
        | none => none
        | some T1 =>
          match evMoves G ops ((List.range ops.size).drop 1) T1 with
          | none => none
          | some T2 =>
            match run c T2 s with
            | some (.normal, T3, s3) | some (.ret, T3, s3) => if T3.ds.isEmpty && T3.dl.isEmpty then some s3 else none
            | _ => none
    | _ => none

/-- A deferred call that does not recover. -/
def evDefPlain (run : Code → Tm → St → Option (Ex × Tm × St)) (g : Nat) (args : List AV) (s : St) : Option St :=
  match P.funcs[g]? with
  | none => none
  | some fn =>
    match fn.body with
    | none => none
    | some c =>
      if !(Nat.ble (args.length + fn.ntmps) Tr.lid) || !fn.results.isEmpty then none else
      match run c (initT args fn.ntmps) s with
      | some (.normal, T3, s3) | some (.ret, T3, s3) => if T3.ds.isEmpty && T3.dl.isEmpty then some s3 else none
      | _ => none

def runDefs (run : Code → Tm → St → Option (Ex × Tm × St)) : List (Nat × List AV × List AV) → Option AV → St → Option (Option AV × St)
  | [], p, s => some (p, s)
  | (g, args, cap) :: r, p, s =>
    match evDef P G run g (args ++ cap) p s with
    | some s' => runDefs run r none s'
    | none =>
      match evDefPlain P run g (args ++ cap) s with
      | some s' => runDefs run r p s'
      | none => none

/-- How a function leaves: its deferred calls, then its results. -/
def finA (run : Code → Tm → St → Option (Ex × Tm × St)) (fn : Func) (T : Tm) (p : Option AV) (s : St) : Option (AV × St) :=
  match runDefs P G run T.dl p s with
  | some (none, s) =>
    match resultsA P T s fn.results.toList with
    | some [x] => some (x, s)
    | some xs => some (.tup xs, s)
    | none => none
  | some (some y, s) => some (.pan y, s)
  | none => none

def evBody (mu : Nat → Bool) (D : Call → Drawn) (K : Nat) (self : Call) : Call := fun fr args s =>
  match fr with
  | .func f =>
    match P.funcs[f]? with
    | none => none
    | some fn =>
      match fn.body with
      | none => none
      | some c =>
        if !(Nat.ble (args.length + fn.ntmps) Tr.lid) then none else
        match evCode P G D self false K c { initT args fn.ntmps with mu := (mu f, false) } s with
        | some (.normal, T, s) | some (.ret, T, s) =>
          match killAll s T.ds with
          | some s => finA P G (evCode P G D self false K) fn T none s
          | none => none
        | some (.panic y, T, s) =>
          match T.ds with
          | [] => finA P G (evCode P G D self false K) fn T (some y) s
          | _ => none
        | _ => none
  | .yield l =>
    match s.get l with
    | some (.loop T ps asg body .ready _) =>
      if !(Nat.beq ps.length args.length) || !(Nat.ble (l + 1) s.n) then none else
      match putAll { T with ds := [], dl := [] } ps args with
      | none => none
      | some T1 =>
        match evCode P G D self true K asg T1 s with
        | some (.normal, T2, s2) =>
          match s2.get l with
          | some (.loop Ta psa asga bodya .ready penda) =>
            match evCode P G D self true K body T2 (s2.put l (.loop Ta psa asga bodya .busy penda)) with
            | some (.panic _, _, _) => none
            | some (ex, _, s4) =>
              match s4.get l with
              | some (.loop Tb psb asgb bodyb _ _) =>
                some (.v (.bool (jumpOf ex).isNone), s4.put l (.loop Tb psb asgb bodyb (if (jumpOf ex).isNone then .ready else .done) (jumpOf ex)))
              | _ => none
            | none => none
          | _ => none
        | _ => none
    | _ => none
  | _ => none

def evFn (mu : Nat → Bool) (D : Call → Drawn) (K : Nat) (orc : Call) : Nat → Call
  | 0 => fun _ _ _ => none
  | k + 1 => fun fr args s =>
    match orc fr args s with
    | some r => some r
    | none => evBody P G mu D K (evFn mu D K orc k) fr args s

end Go.Ab
