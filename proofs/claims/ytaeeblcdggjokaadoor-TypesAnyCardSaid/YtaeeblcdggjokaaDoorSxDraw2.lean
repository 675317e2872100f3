/- Regions whose order is drawn, evaluated: any order comes to the same. -/
import Derived.Test.YtaeeblcdggjokaaDoorSxForget
namespace Go.Ab
set_option linter.unusedVariables false
set_option linter.unusedSimpArgs false
set_option linter.unusedSectionVars false
set_option linter.constructorNameAsVariable false
open Go Go.RowKit

section
variable [Interp] [fgI : Fg] (P : Program) (G : Nat → Option (List AV))
def evRec (call : Ab.Call) (ops : Array Oper) : List Nat → Tm → St → Option (List Tm × Tm × List St × St)
  | [], T, s => some ([], T, [], s)
  | i :: rest, T, s =>
    match fetch ops T i with
    | none => none
    | some o =>
      match (if Region.wanted o (yieldedA ops T) then evOp P G call o T s else some (und, s)) with
      | none => none
      | some (x, s') =>
        match (if (isPan x).isNone then putT T o.dst x else none) with
        | none => none
        | some T' =>
          match evRec call ops rest T' s' with
          | none => none
          | some (Ts, Tf, ss, sf) => some (T :: Ts, Tf, (if eff P o then s' :: ss else ss), sf)

/-- Operations in a row, none of which panics or is put off. -/
def evOps0 (call : Ab.Call) (ops : Array Oper) : List Nat → Tm → St → Option (Tm × St)
  | [], T, s => some (T, s)
  | i :: rest, T, s =>
    match fetch ops T i with
    | none => none
    | some o =>
      if Region.wanted o (yieldedA ops T) then
        match evOp P G call o T s with
        | some (x, s') =>
          match (if (isPan x).isNone then putT T o.dst x else none) with
          | some T' => evOps0 call ops rest T' s'
          | none => none
        | none => none
      else match putT T o.dst und with
        | some T' => evOps0 call ops rest T' s
        | none => none

/-- How many of the first operations act. -/
def effAt (ops : Array Oper) (j : Nat) : Bool := match ops[j]? with | some o => eff P o | none => false
def cnt (ops : Array Oper) (f : Nat → Bool) (i : Nat) : Nat := (List.range i).countP fun j => effAt P ops j && f j

def dynOk (call : Ab.Call) (ops : Array Oper) (Ts : List Tm) (Tf : Tm) (sts : List St) : Bool :=
  let ms := masks ops
  Nat.ble sts.length 1 ||
  ops.toList.zipIdx.all fun (o, i) =>
    match Ts[i]? with
    | none => false
    | some Ti =>
      eff P o || !Region.wanted o (yieldedA ops Ti) ||
      (List.range sts.length).all fun p =>
        !(Nat.ble (cnt P ops (fun j => bitOf ms i j) ops.size) p) || !(Nat.ble p (cnt P ops (fun j => !bitOf ms j i) ops.size)) ||
        match sts[p]? with
        | some s =>
          match evOp P G call o Ti s with
          | some (y, _) => (isPan y).isNone && (match o.dst with | some d => aEq y (gt Tf d) | none => true)
          | none => false
        | none => false

/-- Where a store goes. -/
def storeTo (T : Tm) (o : Oper) : Option Nat :=
  match o.op with
  | .store _ a _ => match opd G T a with
    | some (.box b _) => some b
    | _ => none
  | _ => none
/-- A new variable, and a call behind it. -/
def allocCall (op oq : Oper) : Bool :=
  match op.op, oq.op with
  | .alloc _, .call c => match c.callee with | .value _ => true | _ => false
  | _, _ => false
def callAlloc (op oq : Oper) : Bool := allocCall oq op
def allocPair (ops : Array Oper) (pr : Option (Nat × Nat)) : Bool :=
  match pr with
  | some (p, q) => match ops[p]?, ops[q]? with | some op, some oq => allocCall op oq || callAlloc op oq | _, _ => false
  | none => false
/-- Two stores that stand in no order: into different boxes; what does not act is the same between them, too. -/
def pairOk (call : Ab.Call) (ops : Array Oper) (Ts : List Tm) (Tf : Tm) (sts : List St) (pr : Option (Nat × Nat)) : Bool :=
  match pr with
  | none => true
  | some (p, q) =>
    match ops[p]?, ops[q]?, Ts[p]?, Ts[q]? with
    | some op, some oq, some Tp, some Tq =>
      Region.wanted op (yieldedA ops Tp) && Region.wanted oq (yieldedA ops Tq) && Nat.beq (cnt P ops (fun _ => true) q) (cnt P ops (fun _ => true) p + 1) && Nat.ble (p + 1) q && eff P op && eff P oq &&
      (match sts[cnt P ops (fun _ => true) p]? with
        | some sp =>
          match evOp P G call oq Tq sp with
          | some (y, alt) =>
            (match storeTo G Tp op, storeTo G Tq oq with
              | some b, some c => !Nat.beq b c && Nat.ble (b + 1) Tr.lid && Nat.ble (c + 1) Tr.lid
              | _, _ => false) &&
            ops.toList.zipIdx.all fun (o, i) =>
              match Ts[i]? with
              | none => false
              | some Ti =>
                eff P o || !Region.wanted o (yieldedA ops Ti) || bitOf (masks ops) i p || bitOf (masks ops) q i ||
                match evOp P G call o Ti alt with
                | some (y, _) => (isPan y).isNone && (match o.dst with | some d => aEq y (gt Tf d) | none => true)
                | none => false
          | none => false
        | none => false)
    | _, _, _, _ => false
def evDrawnG (call : Ab.Call) (ops : Array Oper) (T : Tm) (s : St) : Option (Tm × St) :=
  let pr := loosePair P ops
  if drawStatic P pr ops then
    match evRec P G call ops (List.range ops.size) { T with mu := (T.mu.1, true) } s with
    | some (Ts, Tf, ss, sf) => if dynOk P G call ops Ts Tf (s :: ss) && pairOk P G call ops Ts Tf (s :: ss) pr then some ({ Tf with mu := T.mu }, sf) else none
    | none => none
  else none

end
section
variable [Interp] (P : Program) (G : Nat → Option (List AV))
/-- Operations in a row that do not act. -/
def evPure (call : Ab.Call) (ops : Array Oper) : List Nat → Tm → St → Option Tm
  | [], T, s => some T
  | i :: rest, T, s =>
    match fetch ops T i with
    | none => none
    | some o =>
      if eff P o then none else
      if Region.wanted o (yieldedA ops T) then
        match evOp P G call o T s with
        | some (x, s') =>
          if (isPan x).isNone && T.mu.2 then
            match putT T o.dst x with
            | some T' => evPure call ops rest T' s
            | none => none
          else none
        | none => none
      else match putT T o.dst und with
        | some T' => evPure call ops rest T' s
        | none => none
def clearT : List Oper → Tm → Option Tm
  | [], T => some T
  | o :: r, T =>
    match putT T o.dst .any with
    | some T' => clearT r T'
    | none => none
/-- The first that acts panics. -/
def evPan (call : Ab.Call) : Drawn := fun ops T s =>
  match (ops.toList.zipIdx.filter fun x => eff P x.1).head? with
  | none => none
  | some (oi, i) =>
    let ms := masks ops
    if drawStatic P (loosePair P ops) ops && (ops.toList.zipIdx.all fun x => !eff P x.1 || (Nat.beq x.2 i || bitOf ms x.2 i)) then
      match evPure P G call ops ((List.range ops.size).filter fun k => !Nat.beq k i && !bitOf ms k i) { T with mu := (T.mu.1, true) } s with
      | some Tf =>
        if gk ops Tf oi && Region.wanted oi (yieldedA ops Tf) then
          match evOp P G call oi Tf s with
          | some (x, s') =>
            match isPan x with
            | some y =>
              let lo := ((List.range ops.size).filter fun k => !Nat.beq k i && !bitOf ms k i).filterMap (ops[·]?)
              match clearT lo T with
              | some T' => some (some y, T', s')
              | none => none
            | none => none
          | none => none
        else none
      | none => none
    else none

/-- Where a new variable stands in no order beside a call, nothing of the calls is kept but their results. -/
def evDrawn (call : Ab.Call) (ops : Array Oper) (T : Tm) (s : St) : Option (Tm × St) :=
  if allocPair ops (loosePair P ops) then evDrawnG (fgI := ⟨true⟩) P G (fgCall call) ops T s
  else evDrawnG P G call ops T s
/-- The first new variable. -/
def allocAt (ops : Array Oper) : Option (Nat × Oper × TypeId × Nat) :=
  ops.toList.zipIdx.findSome? fun (o, i) => match o.op, o.dst with
    | .alloc t, some d => some (i, o, t, d)
    | _, _ => none
def stubOp (o : Oper) : Oper := { o with op := .move (.const (.int .i64 0)) }
def firstRead (ops : Array Oper) (d : Nat) : Nat :=
  ((List.range ops.size).find? fun i => match ops[i]? with | some o => (readsOf ops o).any (Nat.beq d) | none => false).getD ops.size
def stubOps (ops : Array Oper) (ia m : Nat) (oa : Oper) : Array Oper := ((ops.toList.take m).set ia (stubOp oa)).toArray
def staticA (ops : Array Oper) (ia m d : Nat) : Bool :=
  Nat.ble (ia + 1) m && Nat.ble m ops.size &&
  ops.toList.zipIdx.all fun (o, i) => o.guard.isNone && (o.after.toList.all fun e => !Region.binds .any e || Nat.ble (e.on + 1) i) &&
    (Nat.ble m i || !(readsOf ops o).any (Nat.beq d)) && (Nat.ble (i + 1) m || (List.range i).all fun j => bitOf (masks ops) i j)
/-- A new variable that stands in no order beside calls: it is told of where its first reader stands. -/
def evDrawnA (call : Ab.Call) (ops : Array Oper) (T : Tm) (s : St) : Option (Tm × St) :=
  match allocAt ops with
  | none => none
  | some (ia, oa, t, d) =>
    let m := firstRead ops d
    if staticA ops ia m d then
      match evDrawnG P G call (stubOps ops ia m oa) T s, zeroCellsT P t with
      | some (Tf, sf), some z =>
        if sf.room then
          match putT Tf (some d) (.box sf.n 0) with
          | some T' => evOps0 P G call ops (List.range' m (ops.size - m)) T' (sf.new (.box z (codeOf t 0)))
          | none => none
        else none
      | _, _ => none
    else none
def evDrawnB (call : Ab.Call) (ops : Array Oper) (T : Tm) (s : St) : Option (Tm × St) :=
  if allocPair ops (loosePair P ops) then
    match evDrawnA P G call ops T s with
    | some r => some r
    | none => evDrawn P G call ops T s
  else evDrawn P G call ops T s
def evDrawnX (call : Ab.Call) : Drawn := fun ops T s =>
  match evDrawnB P G call ops T s with
  | some (T', s') => some (none, T', s')
  | none => evPan P G call ops T s
end

section
variable [Interp] {P : Program} {G : Nat → Option (List AV)}

theorem opds_congr {T T' : Tm} : ∀ {xs : List Operand}, (∀ x ∈ xs, opd G T x = opd G T' x) → opds G T xs = opds G T' xs
  | [], _ => rfl
  | x :: r, h => by
    have ih := opds_congr (xs := r) fun y hy => h y (by simp [hy])
    simp only [opds, h x (by simp), ih]
theorem parts_congr {T T' : Tm} : ∀ {xs : List (Nat × Operand)}, (∀ x ∈ xs.map (·.2), opd G T x = opd G T' x) → parts G T xs = parts G T' xs
  | [], _ => rfl
  | (i, x) :: r, h => by
    have ih := parts_congr (xs := r) fun y hy => h y (by simp only [List.map_cons, List.mem_cons]; exact .inr hy)
    simp only [parts, h x (by simp), ih]
theorem allScalar_congr {T T' : Tm} {xs : List Operand} (h : ∀ x ∈ xs, opd G T x = opd G T' x) : allScalar G T xs = allScalar G T' xs := by
  unfold allScalar
  induction xs with
  | nil => rfl
  | cons x r ih => simp only [List.all_cons, h x (by simp), ih fun y hy => h y (by simp [hy])]

theorem exec_congr {ρ ρ' : Operand → Value} {o : Oper} (h : ∀ x ∈ o.op.operands.toList, ρ x = ρ' x)
    (hk : (∃ a b c d e, o.op = .binOp a b c d e) ∨ (∃ a b c, o.op = .unOp a b c) ∨ (∃ a b c, o.op = .convert a b c) ∨ (∃ a b c, o.op = .index a b c) ∨ (∃ a b c d e, o.op = .slice a b c d e) ∨ ∃ c b, o.op = .call c ∧ c.callee = .builtin b) : execOp ρ o = execOp ρ' o := by
  rcases hk with ⟨a, b, c, d, e, hop⟩ | ⟨a, b, c, hop⟩ | ⟨a, b, c, hop⟩ | ⟨a, b, c, hop⟩ | ⟨a, b, c, d, e, hop⟩ | ⟨c, b, hop, hc⟩
  · have h1 := h c (by simp [hop, Op.operands]); have h2 := h d (by simp [hop, Op.operands]); simp only [execOp, hop, h1, h2]
  · have h1 := h c (by simp [hop, Op.operands]); simp only [execOp, hop, h1]
  · have h1 := h c (by simp [hop, Op.operands]); simp only [execOp, hop, h1]
  · have h1 := h b (by simp [hop, Op.operands]); have h2 := h c (by simp [hop, Op.operands]); simp only [execOp, hop, h1, h2]
  · have h1 := h b (by simp [hop, Op.operands])
    have h2 : c.map ρ = c.map ρ' := by cases c with | none => rfl | some x => simp only [Option.map_some]; rw [h x (by simp [hop, Op.operands])]
    have h3 : d.map ρ = d.map ρ' := by cases d with | none => rfl | some x => simp only [Option.map_some]; rw [h x (by simp [hop, Op.operands])]
    have h4 : e.map ρ = e.map ρ' := by cases e with | none => rfl | some x => simp only [Option.map_some]; rw [h x (by simp [hop, Op.operands])]
    simp only [execOp, hop, h1, h2, h3, h4]
  · have h1 : c.args.map ρ = c.args.map ρ' := by
      apply Array.map_congr_left
      intro x hx
      refine h x ?_
      rw [hop]
      simp only [Op.operands, Go.Call.operands, hc]
      simp [hx]
    simp only [execOp, hop, resolve, hc, h1]
theorem scalarOp_congr {T T' : Tm} {o : Oper} (h : ∀ x ∈ o.op.operands.toList, opd G T x = opd G T' x)
    (hk : (∃ a b c d e, o.op = .binOp a b c d e) ∨ (∃ a b c, o.op = .unOp a b c) ∨ (∃ a b c, o.op = .convert a b c) ∨ (∃ a b c, o.op = .index a b c) ∨ (∃ a b c d e, o.op = .slice a b c d e) ∨ ∃ c b, o.op = .call c ∧ c.callee = .builtin b) : scalarOp P G T o = scalarOp P G T' o := by
  unfold scalarOp
  rw [exec_congr (ρ' := fun x => ((opd G T' x).bind toValue).getD undef) (fun x hx => by rw [h x hx]) hk]

theorem bnd_congr {T T' : Tm} {x : Option Operand} (d : Nat) (h : ∀ y ∈ x.toList, opd G T y = opd G T' y) : bnd G T x d = bnd G T' x d := by
  cases x with
  | none => rfl
  | some y => simp only [bnd, h y (by simp)]
theorem bnd0_congr {T T' : Tm} {x : Option Operand} (h : ∀ y ∈ x.toList, opd G T y = opd G T' y) : bnd0 G T x = bnd0 G T' x := by
  cases x with
  | none => rfl
  | some y => simp only [bnd0, h y (by simp)]

theorem evOp1_congr {call : Ab.Call} {o : Oper} {T T' : Tm} {s : St} (hmu : T.mu = T'.mu) (h : ∀ x ∈ o.op.operands.toList, opd G T x = opd G T' x) : evOp1 P G call o T s = evOp1 P G call o T' s := by
  cases hop : o.op <;> rw [hop] at h <;> simp only [Op.operands] at h
  case move x => have h1 := h x (by simp); simp only [evOp1, hop, h1]
  case assign x => have h1 := h x (by simp); simp only [evOp1, hop, h1]
  case pick c a b => have h1 := h c (by simp); have h2 := h a (by simp); have h3 := h b (by simp); simp only [evOp1, hop, h1, h2, h3]
  case alloc t => simp only [evOp1, hop]
  case box t x => have h1 := h x (by simp); simp only [evOp1, hop, h1]
  case build t ps => have h1 := parts_congr (G := G) (T := T) (T' := T') (xs := ps.toList) (by simpa using h); simp only [evOp1, hop, h1]
  case buildSlice t n ps => have h1 := parts_congr (G := G) (T := T) (T' := T') (xs := ps.toList) (by simpa using h); simp only [evOp1, hop, h1, hmu]
  case load t x => have h1 := h x (by simp); simp only [evOp1, hop, h1]
  case store t a x => have h1 := h a (by simp); have h2 := h x (by simp); simp only [evOp1, hop, h1, h2]
  case nilCheck x => have h1 := h x (by simp); simp only [evOp1, hop, h1]
  case binOp op t x y yt =>
    have h1 := h x (by simp); have h2 := h y (by simp)
    have h3 := allScalar_congr (G := G) (T := T) (T' := T') (xs := [x, y]) (by simpa using ⟨h1, h2⟩)
    have h4 := scalarOp_congr (P := P) (G := G) (T := T) (T' := T') (o := o) (by rw [hop]; simpa [Op.operands] using ⟨h1, h2⟩) (.inl ⟨_, _, _, _, _, hop⟩)
    simp only [evOp1, hop, h1, h2, h3, h4]
  case unOp op t x =>
    have h1 := h x (by simp)
    have h3 := allScalar_congr (G := G) (T := T) (T' := T') (xs := [x]) (by simpa using h1)
    have h4 := scalarOp_congr (P := P) (G := G) (T := T) (T' := T') (o := o) (by rw [hop]; simpa [Op.operands] using h1) (.inr (.inl ⟨_, _, _, hop⟩))
    simp only [evOp1, hop, h1, h3, h4]
  case convert a b x =>
    have h1 := h x (by simp)
    have h3 := allScalar_congr (G := G) (T := T) (T' := T') (xs := [x]) (by simpa using h1)
    have h4 := scalarOp_congr (P := P) (G := G) (T := T) (T' := T') (o := o) (by rw [hop]; simpa [Op.operands] using h1) (.inr (.inr (.inl ⟨_, _, _, hop⟩)))
    simp only [evOp1, hop, h1, h3, h4]
  case makeFunc fn a b =>
    have h1 := opds_congr (G := G) (T := T) (T' := T') (xs := a.toList) (fun x hx => h x (by simp at hx ⊢; exact .inl hx))
    have h2 := opds_congr (G := G) (T := T) (T' := T') (xs := b.toList) (fun x hx => h x (by simp at hx ⊢; exact .inr hx))
    simp only [evOp1, hop, h1, h2]
  case makeInterface t x => have h1 := h x (by simp); simp only [evOp1, hop, h1]
  case typeAssert x a b ok => have h1 := h x (by simp); simp only [evOp1, hop, h1]
  case panic x => have h1 := h x (by simp); simp only [evOp1, hop, h1]
  case makeMap t r => simp only [evOp1, hop]
  case makeSlice t a b => have h1 := h a (by simp); have h2 := h b (by simp); simp only [evOp1, hop, h1, h2]
  case slice t x lo hi mx =>
    have h1 := h x (by simp)
    have hl : ∀ y ∈ lo.toList, opd G T y = opd G T' y := fun y hy => h y (by simp at hy ⊢; simp [hy])
    have hh : ∀ y ∈ hi.toList, opd G T y = opd G T' y := fun y hy => h y (by simp at hy ⊢; simp [hy])
    have hm : ∀ y, mx = some y → opd G T y = opd G T' y := fun y hy => h y (by simp [hy])
    have h3 := allScalar_congr (G := G) (T := T) (T' := T') (xs := x :: (lo.toList ++ hi.toList)) (fun y hy => by
      rw [List.mem_cons, List.mem_append] at hy
      rcases hy with rfl | hy | hy
      · exact h1
      · exact hl y hy
      · exact hh y hy)
    have h4 := scalarOp_congr (P := P) (G := G) (T := T) (T' := T') (o := o) (by rw [hop]; exact h) (.inr (.inr (.inr (.inr (.inl ⟨_, _, _, _, _, hop⟩)))))
    have b1 := fun d => bnd_congr (G := G) (T := T) (T' := T') d hl
    have b2 := fun d => bnd_congr (G := G) (T := T) (T' := T') d hh
    have b3 := bnd0_congr (G := G) (T := T) (T' := T') hh
    have b4 : opdO G T lo = opdO G T' lo := by
      cases lo with
      | none => rfl
      | some y => simp only [opdO, hl y (by simp)]
    have b5 : opdO G T hi = opdO G T' hi := by
      cases hi with
      | none => rfl
      | some y => simp only [opdO, hh y (by simp)]
    cases mx with
    | none => simp only [evOp1, hop, h1, h3, h4, b1, b2, b4, b5]
    | some m => have h5 := hm m rfl; simp only [evOp1, hop, h1, h3, h4, b1, b2, b3, b4, b5, h5]
  case fieldAddr st x i => have h1 := h x (by simp); simp only [evOp1, hop, h1]
  case field st x i => have h1 := h x (by simp); simp only [evOp1, hop, h1]
  case indexAddr t a b => have h1 := h a (by simp); have h2 := h b (by simp); simp only [evOp1, hop, h1, h2]
  case index t a b =>
    have h1 := h a (by simp); have h2 := h b (by simp)
    have h3 := allScalar_congr (G := G) (T := T) (T' := T') (xs := [a, b]) (by simpa using ⟨h1, h2⟩)
    have h4 := scalarOp_congr (P := P) (G := G) (T := T) (T' := T') (o := o) (by rw [hop]; simpa [Op.operands] using ⟨h1, h2⟩) (.inr (.inr (.inr (.inl ⟨_, _, _, hop⟩))))
    simp only [evOp1, hop, h1, h2, h3, h4]
  case lookup t a b ok => have h1 := h a (by simp); have h2 := h b (by simp); simp only [evOp1, hop, h1, h2]
  case mapUpdate t m k x => have h1 := h m (by simp); have h2 := h k (by simp); have h3 := h x (by simp); simp only [evOp1, hop, h1, h2, h3]
  case insert t m k x => have h1 := h m (by simp); have h2 := h k (by simp); have h3 := h x (by simp); simp only [evOp1, hop, h1, h2, h3]
  case extract x i => have h1 := h x (by simp); simp only [evOp1, hop, h1]
  case call c =>
    have h1 := opds_congr (G := G) (T := T) (T' := T') (xs := c.args.toList) (fun x hx => h x (by
      simp only [Go.Call.operands]
      cases c.callee <;> simp at hx ⊢ <;> simp [hx]))
    have h3 := allScalar_congr (G := G) (T := T) (T' := T') (xs := c.args.toList) (fun x hx => h x (by
      simp only [Go.Call.operands]
      cases c.callee <;> simp at hx ⊢ <;> simp [hx]))
    cases hc : c.callee with
    | builtin b =>
      have h4 := scalarOp_congr (P := P) (G := G) (T := T) (T' := T') (o := o) (by rw [hop]; exact h) (.inr (.inr (.inr (.inr (.inr ⟨c, b, hop, hc⟩)))))
      cases b <;> simp only [evOp1, hop, hc, h1, h3, h4, hmu]
    | invoke r n =>
      have h5 := h r (by simp [Go.Call.operands, hc])
      simp only [evOp1, hop, hc, h1, h5]
    | value f =>
      have h5 := h f (by simp [Go.Call.operands, hc])
      simp only [evOp1, hop, hc, h1, h5]
  all_goals simp only [evOp1, hop]

theorem evSym_congr {o : Oper} {T T' : Tm} {s : St} (h : ∀ x ∈ o.op.operands.toList, opd G T x = opd G T' x) : evSym P G o T s = evSym P G o T' s := by
  unfold evSym
  split
  · rename_i src dst x hop
    rw [hop] at h
    rw [h x (by simp [Op.operands])]
  · rename_i t x ix hop
    rw [hop] at h
    rw [h x (by simp [Op.operands]), h ix (by simp [Op.operands])]
  · rename_i t a b ok hop
    rw [hop] at h
    rw [h a (by simp [Op.operands]), h b (by simp [Op.operands])]
  · rename_i t m k x hop
    rw [hop] at h
    rw [h m (by simp [Op.operands]), h k (by simp [Op.operands]), h x (by simp [Op.operands])]
  · rename_i t m k x hop
    rw [hop] at h
    rw [h m (by simp [Op.operands]), h k (by simp [Op.operands]), h x (by simp [Op.operands])]
  · rename_i c hop
    rw [hop] at h
    have hx : ∀ x ∈ c.args.toList, opd G T x = opd G T' x := fun x hx => h x (by
      simp only [Op.operands, Go.Call.operands]
      cases c.callee <;> simp at hx ⊢ <;> simp [hx])
    split
    · cases c.argTypes[0]? with
      | none => rfl
      | some t0 =>
        cases c.argTypes[1]? with
        | none => rfl
        | some t1 =>
          simp only [Option.bind_eq_bind, Option.bind_some]
          split
          · rename_i hargs
            rw [hargs] at hx
            rw [hx _ (by simp), hx _ (by simp)]
          · rfl
    · cases c.argTypes[0]? with
      | none => rfl
      | some t0 =>
        simp only [Option.bind_eq_bind, Option.bind_some]
        split
        · rename_i hargs
          rw [hargs] at hx
          rw [hx _ (by simp)]
        · rfl
    · rfl
  · rfl
theorem evOp_congr {call : Ab.Call} {o : Oper} {T T' : Tm} {s : St} (hmu : T.mu = T'.mu) (h : ∀ x ∈ o.op.operands.toList, opd G T x = opd G T' x) : evOp P G call o T s = evOp P G call o T' s := by
  unfold evOp
  rw [evOp1_congr hmu h, evSym_congr h]

/-- What doesn't act leaves the state. -/
theorem noneff_state1 {call : Ab.Call} {o : Oper} {T : Tm} {s s1 : St} {x : AV} (hpu : T.mu.2 = true) (hk : eff0 P o = false) (h : evOp1 P G call o T s = some (x, s1)) : s1 = s := by
  unfold eff0 at hk
  cases hop : o.op <;> rw [hop] at hk <;> simp only [kindOf] at hk <;> (try (exact absurd hk (by decide)))
  case move =>
    simp only [evOp1, hop, Option.bind_eq_bind, Option.bind_eq_some_iff, Option.pure_def, Option.map_eq_some_iff, Prod.mk.injEq, Option.some.injEq] at h
    repeat' (first | (exact h.2.symm) | (exact h.2.2.symm) | (cases h; done) | (cases h; rfl) | (obtain ⟨_, _, h⟩ := h) | (split at h) | (simp only [Option.bind_eq_some_iff, Option.map_eq_some_iff, Option.some.injEq, Prod.mk.injEq, reduceCtorEq] at h))
  case assign =>
    simp only [evOp1, hop, Option.bind_eq_bind, Option.bind_eq_some_iff, Option.pure_def, Option.map_eq_some_iff, Prod.mk.injEq, Option.some.injEq] at h
    repeat' (first | (exact h.2.symm) | (exact h.2.2.symm) | (cases h; done) | (cases h; rfl) | (obtain ⟨_, _, h⟩ := h) | (split at h) | (simp only [Option.bind_eq_some_iff, Option.map_eq_some_iff, Option.some.injEq, Prod.mk.injEq, reduceCtorEq] at h))
  case pick =>
    simp only [evOp1, hop, Option.bind_eq_bind, Option.bind_eq_some_iff, Option.pure_def, Option.map_eq_some_iff, Prod.mk.injEq, Option.some.injEq] at h
    repeat' (first | (exact h.2.symm) | (exact h.2.2.symm) | (cases h; done) | (cases h; rfl) | (obtain ⟨_, _, h⟩ := h) | (split at h) | (simp only [Option.bind_eq_some_iff, Option.map_eq_some_iff, Option.some.injEq, Prod.mk.injEq, reduceCtorEq] at h))
  case build =>
    simp only [evOp1, hop, Option.bind_eq_bind, Option.bind_eq_some_iff, Option.pure_def, Option.map_eq_some_iff, Prod.mk.injEq, Option.some.injEq] at h
    repeat' (first | (exact h.2.symm) | (exact h.2.2.symm) | (cases h; done) | (cases h; rfl) | (obtain ⟨_, _, h⟩ := h) | (split at h) | (simp only [Option.bind_eq_some_iff, Option.map_eq_some_iff, Option.some.injEq, Prod.mk.injEq, reduceCtorEq] at h))
  case buildSlice =>
    simp only [evOp1, hop, hpu, if_true, Option.bind_eq_bind, Option.bind_eq_some_iff, Option.pure_def, Option.map_eq_some_iff, Prod.mk.injEq, Option.some.injEq] at h
    repeat' (first | (exact h.2.symm) | (exact h.2.2.symm) | (cases h; done) | (cases h; rfl) | (obtain ⟨_, _, h⟩ := h) | (split at h) | (simp only [Option.bind_eq_some_iff, Option.map_eq_some_iff, Option.some.injEq, Prod.mk.injEq, reduceCtorEq] at h))
  case nilCheck =>
    simp only [evOp1, hop, Option.bind_eq_bind, Option.bind_eq_some_iff, Option.pure_def, Option.map_eq_some_iff, Prod.mk.injEq, Option.some.injEq] at h
    repeat' (first | (exact h.2.symm) | (exact h.2.2.symm) | (cases h; done) | (cases h; rfl) | (obtain ⟨_, _, h⟩ := h) | (split at h) | (simp only [Option.bind_eq_some_iff, Option.map_eq_some_iff, Option.some.injEq, Prod.mk.injEq, reduceCtorEq] at h))
  case binOp =>
    simp only [evOp1, hop, Option.bind_eq_bind, Option.bind_eq_some_iff, Option.pure_def, Option.map_eq_some_iff, Prod.mk.injEq, Option.some.injEq] at h
    repeat' (first | (exact h.2.symm) | (exact h.2.2.symm) | (cases h; done) | (cases h; rfl) | (obtain ⟨_, _, h⟩ := h) | (split at h) | (simp only [Option.bind_eq_some_iff, Option.map_eq_some_iff, Option.some.injEq, Prod.mk.injEq, reduceCtorEq] at h))
  case unOp =>
    simp only [evOp1, hop, Option.bind_eq_bind, Option.bind_eq_some_iff, Option.pure_def, Option.map_eq_some_iff, Prod.mk.injEq, Option.some.injEq] at h
    repeat' (first | (exact h.2.symm) | (exact h.2.2.symm) | (cases h; done) | (cases h; rfl) | (obtain ⟨_, _, h⟩ := h) | (split at h) | (simp only [Option.bind_eq_some_iff, Option.map_eq_some_iff, Option.some.injEq, Prod.mk.injEq, reduceCtorEq] at h))
  case makeFunc =>
    simp only [evOp1, hop, Option.bind_eq_bind, Option.bind_eq_some_iff, Option.pure_def, Option.map_eq_some_iff, Prod.mk.injEq, Option.some.injEq] at h
    repeat' (first | (exact h.2.symm) | (exact h.2.2.symm) | (cases h; done) | (cases h; rfl) | (obtain ⟨_, _, h⟩ := h) | (split at h) | (simp only [Option.bind_eq_some_iff, Option.map_eq_some_iff, Option.some.injEq, Prod.mk.injEq, reduceCtorEq] at h))
  case slice =>
    simp only [evOp1, hop, Option.bind_eq_bind, Option.bind_eq_some_iff, Option.pure_def, Option.map_eq_some_iff, Prod.mk.injEq, Option.some.injEq] at h
    repeat' (first | (exact h.2.symm) | (exact h.2.2.symm) | (cases h; done) | (cases h; rfl) | (obtain ⟨_, _, h⟩ := h) | (split at h) | (simp only [Option.bind_eq_some_iff, Option.map_eq_some_iff, Option.some.injEq, Prod.mk.injEq, reduceCtorEq] at h))
  case fieldAddr =>
    simp only [evOp1, hop, Option.bind_eq_bind, Option.bind_eq_some_iff, Option.pure_def, Option.map_eq_some_iff, Prod.mk.injEq, Option.some.injEq] at h
    repeat' (first | (exact h.2.symm) | (exact h.2.2.symm) | (cases h; done) | (cases h; rfl) | (obtain ⟨_, _, h⟩ := h) | (split at h) | (simp only [Option.bind_eq_some_iff, Option.map_eq_some_iff, Option.some.injEq, Prod.mk.injEq, reduceCtorEq] at h))
  case field =>
    simp only [evOp1, hop, Option.bind_eq_bind, Option.bind_eq_some_iff, Option.pure_def, Option.map_eq_some_iff, Prod.mk.injEq, Option.some.injEq] at h
    repeat' (first | (exact h.2.symm) | (exact h.2.2.symm) | (cases h; done) | (cases h; rfl) | (obtain ⟨_, _, h⟩ := h) | (split at h) | (simp only [Option.bind_eq_some_iff, Option.map_eq_some_iff, Option.some.injEq, Prod.mk.injEq, reduceCtorEq] at h))
  case indexAddr =>
    simp only [evOp1, hop, Option.bind_eq_bind, Option.bind_eq_some_iff, Option.pure_def, Option.map_eq_some_iff, Prod.mk.injEq, Option.some.injEq] at h
    repeat' (first | (exact h.2.symm) | (exact h.2.2.symm) | (cases h; done) | (cases h; rfl) | (obtain ⟨_, _, h⟩ := h) | (split at h) | (simp only [Option.bind_eq_some_iff, Option.map_eq_some_iff, Option.some.injEq, Prod.mk.injEq, reduceCtorEq] at h))
  case index =>
    simp only [evOp1, hop, Option.bind_eq_bind, Option.bind_eq_some_iff, Option.pure_def, Option.map_eq_some_iff, Prod.mk.injEq, Option.some.injEq] at h
    repeat' (first | (exact h.2.symm) | (exact h.2.2.symm) | (cases h; done) | (cases h; rfl) | (obtain ⟨_, _, h⟩ := h) | (split at h) | (simp only [Option.bind_eq_some_iff, Option.map_eq_some_iff, Option.some.injEq, Prod.mk.injEq, reduceCtorEq] at h))
  case extract =>
    simp only [evOp1, hop, Option.bind_eq_bind, Option.bind_eq_some_iff, Option.pure_def, Option.map_eq_some_iff, Prod.mk.injEq, Option.some.injEq] at h
    repeat' (first | (exact h.2.symm) | (exact h.2.2.symm) | (cases h; done) | (cases h; rfl) | (obtain ⟨_, _, h⟩ := h) | (split at h) | (simp only [Option.bind_eq_some_iff, Option.map_eq_some_iff, Option.some.injEq, Prod.mk.injEq, reduceCtorEq] at h))
  case load =>
    simp only [evOp1, hop, Option.bind_eq_bind, Option.bind_eq_some_iff, Option.pure_def, Option.map_eq_some_iff, Prod.mk.injEq, Option.some.injEq] at h
    repeat' (first | (exact h.2.symm) | (exact h.2.2.symm) | (cases h; done) | (cases h; rfl) | (obtain ⟨_, _, h⟩ := h) | (split at h) | (simp only [Option.bind_eq_some_iff, Option.map_eq_some_iff, Option.some.injEq, Prod.mk.injEq, reduceCtorEq] at h))
  case lookup =>
    simp only [evOp1, hop, Option.bind_eq_bind, Option.bind_eq_some_iff, Option.pure_def, Option.map_eq_some_iff, Prod.mk.injEq, Option.some.injEq] at h
    repeat' (first | (exact h.2.symm) | (exact h.2.2.symm) | (cases h; done) | (cases h; rfl) | (obtain ⟨_, _, h⟩ := h) | (split at h) | (simp only [Option.bind_eq_some_iff, Option.map_eq_some_iff, Option.some.injEq, Prod.mk.injEq, reduceCtorEq] at h))
  case convert src dst y =>
    have key : (∀ e, P.underlying src ≠ some (.slice e)) ∧ (∀ e, P.underlying dst ≠ some (.slice e)) := by
      refine ⟨fun e he => ?_, fun e he => ?_⟩
      · rw [he] at hk; simp at hk
      · rw [he] at hk
        cases hs : P.underlying src with
        | none => rw [hs] at hk; simp at hk
        | some d => rw [hs] at hk; cases d <;> simp at hk
    simp only [evOp1, hop, Option.bind_eq_bind] at h
    split at h
    · rename_i h2; exact absurd h2 (key.2 _)
    · rename_i h2 _; exact absurd h2 (key.1 _)
    · rename_i h2 _; exact absurd h2 (key.1 _)
    · simp only [Option.bind_eq_some_iff] at h
      obtain ⟨c, _, h⟩ := h
      unfold toUnsafe at h
      split at h
      · split at h
        · split at h
          · cases h; rfl
          · cases h
        · cases h
      · cases h
    · simp only [Option.bind_eq_some_iff] at h
      obtain ⟨c, _, h⟩ := h
      unfold fromUnsafe at h
      split at h
      · split at h
        · split at h
          · cases h; rfl
          · cases h
        · cases h
      · cases h
    · split at h
      · simp only [Option.map_eq_some_iff, Prod.mk.injEq] at h
        obtain ⟨_, _, _, h⟩ := h
        exact h.symm
      · simp only [Option.bind_eq_some_iff, Option.pure_def, Option.some.injEq, Prod.mk.injEq] at h
        obtain ⟨_, _, _, _, _, h⟩ := h
        exact h.symm
  case call c =>
    have key : c.callee = .builtin .len ∨ c.callee = .builtin .max ∨ c.callee = .builtin .min := by
      cases hc : c.callee with
      | builtin b => cases b <;> rw [hc] at hk <;> first | (exact .inl rfl) | (exact .inr (.inl rfl)) | (exact .inr (.inr rfl)) | (simp at hk)
      | invoke r n => rw [hc] at hk; simp at hk
      | value f => rw [hc] at hk; simp at hk
    rcases key with hc | hc | hc <;> simp only [evOp1, hop, hc, Option.bind_eq_bind] at h <;>
      (repeat' (first | (exact h.2.symm) | (exact h.2.2.symm) | (cases h; done) | (cases h; rfl) | (obtain ⟨_, _, h⟩ := h) | (split at h) | (simp only [Option.bind_eq_some_iff, Option.map_eq_some_iff, Option.some.injEq, Prod.mk.injEq, reduceCtorEq, Option.pure_def] at h)))
theorem noneff_sym {o : Oper} {T : Tm} {s s1 : St} {x : AV} (hk : eff0 P o = false) (h : evSym P G o T s = some (x, s1)) : s1 = s := by
  unfold evSym at h
  split at h
  · (repeat' (first | (exact rfl) | (exact h.2.symm) | (cases h; done) | (cases h; exact rfl) | (obtain ⟨_, _, h⟩ := h) | (split at h) | (simp only [Option.bind_eq_bind, Option.bind_eq_some_iff, Option.pure_def, Option.some.injEq, Prod.mk.injEq] at h)))
  · (repeat' (first | (exact rfl) | (exact h.2.symm) | (cases h; done) | (cases h; exact rfl) | (obtain ⟨_, _, h⟩ := h) | (split at h) | (simp only [Option.bind_eq_bind, Option.bind_eq_some_iff, Option.pure_def, Option.some.injEq, Prod.mk.injEq] at h)))
  · simp only [Option.bind_eq_bind, Option.bind_eq_some_iff, Option.pure_def, Option.some.injEq, Prod.mk.injEq] at h
    obtain ⟨_, _, _, _, _, _, _, h⟩ := h
    exact h.symm
  · rename_i hop
    unfold eff0 at hk; rw [hop] at hk; exact absurd hk (by simp [kindOf])
  · rename_i hop
    unfold eff0 at hk; rw [hop] at hk; exact absurd hk (by simp [kindOf])
  · rename_i c hop
    split at h
    · rename_i hc
      unfold eff0 at hk; rw [hop] at hk; simp [kindOf, hc] at hk
    · simp only [Option.bind_eq_bind, Option.bind_eq_some_iff] at h
      obtain ⟨_, _, h⟩ := h
      split at h
      · simp only [Option.bind_eq_some_iff] at h
        obtain ⟨_, _, h⟩ := h
        split at h
        · split at h
          · simp only [Option.pure_def, Option.some.injEq, Prod.mk.injEq] at h
            exact h.2.symm
          · cases h
        · cases h
      · cases h
    · cases h
  · cases h
theorem noneff_state [Fg] {call : Ab.Call} (hfg : Fg.fg = true → ∃ c0, call = fgCall c0) {o : Oper} {T : Tm} {s s1 : St} {x : AV} (hpu : T.mu.2 = true) (hk : eff P o = false) (h : evOp P G call o T s = some (x, s1)) : s1 = s := by
  cases hk0 : eff0 P o with
  | false =>
    unfold evOp at h
    split at h
    · rename_i x1 s2 h1
      cases h
      exact noneff_state1 hpu hk0 h1
    · split at h
      · rename_i x1 s2 h1
        cases h
        exact noneff_sym hk0 h1
      · cases h
  | true =>
    unfold eff at hk
    rw [hk0, Bool.true_and, Bool.not_eq_false', Bool.and_eq_true] at hk
    obtain ⟨c0, rfl⟩ := hfg hk.1
    have hc := hk.2
    unfold isCallV at hc
    split at hc
    · rename_i c hop
      split at hc
      · rename_i f hcf
        exact fg_state hop hcf h
      · cases hc
    · cases hc
end
end Go.Ab
