/- Regions whose order is drawn: any order that the edges allow comes to what the text's order comes to. -/
import Derived.Test.YtaeeblcdggjokaaDoorSxCode
namespace Go.Ab
set_option linter.unusedVariables false
set_option linter.unusedSimpArgs false
set_option linter.unusedSectionVars false
set_option linter.constructorNameAsVariable false
open Go Go.RowKit

/-! ### Equality that is asked -/
def vEq : Value → Value → Bool
  | .bool a, .bool b => a == b
  | .int k a, .int l b => k == l && a == b
  | .float k a, .float l b => k == l && Nat.beq a b
  | .string a, .string b => a == b
  | .pointer none, .pointer none => true
  | .map none, .map none => true
  | .nilFunc, .nilFunc => true
  | .nilIface, .nilIface => true
  | .slice none a b, .slice none c d => Nat.beq a c && Nat.beq b d
  | _, _ => false
theorem vEq_eq {a b : Value} (h : vEq a b = true) : a = b := by
  unfold vEq at h
  split at h
  · simp at h; rw [h]
  · simp at h; rw [h.1, h.2]
  · rename_i k a l b
    rw [Bool.and_eq_true] at h; have h1 : k = l := by simpa using h.1
    rw [h1, nbe h.2]
  · rw [(ba_beq _ _).1 h]
  · rfl
  · rfl
  · rfl
  · rfl
  · rw [Bool.and_eq_true] at h; rw [nbe h.1, nbe h.2]
  · cases h
mutual
def aEq : AV → AV → Bool
  | .v a, .v b => vEq a b
  | .ref a, .ref b => lEq a b
  | .box a b, .box c d => Nat.beq a c && Nat.beq b d
  | .sl a n t, .sl b m u => Nat.beq n m && t == u && lEq a b
  | .ms a b c, .ms d e f => Nat.beq a d && Nat.beq b e && Nat.beq c f
  | .mg a c, .mg b d => Nat.beq a b && Nat.beq c d
  | .iface t x, .iface u y => Nat.beq t u && aEq x y
  | .e0, .e0 => true
  | .mp a, .mp b => Nat.beq a b
  | .fn f a b, .fn g c d => f == g && lEq a c && lEq b d
  | .agg a, .agg b => lEq a b
  | .tup a, .tup b => lEq a b
  | .x t a, .x u b => t == u && eEq a b
  | .d t a n, .d u b m => Nat.beq t u && n == m && eEq a b
  | .rd t a n, .rd u b m => Nat.beq t u && Nat.beq n m && eEq a b
  | _, _ => false
def lEq : List AV → List AV → Bool
  | [], [] => true
  | a :: r, b :: t => aEq a b && lEq r t
  | _, _ => false
end
mutual
theorem aEq_eq : ∀ {a b : AV}, aEq a b = true → a = b
  | .v a, b, h => by cases b <;> simp only [aEq, Bool.false_eq_true] at h; rw [vEq_eq h]
  | .ref a, b, h => by cases b <;> simp only [aEq, Bool.false_eq_true] at h; rw [lEq_eq h]
  | .box a c, b, h => by cases b <;> simp only [aEq, Bool.false_eq_true, Bool.and_eq_true] at h; rw [nbe h.1, nbe h.2]
  | .sl a n t, b, h => by cases b <;> simp only [aEq, Bool.false_eq_true, Bool.and_eq_true] at h; rw [nbe h.1.1, lEq_eq h.2, show t = _ by simpa using h.1.2]
  | .ms a c d, b, h => by cases b <;> simp only [aEq, Bool.false_eq_true, Bool.and_eq_true] at h; rw [nbe h.1.1, nbe h.1.2, nbe h.2]
  | .mg a c, b, h => by cases b <;> simp only [aEq, Bool.false_eq_true, Bool.and_eq_true] at h; rw [nbe h.1, nbe h.2]
  | .iface t x, b, h => by cases b <;> simp only [aEq, Bool.false_eq_true, Bool.and_eq_true] at h; rw [nbe h.1, aEq_eq h.2]
  | .pan x, b, h => by cases b <;> simp only [aEq, Bool.false_eq_true] at h
  | .e0, b, h => by cases b <;> simp only [aEq, Bool.false_eq_true] at h; rfl
  | .mp a, b, h => by cases b <;> simp only [aEq, Bool.false_eq_true] at h; rw [nbe h]
  | .fn f a c, b, h => by cases b <;> simp only [aEq, Bool.false_eq_true, Bool.and_eq_true] at h; rw [show f = _ by simpa using h.1.1, lEq_eq h.1.2, lEq_eq h.2]
  | .agg a, b, h => by cases b <;> simp only [aEq, Bool.false_eq_true] at h; rw [lEq_eq h]
  | .tup a, b, h => by cases b <;> simp only [aEq, Bool.false_eq_true] at h; rw [lEq_eq h]
  | .x t a, b, h => by cases b <;> simp only [aEq, Bool.false_eq_true, Bool.and_eq_true] at h; rw [show t = _ by simpa using h.1, eEq_eq h.2]
  | .d t a n, b, h => by cases b <;> simp only [aEq, Bool.false_eq_true, Bool.and_eq_true] at h; rw [nbe h.1.1, show n = _ by simpa using h.1.2, eEq_eq h.2]
  | .rd t a n, b, h => by cases b <;> simp only [aEq, Bool.false_eq_true, Bool.and_eq_true] at h; rw [nbe h.1.1, nbe h.1.2, eEq_eq h.2]
theorem lEq_eq : ∀ {a b : List AV}, lEq a b = true → a = b
  | [], b, h => by cases b <;> simp only [lEq, Bool.false_eq_true] at h; rfl
  | a :: r, b, h => by cases b <;> simp only [lEq, Bool.false_eq_true, Bool.and_eq_true] at h; rw [aEq_eq h.1, lEq_eq h.2]
end

/-! ### The order of a region's operations -/
def mask1 (acc : List Nat) (o : Oper) : Nat := o.after.toList.foldl (fun s e => bif Region.binds .any e then s ||| 2 ^ e.on ||| acc.getD e.on 0 else s) 0
def masksF : List Oper → List Nat → List Nat
  | [], acc => acc
  | o :: r, acc => masksF r (acc ++ [mask1 acc o])
def masks (ops : Array Oper) : List Nat := masksF ops.toList []

theorem masksF_spec : ∀ (l : List Oper) (acc : List Nat), (∀ k, k < acc.length → (masksF l acc)[k]? = acc[k]?) ∧
    ∀ k o, l[k]? = some o → (masksF l acc)[acc.length + k]? = some (mask1 ((masksF l acc).take (acc.length + k)) o)
  | [], acc => ⟨fun k _ => rfl, fun k o h => by simp at h⟩
  | o :: r, acc => by
    obtain ⟨h1, h2⟩ := masksF_spec r (acc ++ [mask1 acc o])
    refine ⟨fun k hk => ?_, fun k o' h => ?_⟩
    · show (masksF r (acc ++ [mask1 acc o]))[k]? = _
      rw [h1 k (by simp; omega), List.getElem?_append_left hk]
    · show (masksF r (acc ++ [mask1 acc o]))[acc.length + k]? = some (mask1 ((masksF r (acc ++ [mask1 acc o])).take _) o')
      cases k with
      | zero =>
        simp at h; subst h
        rw [Nat.add_zero, h1 acc.length (by simp), List.getElem?_append_right (Nat.le_refl _)]
        simp only [Nat.sub_self, List.getElem?_cons_zero]
        congr 2
        apply List.ext_getElem?
        intro j
        rw [List.getElem?_take]
        by_cases hj : j < acc.length
        · rw [if_pos hj, h1 j (by simp; omega), List.getElem?_append_left hj]
        · rw [if_neg hj, List.getElem?_eq_none (by omega)]
      | succ k =>
        have := h2 k o' (by simpa using h)
        rw [List.length_append] at this
        simp only [List.length_cons, List.length_nil] at this
        rw [show acc.length + (k + 1) = acc.length + (0 + 1) + k by omega]
        exact this
theorem mask1_bit {acc : List Nat} {o : Oper} {j : Nat} (h : (mask1 acc o).testBit j = true) : ∃ e, e ∈ o.after.toList ∧ Region.binds .any e = true ∧ (e.on = j ∨ (acc.getD e.on 0).testBit j = true) := by
  unfold mask1 at h
  have key : ∀ (l : List Edge) (z : Nat), (l.foldl (fun s e => bif Region.binds .any e then s ||| 2 ^ e.on ||| acc.getD e.on 0 else s) z).testBit j = true → z.testBit j = true ∨ ∃ e, e ∈ l ∧ Region.binds .any e = true ∧ (e.on = j ∨ (acc.getD e.on 0).testBit j = true) := by
    intro l
    induction l with
    | nil => intro z h; exact .inl h
    | cons e r ih =>
      intro z h
      rcases ih _ h with h | ⟨e', h1, h2⟩
      · cases hb : Region.binds .any e with
        | false => dsimp only at h; rw [hb] at h; exact .inl h
        | true =>
          dsimp only at h
          rw [hb] at h
          simp only [cond_true, Nat.testBit_or, Nat.testBit_two_pow, Bool.or_eq_true, decide_eq_true_eq] at h
          rcases h with (h | h) | h
          · exact .inl h
          · exact .inr ⟨e, by simp, hb, .inl h⟩
          · exact .inr ⟨e, by simp, hb, .inr h⟩
      · exact .inr ⟨e', by simp [h1], h2⟩
  rcases key _ _ h with h | h
  · simp at h
  · exact h

section
variable [Interp] (P : Program)
def kindOf : Op → Nat
  | .move _ | .assign _ | .pick .. | .build .. | .buildSlice .. | .nilCheck _ | .binOp .. | .unOp .. | .makeFunc .. | .slice .. | .fieldAddr .. | .field .. | .indexAddr .. | .index .. | .extract .. => 0
  | .load .. | .lookup .. => 1
  | .convert src dst _ =>
    match P.underlying src, P.underlying dst with
    | some (.slice _), _ | _, some (.slice _) => 2
    | _, _ => 0
  | .call c =>
    match c.callee with
    | .builtin .len => 1
    | .builtin .max | .builtin .min => 0
    | _ => 2
  | _ => 2
def eff0 (o : Oper) : Bool := Nat.beq (kindOf P o.op) 2
end
/-- Whether calls are such that nothing is kept of them but their results (fgCall): then they do not act. -/
class Fg where
  fg : Bool
instance fg0 : Fg := ⟨false⟩
def isCallV : Op → Bool
  | .call c => match c.callee with | .value _ => true | _ => false
  | _ => false
def eff [Fg] (P : Program) (o : Oper) : Bool := eff0 P o && !(Fg.fg && isCallV o.op)

def tmpsOf : List Operand → List Nat
  | [] => []
  | .tmp t :: r => t :: tmpsOf r
  | _ :: r => tmpsOf r
/-- The temporaries that an operation looks at. -/
def readsOf (ops : Array Oper) (o : Oper) : List Nat :=
  tmpsOf o.op.operands.toList ++ match o.guard with
    | some (j, _) => ((ops[j]?).bind (·.dst)).toList
    | none => []
def dstIs (o : Oper) (t : Nat) : Bool :=
  match o.dst with
  | some d => Nat.beq d t
  | none => false

def bitOf (ms : List Nat) (i j : Nat) : Bool := (ms.getD i 0).testBit j

/-- What is asked of a region's text: edges lead back; what is looked at is made ahead; no two write the same; what acts stands in one order. -/
def isPair (pr : Option (Nat × Nat)) (p q : Nat) : Bool :=
  match pr with
  | some (a, b) => Nat.beq a p && Nat.beq b q
  | none => false
/-- Two that act, the one not told to stand ahead of the other. -/
def loosePair [Fg] (P : Program) (ops : Array Oper) : Option (Nat × Nat) :=
  let ms := masks ops
  let l := (ops.toList.zipIdx).filter fun x => eff P x.1
  (l.flatMap fun y => l.filterMap fun x => if Nat.ble (x.2 + 1) y.2 && !bitOf ms y.2 x.2 then some (x.2, y.2) else none).head?
def drawStatic [Fg] (P : Program) (pr : Option (Nat × Nat)) (ops : Array Oper) : Bool :=
  let ms := masks ops
  let l := ops.toList.zipIdx
  l.all fun (o, i) =>
    (o.after.toList.all fun e => !Region.binds .any e || Nat.ble (e.on + 1) i) &&
    ((readsOf ops o).all fun t => l.all fun (q, j) => !dstIs q t || bitOf ms i j || bitOf ms j i || Nat.beq i j) &&
    (match o.dst with | some d => l.all fun (q, j) => Nat.beq i j || !dstIs q d | none => true) &&
    (!eff P o || l.all fun (q, j) => !eff P q || Nat.ble i j || bitOf ms i j || isPair pr j i)

def Back (ops : Array Oper) : Prop := ∀ (i : Nat) (o : Oper), ops[i]? = some o → ∀ (e : Edge), e ∈ o.after.toList → Region.binds .any e = true → e.on < i
theorem bit_lt_dep {ops : Array Oper} (D : Nat → Prop) (hlt : Back ops) (hcl : ∀ (i : Nat) (o : Oper), ops[i]? = some o → D i → ∀ (e : Edge), e ∈ o.after.toList → Region.binds .any e = true → D e.on) :
    ∀ (i j : Nat), i < ops.size → bitOf (masks ops) i j = true → (∀ (o : Oper), ops[i]? = some o → ∀ (e : Edge), e ∈ o.after.toList → Region.binds .any e = true → D e.on) → D j := by
  intro i
  induction i using Nat.strongRecOn with
  | _ i ih =>
    intro j hi hb hd
    have ho : ops[i]? = some ops[i] := Array.getElem?_eq_getElem hi
    have hsp := (masksF_spec ops.toList []).2 i ops[i] (by rw [Array.getElem?_toList]; exact ho)
    simp only [List.length_nil, Nat.zero_add] at hsp
    unfold bitOf at hb
    rw [show masks ops = masksF ops.toList [] from rfl, List.getD_eq_getElem?_getD, hsp] at hb
    obtain ⟨e, h1, h2, h3⟩ := mask1_bit hb
    have hlt' := hlt i _ ho e h1 h2
    have hde := hd _ ho e h1 h2
    rcases h3 with rfl | h3
    · exact hde
    · refine ih e.on hlt' j (by omega) ?_ fun o' ho' e' he' hb' => hcl e.on o' ho' hde e' he' hb'
      unfold bitOf
      rw [List.getD_eq_getElem?_getD, List.getElem?_take, if_pos hlt'] at h3
      rw [List.getD_eq_getElem?_getD]; exact h3
theorem bit_lt {ops : Array Oper} (hlt : Back ops) {i j : Nat} (hi : i < ops.size) (hb : bitOf (masks ops) i j = true) : j < i := by
  exact bit_lt_dep (fun k => k < i) hlt (fun k o ho hk e he hb => Nat.lt_trans (hlt k o ho e he hb) hk) i j hi hb (fun o ho e he hb => hlt i o ho e he hb)

/-! ### The orders that may be drawn -/
def Valid (ops : Array Oper) : List Nat → List Nat → Prop
  | D, [] => ∀ i, i < ops.size → i ∈ D
  | D, i :: rest => i < ops.size ∧ i ∉ D ∧ (∀ (o : Oper), ops[i]? = some o → ∀ (e : Edge), e ∈ o.after.toList → Region.binds .any e = true → e.on ∈ D) ∧ Valid ops (i :: D) rest

theorem go_valid {ops : Array Oper} (hlt : Back ops) : ∀ (fuel t : Nat) (listed : Array Bool) (acc D : List Nat), listed.size = ops.size → (∀ i, i < ops.size → (listed.getD i true = true ↔ i ∈ D)) →
    ((List.range ops.size).filter fun i => !listed.getD i true).length = fuel → ∃ L, Region.linearise.go .any ops fuel t listed acc = acc.reverse ++ L ∧ Valid ops D L
  | 0, t, listed, acc, D, hsz, hD, hf => by
    refine ⟨[], by simp [Region.linearise.go], fun i hi => (hD i hi).1 ?_⟩
    have := List.length_eq_zero_iff.1 hf
    rw [List.filter_eq_nil_iff] at this
    have := this i (List.mem_range.2 hi)
    simpa using this
  | fuel + 1, t, listed, acc, D, hsz, hD, hf => by
    unfold Region.linearise.go
    simp only
    generalize hrs : (List.range ops.size).filter (fun i => !listed.getD i true && ((ops[i]?).map (·.after.all fun e => !Region.binds .any e || listed.getD e.on false)).getD false) = rs
    -- there is one whose edges are all met
    have hne : rs ≠ [] := by
      intro e
      subst e
      have hex : ∃ i, i < ops.size ∧ listed.getD i true = false := by
        rcases hq : (List.range ops.size).filter (fun i => !listed.getD i true) with _ | ⟨i, r⟩
        · rw [hq] at hf; simp at hf
        · have : i ∈ (List.range ops.size).filter (fun i => !listed.getD i true) := by rw [hq]; simp
          rw [List.mem_filter] at this
          exact ⟨i, List.mem_range.1 this.1, by simpa using this.2⟩
      have hmin : ∃ i, i < ops.size ∧ listed.getD i true = false ∧ ∀ j, j < i → listed.getD j true = true := by
        obtain ⟨i, h1, h2⟩ := hex
        induction i using Nat.strongRecOn with
        | _ i ih =>
          by_cases hall : ∀ j, j < i → listed.getD j true = true
          · exact ⟨i, h1, h2, hall⟩
          · rw [Classical.not_forall] at hall
            obtain ⟨j, hj⟩ := hall
            rw [Classical.not_imp] at hj
            exact ih j hj.1 (by omega) (by simpa using hj.2)
      obtain ⟨i, h1, h2, h3⟩ := hmin
      rw [List.filter_eq_nil_iff] at hrs
      refine hrs i (List.mem_range.2 h1) ?_
      rw [h2]
      simp only [Bool.not_false, Bool.true_and]
      rw [Array.getElem?_eq_getElem h1]
      simp only [Option.map_some, Option.getD_some, Array.all_eq_true']
      intro e he
      by_cases hbe : Region.binds .any e = true
      case neg => simp [hbe]
      have hel := hlt i _ (Array.getElem?_eq_getElem h1) e (by simpa using he) hbe
      have h4 := h3 e.on hel
      have : listed.getD e.on false = true := by
        rw [Array.getD_eq_getD_getElem?] at h4 ⊢
        rw [Array.getElem?_eq_getElem (by omega)] at h4 ⊢
        exact h4
      rw [this]; simp
    have hpos : 0 < rs.length := List.length_pos_iff.2 hne
    have hmod := Nat.mod_lt t hpos
    rw [List.getElem?_eq_getElem hmod]
    simp only
    have hmem : rs[t % rs.length] ∈ rs := List.getElem_mem hmod
    generalize rs[t % rs.length] = i at hmem
    rw [← hrs, List.mem_filter, List.mem_range] at hmem
    obtain ⟨hi, hc⟩ := hmem
    rw [Bool.and_eq_true] at hc
    obtain ⟨hc1, hc2⟩ := hc
    have hc1 : listed.getD i true = false := by simpa using hc1
    rw [Array.getElem?_eq_getElem hi] at hc2
    simp only [Option.map_some, Option.getD_some, Array.all_eq_true'] at hc2
    have hget : ∀ j, j < ops.size → (listed.setIfInBounds i true).getD j true = if j = i then true else listed.getD j true := by
      intro j hj
      rw [Array.getD_eq_getD_getElem?, Array.getD_eq_getD_getElem?]
      by_cases e : j = i
      · subst e; rw [if_pos rfl, Array.getElem?_setIfInBounds_self, if_pos (by omega)]; rfl
      · rw [if_neg e, Array.getElem?_setIfInBounds_ne (Ne.symm e)]
    obtain ⟨L, h1, h2⟩ := go_valid hlt fuel (t / rs.length) (listed.setIfInBounds i true) (i :: acc) (i :: D) (by simp [hsz]) (fun j hj => by
        rw [hget j hj]
        by_cases e : j = i
        · simp [e]
        · rw [if_neg e, hD j hj]; simp [e])
      (by
        have key : ((List.range ops.size).filter fun j => !listed.getD j true).length = ((List.range ops.size).filter fun j => !(listed.setIfInBounds i true).getD j true).length + 1 := by
          have hnd : (List.range ops.size).Nodup := List.nodup_range
          have e1 : (List.range ops.size).filter (fun j => !(listed.setIfInBounds i true).getD j true) = ((List.range ops.size).filter fun j => !listed.getD j true).filter (fun j => j != i) := by
            rw [List.filter_filter]
            apply List.filter_congr
            intro j hj
            rw [hget j (List.mem_range.1 hj)]
            by_cases e : j = i
            · simp [e]
            · simp [e]
          rw [e1]
          have hnd2 := hnd.filter (fun j => !listed.getD j true)
          have hmem2 : i ∈ (List.range ops.size).filter (fun j => !listed.getD j true) := by rw [List.mem_filter, List.mem_range]; exact ⟨hi, by rw [hc1]; rfl⟩
          have e2 : ((List.range ops.size).filter (fun j => !listed.getD j true)).filter (fun j => j != i) = ((List.range ops.size).filter (fun j => !listed.getD j true)).erase i := (List.Nodup.erase_eq_filter hnd2 i).symm
          rw [e2, List.length_erase_of_mem hmem2]
          have := List.length_pos_of_mem hmem2
          omega
        omega)
    refine ⟨i :: L, by rw [h1]; simp, hi, fun h => ?_, fun o ho e he hb => ?_, h2⟩
    · have := (hD i hi).2 h; rw [hc1] at this; cases this
    · rw [Array.getElem?_eq_getElem hi] at ho; cases ho
      have := hc2 e (by simpa using he)
      rw [hb] at this
      simp only [Bool.not_true, Bool.false_or] at this
      have hel := hlt i _ (Array.getElem?_eq_getElem hi) e he hb
      refine (hD e.on (by omega)).1 ?_
      rw [Array.getD_eq_getD_getElem?] at this ⊢
      rw [Array.getElem?_eq_getElem (by omega)] at this ⊢
      exact this
theorem schedule_valid {ops : Array Oper} (hlt : Back ops) (t : Nat) : Valid ops [] (Region.schedule true ops t) := by
  obtain ⟨L, h1, h2⟩ := go_valid hlt ops.size t (Array.replicate ops.size false) [] [] (by simp) (fun i hi => by simp [Array.getD_eq_getD_getElem?, hi]) (by
    rw [List.filter_eq_self.2]
    · simp
    · intro i hi; rw [List.mem_range] at hi; simp [Array.getD_eq_getD_getElem?, hi])
  have : Region.schedule true ops t = L := by
    unfold Region.schedule Region.linearise
    simp only [Bool.true_or, if_true]
    rw [h1]; simp
  rw [this]; exact h2
end Go.Ab
