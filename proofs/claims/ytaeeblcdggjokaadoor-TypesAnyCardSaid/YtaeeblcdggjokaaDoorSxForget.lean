/- What a call has made of its own may be forgotten, where all that was there stands as it stood. -/
import Derived.Test.YtaeeblcdggjokaaDoorSxRun
import Derived.Test.YtaeeblcdggjokaaDoorSxDraw
namespace Go.Ab
set_option linter.unusedVariables false
set_option linter.unusedSimpArgs false
set_option linter.unusedSectionVars false
set_option linter.constructorNameAsVariable false
open Go Go.RowKit

mutual
def closedA : AV → Bool
  | .v _ => true
  | .e0 => true
  | .any => true
  | .sy _ _ => true
  | .x _ _ => true
  | .d _ _ none => true
  | .rd _ _ _ => true
  | .ref cs => closedL cs
  | .sl cs _ none => closedL cs
  | .agg cs => closedL cs
  | .tup cs => closedL cs
  | .iface _ x => closedA x
  | .fn (.func _) a b => closedL a && closedL b
  | _ => false
def closedL : List AV → Bool
  | [] => true
  | c :: r => closedA c && closedL r
end
def mEq : List (Value × AV) → List (Value × AV) → Bool
  | [], [] => true
  | (k, x) :: r, (l, y) :: t => vEq k l && aEq x y && mEq r t
  | _, _ => false
def oEq : Option AObj → Option AObj → Bool
  | some (.box a k), some (.box b l) => lEq a b && Nat.beq k l
  | some (.fz a k), some (.fz b l) => lEq a b && Nat.beq k l
  | some (.row (.c a) k), some (.row (.c b) l) => Nat.beq a b && Nat.beq k l
  | some (.row (.e x a) k), some (.row (.e y b) l) => eEq x y && Nat.beq a b && Nat.beq k l
  | some (.sym (.map a b e)), some (.sym (.map c d f)) => decide (a = c) && decide (b = d) && eEq e f
  | some (.sym (.arr a e)), some (.sym (.arr c f)) => decide (a = c) && eEq e f
  | some (.map a), some (.map b) => mEq a b
  | some .dead, some .dead => true
  | some .defs, some .defs => true
  | none, none => true
  | _, _ => false
def subSt (s s' : St) : Bool := Nat.ble s.n s'.n && (List.range s.n).all fun i => oEq (s.get i) (s'.get i)
def frzL (g : AV → Option AV) : List AV → Option (List AV)
  | [] => some []
  | c :: r =>
    match g c, frzL g r with
    | some x, some y => if isCell c && !(isCell x) then none else some (x :: y)
    | _, _ => none
/-- A value without what is written: the call's own that 'free' tells is written no more. -/
def frzG (s : St) (free : Nat → Bool) : Nat → AV → Option AV
  | 0, _ => none
  | k + 1, c =>
    match c with
    | .v x => some (.v x)
    | .e0 => some .e0
    | .sy x b => some (.sy x b)
    | .x t e => some (.x t e)
    | .d t e _ => some (.d t e none)
    | .rd t e o => some (.rd t e o)
    | .ref cs => (frzL (frzG s free k) cs).map .ref
    | .sl cs len _ => (frzL (frzG s free k) cs).map (.sl · len none)
    | .agg cs => (frzL (frzG s free k) cs).map .agg
    | .tup cs => (frzL (frzG s free k) cs).map .tup
    | .iface t x => (frzG s free k x).map (.iface t)
    | .fn (.func f) a b =>
      match frzL (frzG s free k) a, frzL (frzG s free k) b with
      | some a, some b => some (.fn (.func f) a b)
      | _, _ => none
    | .mg b len =>
      match s.get b with
      | some (.box cs _) => if free b then (frzL (frzG s free k) cs).map (.sl · len none) else none
      | _ => none
    | .ms b off len =>
      match s.get b with
      | some (.box cs _) => if free b then (frzL (frzG s free k) (cs.drop off)).map (.sl · len none) else none
      | _ => none
    | .box b off =>
      match s.get b with
      | some (.box cs _) => if free b then (frzL (frzG s free k) (cs.drop off)).map .ref else none
      | _ => none
    | _ => none
def frz (s : St) (n k : Nat) (c : AV) : Option AV := frzG s (Nat.ble n) k c
/-- A call of which nothing is kept but a plain result. -/
def fgCall (call : Call) : Call := fun fr args s =>
  match fr with
  | .func f =>
    match call (.func f) args s with
    | some (x, s') =>
      match frz s' s.n 1000 x with
      | some y => if subSt s s' then some (y, s) else none
      | none => none
    | none => none
  | _ => none

theorem mEq_eq : ∀ {a b : List (Value × AV)}, mEq a b = true → a = b
  | [], [], _ => rfl
  | (k, x) :: r, (l, y) :: t, h => by
    unfold mEq at h
    simp only [Bool.and_eq_true] at h
    rw [vEq_eq h.1.1, aEq_eq h.1.2, mEq_eq h.2]
  | [], _ :: _, h => by cases h
  | (_, _) :: _, [], h => by cases h
theorem oEq_eq {a b : Option AObj} (h : oEq a b = true) : a = b := by
  unfold oEq at h
  split at h <;> first | rfl | (cases h; done) | (simp only [Bool.and_eq_true] at h; first | rw [lEq_eq h.1, nbe h.2] | rw [nbe h.1, nbe h.2] | rw [eEq_eq h.1.1, nbe h.1.2, nbe h.2]) | (simp only [Bool.and_eq_true, decide_eq_true_eq] at h; first | rw [h.1.1, h.1.2, eEq_eq h.2] | rw [h.1, eEq_eq h.2]) | rw [mEq_eq h]
theorem subSt_get {s s' : St} (h : subSt s s' = true) : s.n ≤ s'.n ∧ ∀ i, i < s.n → s'.get i = s.get i := by
  unfold subSt at h
  rw [Bool.and_eq_true, List.all_eq_true] at h
  exact ⟨Nat.le_of_ble_eq_true h.1, fun i hi => (oEq_eq (h.2 i (List.mem_range.2 hi))).symm⟩

section
variable [Interp] {w w' : World} {s s' : St} {M M' : Mp} (hn : s.n ≤ s'.n) (hget : ∀ i, i < s.n → s'.get i = s.get i) (hk : s'.k = s.k)
include hn hget hk
theorem Imm.forget {b off : Nat} (h : Imm s' M' b off) : Imm s M' b off := ⟨fun i o hi hg hb => h.1 i o (Nat.lt_of_lt_of_le hi hn) (by rw [hget i hi]; exact hg) hb, h.2⟩
mutual
theorem VR.forget : ∀ {c : AV} {u v : Value}, VR w s M c u → VR w' s' M' c v → VR w' s M' c v
  | .v _, _, _, h, k => by unfold VR at k ⊢; exact k
  | .e0, _, _, h, k => by unfold VR at k ⊢; exact k
  | .ref cs, _, _, h, k => by
    unfold VR at h k ⊢
    obtain ⟨_, _, _, h⟩ := h; obtain ⟨b, off, e, k⟩ := k
    exact ⟨b, off, e, VRs.forget h k⟩
  | .box i off, _, _, h, k => by unfold VR at h k ⊢; exact ⟨h.1, k.2⟩
  | .sl cs len tok, _, _, h, k => by
    unfold VR at h k ⊢
    obtain ⟨_, _, _, _, _, h, h'⟩ := h; obtain ⟨b, off, cap, e, hl, k, k'⟩ := k
    exact ⟨b, off, cap, e, hl, VRs.forget h k, fun t ht => ⟨(h' t ht).1, fun tip e' hg => (k' t ht).2 tip e' (by rw [hget t (h' t ht).1]; exact hg)⟩⟩
  | .ms i off len, _, _, h, k => by unfold VR at h k ⊢; exact ⟨h.1, k.2⟩
  | .mg i len, _, _, h, k => by unfold VR at h k ⊢; exact ⟨h.1, k.2⟩
  | .mp i, _, _, h, k => by unfold VR at h k ⊢; exact ⟨h.1, k.2⟩
  | .fn f a b, _, _, h, k => by
    unfold VR at h k ⊢
    obtain ⟨_, _, _, _, h0, h1, h2⟩ := h; obtain ⟨f', a', b', e, k0, k1, k2⟩ := k
    refine ⟨f', a', b', e, ?_, VRl.forget h1 k1, VRl.forget h2 k2⟩
    unfold renFn at h0 k0 ⊢
    split at h0
    · exact k0
    · rename_i l
      split at h0
      · rename_i hl
        simp only [if_pos (Nat.lt_of_lt_of_le hl hn)] at k0
        simp only [if_pos hl]; exact k0
      · cases h0
    · cases h0
  | .agg cs, _, _, h, k => by
    unfold VR at h k ⊢
    obtain ⟨_, _, h⟩ := h; obtain ⟨vs, e, k⟩ := k
    exact ⟨vs, e, VRl.forget h k⟩
  | .tup cs, _, _, h, k => by
    unfold VR at h k ⊢
    obtain ⟨_, _, h⟩ := h; obtain ⟨vs, e, k⟩ := k
    exact ⟨vs, e, VRl.forget h k⟩
  | .iface t x, _, _, h, k => by
    unfold VR at h k ⊢
    obtain ⟨_, _, h⟩ := h; obtain ⟨v, e, k⟩ := k
    exact ⟨v, e, VR.forget h k⟩
  | .pan _, _, _, h, k => by unfold VR at h; exact h.elim
  | .any, _, _, h, k => by unfold VR at k ⊢; exact k
  | .x _ _, _, _, h, k => by unfold VR at k ⊢; exact k
  | .d _ _ _, _, _, h, k => by
    unfold VR at h k ⊢; rw [← hk]
    exact ⟨k.1.mono fun b off v h1 h2 => ⟨h1, Imm.forget hn hget hk h2⟩, k.2.1, fun t ht => ⟨(h.2.2 t ht).1, fun tip e hg => (k.2.2 t ht).2 tip e (by rw [hget t (h.2.2 t ht).1]; exact hg)⟩⟩
  | .so _ _ _ _, _, _, h, k => by unfold VR at h k ⊢; exact ⟨h.1, k.2⟩
  | .po _ _, _, _, h, k => by unfold VR at h k ⊢; exact ⟨h.1, k.2⟩
  | .rd _ _ _, _, _, h, k => by unfold VR at k ⊢; rw [← hk]; obtain ⟨b, off, cs, e, e2, k, k2⟩ := k; exact ⟨b, off, cs, e, e2, DVs.mono (fun b off v h1 h2 => ⟨h1, Imm.forget hn hget hk h2⟩) k, k2⟩
  | .sy _ _, _, _, h, k => by unfold VR at k ⊢; exact k
theorem VRs.forget : ∀ {cs : List AV} {b off b' off' : Nat}, VRs w s M cs b off → VRs w' s' M' cs b' off' → VRs w' s M' cs b' off'
  | [], _, _, _, _, _, _ => by unfold VRs; trivial
  | c :: r, _, _, _, _, h, k => by
    unfold VRs at h k ⊢
    obtain ⟨⟨_, _, h1⟩, _, _, h4⟩ := h; obtain ⟨⟨v, k0, k1⟩, k2, k3, k4⟩ := k
    exact ⟨⟨v, k0, VR.forget h1 k1⟩, k2, Imm.forget hn hget hk k3, VRs.forget h4 k4⟩
theorem VRl.forget : ∀ {cs : List AV} {us vs : List Value}, VRl w s M cs us → VRl w' s' M' cs vs → VRl w' s M' cs vs
  | [], _, _, h, k => by unfold VRl at k ⊢; exact k
  | c :: r, _, _, h, k => by
    unfold VRl at h k ⊢
    obtain ⟨_, _, _, h1, h2⟩ := h; obtain ⟨v, t, e, k1, k2⟩ := k
    exact ⟨v, t, e, VR.forget h1 k1, VRl.forget h2 k2⟩
end
mutual
theorem VR.closed : ∀ {c : AV} {v : Value}, closedA c = true → VR w' s' M' c v → VR w' s M' c v
  | .v _, _, _, k => by unfold VR at k ⊢; exact k
  | .e0, _, _, k => by unfold VR at k ⊢; exact k
  | .any, _, _, k => by unfold VR at k ⊢; exact k
  | .x _ _, _, _, k => by unfold VR at k ⊢; exact k
  | .d _ _ none, _, _, k => by unfold VR at k ⊢; rw [← hk]; exact ⟨k.1.mono fun b off v h1 h2 => ⟨h1, Imm.forget hn hget hk h2⟩, k.2.1, fun t ht => by cases ht⟩
  | .d _ _ (some _), _, h, _ => by unfold closedA at h; cases h
  | .so _ _ _ _, _, h, _ => by unfold closedA at h; cases h
  | .po _ _, _, h, _ => by unfold closedA at h; cases h
  | .rd _ _ _, _, _, k => by unfold VR at k ⊢; rw [← hk]; obtain ⟨b, off, cs, e, e2, k, k2⟩ := k; exact ⟨b, off, cs, e, e2, DVs.mono (fun b off v h1 h2 => ⟨h1, Imm.forget hn hget hk h2⟩) k, k2⟩
  | .sy _ _, _, _, k => by unfold VR at k ⊢; exact k
  | .ref cs, _, h, k => by
    unfold closedA at h; unfold VR at k ⊢
    obtain ⟨b, off, e, k⟩ := k
    exact ⟨b, off, e, VRs.closed h k⟩
  | .sl cs len none, _, h, k => by
    unfold closedA at h; unfold VR at k ⊢
    obtain ⟨b, off, cap, e, hl, k, k'⟩ := k
    exact ⟨b, off, cap, e, hl, VRs.closed h k, fun t ht => by cases ht⟩
  | .agg cs, _, h, k => by
    unfold closedA at h; unfold VR at k ⊢
    obtain ⟨vs, e, k⟩ := k
    exact ⟨vs, e, VRl.closed h k⟩
  | .tup cs, _, h, k => by
    unfold closedA at h; unfold VR at k ⊢
    obtain ⟨vs, e, k⟩ := k
    exact ⟨vs, e, VRl.closed h k⟩
  | .iface t x, _, h, k => by
    unfold closedA at h; unfold VR at k ⊢
    obtain ⟨v, e, k⟩ := k
    exact ⟨v, e, VR.closed h k⟩
  | .fn (.func f) a b, _, h, k => by
    unfold closedA at h; unfold VR at k ⊢
    rw [Bool.and_eq_true] at h
    obtain ⟨f', a', b', e, k0, k1, k2⟩ := k
    exact ⟨f', a', b', e, k0, VRl.closed h.1 k1, VRl.closed h.2 k2⟩
  | .sl _ _ (some _), _, h, _ => by unfold closedA at h; cases h
  | .box _ _, _, h, _ => by unfold closedA at h; cases h
  | .ms _ _ _, _, h, _ => by unfold closedA at h; cases h
  | .mg _ _, _, h, _ => by unfold closedA at h; cases h
  | .mp _, _, h, _ => by unfold closedA at h; cases h
  | .pan _, _, h, _ => by unfold closedA at h; cases h
  | .fn (.yield _) _ _, _, h, _ => by simp [closedA] at h
  | .fn (.method _) _ _, _, h, _ => by simp [closedA] at h
  | .fn (.methodOf _ _) _ _, _, h, _ => by simp [closedA] at h
  | .fn (.via _ _ _ _) _ _, _, h, _ => by simp [closedA] at h
theorem VRs.closed : ∀ {cs : List AV} {b off : Nat}, closedL cs = true → VRs w' s' M' cs b off → VRs w' s M' cs b off
  | [], _, _, _, _ => by unfold VRs; trivial
  | c :: r, _, _, h, k => by
    unfold closedL at h; unfold VRs at k ⊢
    rw [Bool.and_eq_true] at h
    obtain ⟨⟨v, k0, k1⟩, k2, k3, k4⟩ := k
    exact ⟨⟨v, k0, VR.closed h.1 k1⟩, k2, Imm.forget hn hget hk k3, VRs.closed h.2 k4⟩
theorem VRl.closed : ∀ {cs : List AV} {vs : List Value}, closedL cs = true → VRl w' s' M' cs vs → VRl w' s M' cs vs
  | [], _, _, k => by unfold VRl at k ⊢; exact k
  | c :: r, _, h, k => by
    unfold closedL at h; unfold VRl at k ⊢
    rw [Bool.and_eq_true] at h
    obtain ⟨v, t, e, k1, k2⟩ := k
    exact ⟨v, t, e, VR.closed h.1 k1, VRl.closed h.2 k2⟩
end
theorem MR.forget : ∀ {es : List (Value × AV)} {us vs : List MapEntry}, MR w s M es us → MR w' s' M' es vs → MR w' s M' es vs
  | [], _, _, h, k => by unfold MR at k ⊢; exact k
  | (_, _) :: r, _, _, h, k => by
    unfold MR at h k ⊢
    obtain ⟨_, _, _, _, h1, h2⟩ := h; obtain ⟨e, t, e1, e2, k1, k2⟩ := k
    exact ⟨e, t, e1, e2, VR.forget hn hget hk h1 k1, MR.forget h2 k2⟩
theorem sim_forget {G : Nat → Option (List AV)} {B0 : Nat} {w0 : World} (hs : Sim G B0 w0 w s M) (hs' : Sim G B0 w0 w' s' M') (hE : Ext w s M w' s' M') : Sim G B0 w0 w' s M' ∧ Ext w s M w' s M' := by
  have hE2 : Ext w s M w' s M' := ⟨fun b off v h1 h2 => ⟨(hE.cells b off v h1 h2).1, Imm.forget hn hget hk (hE.cells b off v h1 h2).2⟩, Nat.le_refl _, hE.map, fun _ _ _ _ h => h, ⟨hE.frm.size, hE.frm.blocks, fun i o hi hg hl hb => hE.frm.old i o (Nat.lt_of_lt_of_le hi hn) (by rw [hget i hi]; exact hg) hl hb⟩, hE.keep.1, hE.keep.2.1, rfl⟩
  refine ⟨⟨hs'.below, hs.size, hs.bound, fun i hi => hs'.blk i (Nat.lt_of_lt_of_le hi hn), fun i j oi oj hi hj gi gj => hs'.inj i j oi oj (Nat.lt_of_lt_of_le hi hn) (Nat.lt_of_lt_of_le hj hn) (by rw [hget i hi]; exact gi) (by rw [hget j hj]; exact gj), fun i o hi hg => ?_, fun g cs hg => (hs.glob g cs hg).ext hE2, fun e he => by rw [hE.keep.1]; exact hs.fx e he, fun b off ho => ⟨(hs'.out b off ho).1, fun i hi => (hs'.out b off ho).2 i (Nat.lt_of_lt_of_le hi hn)⟩⟩, hE2⟩
  have h := hs.obj i o hi hg
  have k := hs'.obj i o (Nat.lt_of_lt_of_le hi hn) (by rw [hget i hi]; exact hg)
  cases o with
  | box cs esz => obtain ⟨_, _, _, _, h2, _⟩ := h; obtain ⟨c, e', fr, a1, a2, a3⟩ := k; exact ⟨c, e', fr, a1, VRl.forget hn hget hk h2 a2, a3⟩
  | fz cs esz => obtain ⟨_, _, _, _, h2, _⟩ := h; obtain ⟨c, e', fr, a1, a2, a3⟩ := k; exact ⟨c, e', fr, a1, VRl.forget hn hget hk h2 a2, a3⟩
  | row tip esz => exact k
  | map es => obtain ⟨_, _, _, h2⟩ := h; obtain ⟨c, q, a1, a2⟩ := k; exact ⟨c, q, a1, MR.forget hn hget hk h2 a2⟩
  | dead => trivial
  | loop T ps asg body st pend => obtain ⟨_, _, _, _, _, _, _, _, h8⟩ := h; obtain ⟨rc, a1, a2, a3, a4, a5, a6, a7, a8⟩ := k; exact ⟨rc, a1, a2, a3, a4, a5, a6, a7, fun t => VR.forget hn hget hk (h8 t) (a8 t)⟩
  | defs => exact k
  | sym _ => exact k
end

section
variable [Interp] {G : Nat → Option (List AV)} {B0 : Nat} {w0 w' : World} {s s' : St} {M' : Mp} {free : Nat → Bool} (himm : ∀ b off, Imm s' M' b off → Imm s M' b off)
  (hown : ∀ b cs k, b < s'.n → s'.get b = some (.box cs k) → free b = true → ∀ off, Imm s M' (M'.blk b) off) (hk : s'.k = s.k) (hs : Sim G B0 w0 w' s' M')
include himm hown hk hs
theorem frzL_VRl {g : AV → Option AV} (hg : ∀ {c y : AV} {v : Value}, g c = some y → VR w' s' M' c v → VR w' s M' y v) : ∀ {cs ys : List AV} {vs : List Value}, frzL g cs = some ys → VRl w' s' M' cs vs → VRl w' s M' ys vs
  | [], ys, vs, h, k => by
    simp only [frzL, Option.some.injEq] at h
    subst h; unfold VRl at k ⊢; exact k
  | c :: r, ys, vs, h, k => by
    unfold frzL at h
    split at h
    · rename_i x y h1 h2
      split at h
      · cases h
      · cases h
        unfold VRl at k ⊢
        obtain ⟨v, t, e, k1, k2⟩ := k
        exact ⟨v, t, e, hg h1 k1, frzL_VRl hg h2 k2⟩
    · cases h
theorem frzL_VRs {g : AV → Option AV} (hg : ∀ {c y : AV} {v : Value}, g c = some y → VR w' s' M' c v → VR w' s M' y v) : ∀ {cs ys : List AV} {b off : Nat}, frzL g cs = some ys → VRs w' s' M' cs b off → VRs w' s M' ys b off
  | [], ys, _, _, h, k => by
    simp only [frzL, Option.some.injEq] at h
    subst h; unfold VRs; trivial
  | c :: r, ys, b, off, h, k => by
    unfold frzL at h
    split at h
    · rename_i x y h1 h2
      split at h
      · cases h
      · rename_i hc
        cases h
        unfold VRs at k ⊢
        obtain ⟨⟨v, k0, k1⟩, k2, k3, k4⟩ := k
        refine ⟨⟨v, k0, hg h1 k1⟩, ?_, himm _ _ k3, frzL_VRs hg h2 k4⟩
        rw [k2] at hc
        simpa using hc
    · cases h
/-- The cells of a block that only the call's own object stood over. -/
theorem frzL_row {g : AV → Option AV} (hg : ∀ {c y : AV} {v : Value}, g c = some y → VR w' s' M' c v → VR w' s M' y v) {b : Nat} (hb : b < s'.n) (hnb : free b = true) {cs ys : List AV} {k off : Nat} (hgb : s'.get b = some (.box cs k)) (h : frzL g (cs.drop off) = some ys) :
    VRs w' s M' ys (M'.blk b) off := by
  obtain ⟨c, e, fr, h1, h2, h3, _, _⟩ := hs.obj b _ hb hgb
  have himm2 : ∀ i, Imm s M' (M'.blk b) i := hown b _ _ hb hgb hnb
  have key : ∀ (ds ys : List AV) (us : List Value) (off : Nat), frzL g ds = some ys → VRl w' s' M' ds us → ds.all isCell = true → (∀ j v, us[j]? = some v → w'.cell? ⟨M'.blk b, off + j, none⟩ = some v) → VRs w' s M' ys (M'.blk b) off := by
    intro ds
    induction ds with
    | nil =>
      intro ys us off h _ _ _
      simp only [frzL, Option.some.injEq] at h
      subst h; unfold VRs; trivial
    | cons d r ih =>
      intro ys us off h k hc hcell
      unfold frzL at h
      split at h
      · rename_i x y g1 g2
        split at h
        · cases h
        · rename_i hcx
          cases h
          unfold VRl at k
          obtain ⟨v, t, rfl, k1, k2⟩ := k
          simp only [List.all_cons, Bool.and_eq_true] at hc
          unfold VRs
          refine ⟨⟨v, by simpa using hcell 0 v rfl, hg g1 k1⟩, ?_, himm2 off, ih y t (off + 1) g2 k2 hc.2 fun j u hj => ?_⟩
          · rw [hc.1] at hcx
            simpa using hcx
          · have := hcell (j + 1) u (by simpa using hj)
            rw [show off + 1 + j = off + (j + 1) by omega]; exact this
      · cases h
  refine key (cs.drop off) ys ((c.toList.take cs.length).drop off) off h (h2.drop off) ?_ fun j v hj => ?_
  · rw [List.all_eq_true] at h3 ⊢
    exact fun x hx => h3 x (List.mem_of_mem_drop hx)
  · rw [List.getElem?_drop, List.getElem?_take] at hj
    split at hj
    · simp only [World.cell?, h1]
      simpa using hj
    · cases hj
theorem frzG_VR : ∀ (k : Nat) {c y : AV} {v : Value}, frzG s' free k c = some y → VR w' s' M' c v → VR w' s M' y v
  | 0, _, _, _, h, _ => by cases h
  | k + 1, c, y, v, h, hv => by
    have ih : ∀ {c y : AV} {v : Value}, frzG s' free k c = some y → VR w' s' M' c v → VR w' s M' y v := frzG_VR k
    unfold frzG at h
    split at h
    · cases h; unfold VR at hv ⊢; exact hv
    · cases h; unfold VR at hv ⊢; exact hv
    · cases h; unfold VR at hv ⊢; exact hv
    · cases h; unfold VR at hv ⊢; exact hv
    · cases h; unfold VR at hv ⊢; rw [← hk]; exact ⟨hv.1.mono fun b off v h1 h2 => ⟨h1, himm _ _ h2⟩, hv.2.1, fun t ht => by cases ht⟩
    · cases h; unfold VR at hv ⊢; rw [← hk]; obtain ⟨b, off, cs, e, e2, k1, k2⟩ := hv; exact ⟨b, off, cs, e, e2, DVs.mono (fun b off v h1 h2 => ⟨h1, himm _ _ h2⟩) k1, k2⟩
    · obtain ⟨ys, h1, rfl⟩ := Option.map_eq_some_iff.1 h
      unfold VR at hv ⊢
      obtain ⟨b, off, e, hv⟩ := hv
      exact ⟨b, off, e, frzL_VRs himm hown hk hs ih h1 hv⟩
    · obtain ⟨ys, h1, rfl⟩ := Option.map_eq_some_iff.1 h
      unfold VR at hv ⊢
      obtain ⟨b, off, cap, e, hl, hv, _⟩ := hv
      exact ⟨b, off, cap, e, hl, frzL_VRs himm hown hk hs ih h1 hv, fun t ht => by cases ht⟩
    · obtain ⟨ys, h1, rfl⟩ := Option.map_eq_some_iff.1 h
      unfold VR at hv ⊢
      obtain ⟨vs, e, hv⟩ := hv
      exact ⟨vs, e, frzL_VRl himm hown hk hs ih h1 hv⟩
    · obtain ⟨ys, h1, rfl⟩ := Option.map_eq_some_iff.1 h
      unfold VR at hv ⊢
      obtain ⟨vs, e, hv⟩ := hv
      exact ⟨vs, e, frzL_VRl himm hown hk hs ih h1 hv⟩
    · obtain ⟨ys, h1, rfl⟩ := Option.map_eq_some_iff.1 h
      unfold VR at hv ⊢
      obtain ⟨u, e, hv⟩ := hv
      exact ⟨u, e, ih h1 hv⟩
    · split at h
      · rename_i a b h1 h2
        cases h
        unfold VR at hv ⊢
        obtain ⟨f', a', b', e, k0, k1, k2⟩ := hv
        exact ⟨f', a', b', e, k0, frzL_VRl himm hown hk hs ih h1 k1, frzL_VRl himm hown hk hs ih h2 k2⟩
      · cases h
    · rename_i b len
      split at h
      · rename_i cs q hgb
        split at h
        · rename_i hb
          obtain ⟨ys, h1, rfl⟩ := Option.map_eq_some_iff.1 h
          unfold VR at hv ⊢
          obtain ⟨k0, k1, e⟩ := hv
          exact ⟨M'.blk b, 0, M'.cap b, e, k1, frzL_row himm hown hk hs ih k0 hb hgb (by simpa using h1), fun t ht => by cases ht⟩
        · cases h
      · cases h
    · rename_i b off len
      split at h
      · rename_i cs q hgb
        split at h
        · rename_i hb
          obtain ⟨ys, h1, rfl⟩ := Option.map_eq_some_iff.1 h
          unfold VR at hv ⊢
          obtain ⟨k0, cap, k1, e⟩ := hv
          exact ⟨M'.blk b, off, cap, e, k1, frzL_row himm hown hk hs ih k0 hb hgb h1, fun t ht => by cases ht⟩
        · cases h
      · cases h
    · rename_i b off
      split at h
      · rename_i cs q hgb
        split at h
        · rename_i hb
          obtain ⟨ys, h1, rfl⟩ := Option.map_eq_some_iff.1 h
          unfold VR at hv ⊢
          obtain ⟨k0, e⟩ := hv
          exact ⟨M'.blk b, off, e, frzL_row himm hown hk hs ih k0 hb hgb h1⟩
        · cases h
      · cases h
    · cases h
end

theorem imm_prefix [Interp] {G : Nat → Option (List AV)} {B0 : Nat} {w0 w' : World} {s s' : St} {M' : Mp} (hn : s.n ≤ s'.n) (hget : ∀ i, i < s.n → s'.get i = s.get i) (hs : Sim G B0 w0 w' s' M') :
    ∀ b cs k, b < s'.n → s'.get b = some (.box cs k) → Nat.ble s.n b = true → ∀ off, Imm s M' (M'.blk b) off := by
  intro b cs k hb hgb hnb off
  have hnb := Nat.le_of_ble_eq_true hnb
  refine ⟨fun j o hj hgj hbk => ?_, out_own hs hb⟩
  have e1 := hs.inj j b o (.box cs k) (by omega) hb (by rw [hget j hj]; exact hgj) hgb
  cases o with
  | dead => trivial
  | _ => exact absurd (e1 trivial trivial hbk) (by omega)
theorem frz_VR [Interp] {G : Nat → Option (List AV)} {B0 : Nat} {w0 w' : World} {s s' : St} {M' : Mp} (hn : s.n ≤ s'.n) (hget : ∀ i, i < s.n → s'.get i = s.get i) (hk : s'.k = s.k) (hs : Sim G B0 w0 w' s' M') (k : Nat) {c y : AV} {v : Value} (h : frz s' s.n k c = some y) (hv : VR w' s' M' c v) : VR w' s M' y v :=
  frzG_VR (fun b off hi => Imm.forget hn hget hk hi) (imm_prefix hn hget hs) hk hs k h hv

theorem fgCall_ok [Interp] {P : Program} {G : Nat → Option (List AV)} {B0 : Nat} {w0 : World} {call : Call} (h : CallOk P G B0 w0 call) : CallOk P G B0 w0 (fgCall call) := by
  intro fr args s r s' hc w M vs hs hv
  unfold fgCall at hc
  split at hc
  · rename_i f
    split at hc
    · rename_i x s1 h1
      split at hc
      · rename_i y hy
        split at hc
        · rename_i hb
          cases hc
          obtain ⟨hn, hget⟩ := subSt_get hb
          refine (h (.func f) args s x s1 h1 w M vs hs hv).mono ?_
          rintro e w' ⟨M', hd, k2, k3⟩
          obtain ⟨q1, q2⟩ := sim_forget hn hget k3.keep.2.2 hs k2 k3
          refine ⟨M', ?_, q1, q2⟩
          rcases hd with ⟨v, rfl, k1⟩ | ⟨y', v, hy', rfl, k1⟩
          · exact .inl ⟨v, rfl, frz_VR hn hget k3.keep.2.2 k2 1000 hy k1⟩
          · exfalso
            unfold isPan at hy'
            split at hy'
            · simp [frz, frzG] at hy
            · cases hy'
        · cases hc
      · cases hc
    · cases hc
  · cases hc

/-- Such a call leaves the state. -/
theorem fg_state1 {P : Program} {G : Nat → Option (List AV)} {call : Call} {o : Oper} {T : Tm} {s s' : St} {x : AV} {c : Go.Call} {f : Operand} (hop : o.op = .call c) (hc : c.callee = .value f) (h : evOp1 P G (fgCall call) o T s = some (x, s')) : s' = s := by
  have key : ∀ fr args y s1, fgCall call fr args s = some (y, s1) → s1 = s := fun fr args y s1 h => by
    unfold fgCall at h
    split at h
    · split at h
      · split at h
        · split at h
          · cases h; rfl
          · cases h
        · cases h
      · cases h
    · cases h
  simp only [evOp1, hop, hc, Option.bind_eq_bind, Option.bind_eq_some_iff] at h
  obtain ⟨args, h1, cf, h2, h⟩ := h
  split at h
  · unfold callA at h
    split at h
    · cases h
    · split at h
      · exact key _ _ _ _ h
      · split at h
        · split at h
          · cases h; rfl
          · cases h
        · simp only [Option.bind_eq_bind, Option.bind_eq_some_iff] at h
          obtain ⟨_, _, _, _, h⟩ := h
          split at h
          · simp only [Option.bind_eq_some_iff, Option.pure_def, Option.some.injEq, Prod.mk.injEq] at h
            obtain ⟨_, _, _, h⟩ := h
            exact h.symm
          · cases h
  · exact key _ _ _ _ h
  · cases h
theorem fg_state {P : Program} {G : Nat → Option (List AV)} {call : Call} {o : Oper} {T : Tm} {s s' : St} {x : AV} {c : Go.Call} {f : Operand} (hop : o.op = .call c) (hc : c.callee = .value f) (h : evOp P G (fgCall call) o T s = some (x, s')) : s' = s := by
  unfold evOp at h
  split at h
  · rename_i x1 s2 h1
    cases h
    exact fg_state1 hop hc h1
  · split at h
    · rename_i x1 s2 h1
      cases h
      unfold evSym at h1
      rw [hop] at h1
      simp only [hc] at h1
      cases h1
    · cases h
end Go.Ab
