/- What a call has made of its own may be forgotten, where all that was there stands as it stood. -/
import Derived.Test.YtnajchenodjppaaGreatDoorAbRun
import Derived.Test.YtnajchenodjppaaGreatDoorAbDraw
namespace Go.Ab
set_option linter.unusedVariables false
set_option linter.unusedSimpArgs false
set_option linter.unusedSectionVars false
set_option linter.constructorNameAsVariable false
open Go Go.RowKit

mutual
def closedA : AV → Bool
  | .v _ => true
  | .e0 => true
  | .any => true
  | .ref cs => closedL cs
  | .sl cs _ none => closedL cs
  | .agg cs => closedL cs
  | .tup cs => closedL cs
  | .iface _ x => closedA x
  | .fn (.func _) a b => closedL a && closedL b
  | _ => false
def closedL : List AV → Bool
  | [] => true
  | c :: r => closedA c && closedL r
end
def mEq : List (Value × AV) → List (Value × AV) → Bool
  | [], [] => true
  | (k, x) :: r, (l, y) :: t => vEq k l && aEq x y && mEq r t
  | _, _ => false
def oEq : Option AObj → Option AObj → Bool
  | some (.box a k), some (.box b l) => lEq a b && Nat.beq k l
  | some (.fz a k), some (.fz b l) => lEq a b && Nat.beq k l
  | some (.row a k), some (.row b l) => Nat.beq a b && Nat.beq k l
  | some (.map a), some (.map b) => mEq a b
  | some .dead, some .dead => true
  | some .defs, some .defs => true
  | none, none => true
  | _, _ => false
def subSt (s s' : St) : Bool := Nat.ble s.n s'.n && (List.range s.n).all fun i => oEq (s.get i) (s'.get i)
/-- A call of which nothing is kept but a plain result. -/
def fgCall (call : Call) : Call := fun fr args s =>
  match fr with
  | .func f =>
    match call (.func f) args s with
    | some (x, s') => if closedA x && subSt s s' then some (x, s) else none
    | none => none
  | _ => none

theorem mEq_eq : ∀ {a b : List (Value × AV)}, mEq a b = true → a = b
  | [], [], _ => rfl
  | (k, x) :: r, (l, y) :: t, h => by
    unfold mEq at h
    simp only [Bool.and_eq_true] at h
    rw [vEq_eq h.1.1, aEq_eq h.1.2, mEq_eq h.2]
  | [], _ :: _, h => by cases h
  | (_, _) :: _, [], h => by cases h
theorem oEq_eq {a b : Option AObj} (h : oEq a b = true) : a = b := by
  unfold oEq at h
  split at h <;> first | rfl | (cases h; done) | (simp only [Bool.and_eq_true] at h; first | rw [lEq_eq h.1, nbe h.2] | rw [nbe h.1, nbe h.2]) | rw [mEq_eq h]
theorem subSt_get {s s' : St} (h : subSt s s' = true) : s.n ≤ s'.n ∧ ∀ i, i < s.n → s'.get i = s.get i := by
  unfold subSt at h
  rw [Bool.and_eq_true, List.all_eq_true] at h
  exact ⟨Nat.le_of_ble_eq_true h.1, fun i hi => (oEq_eq (h.2 i (List.mem_range.2 hi))).symm⟩

section
variable {w w' : World} {s s' : St} {M M' : Mp} (hn : s.n ≤ s'.n) (hget : ∀ i, i < s.n → s'.get i = s.get i)
include hn hget
theorem Imm.forget {b off : Nat} (h : Imm s' M' b off) : Imm s M' b off := fun i o hi hg hb => h i o (Nat.lt_of_lt_of_le hi hn) (by rw [hget i hi]; exact hg) hb
mutual
theorem VR.forget : ∀ {c : AV} {u v : Value}, VR w s M c u → VR w' s' M' c v → VR w' s M' c v
  | .v _, _, _, h, k => by unfold VR at k ⊢; exact k
  | .e0, _, _, h, k => by unfold VR at k ⊢; exact k
  | .ref cs, _, _, h, k => by
    unfold VR at h k ⊢
    obtain ⟨_, _, _, h⟩ := h; obtain ⟨b, off, e, k⟩ := k
    exact ⟨b, off, e, VRs.forget h k⟩
  | .box i off, _, _, h, k => by unfold VR at h k ⊢; exact ⟨h.1, k.2⟩
  | .sl cs len tok, _, _, h, k => by
    unfold VR at h k ⊢
    obtain ⟨_, _, _, _, _, h, h'⟩ := h; obtain ⟨b, off, cap, e, hl, k, k'⟩ := k
    exact ⟨b, off, cap, e, hl, VRs.forget h k, fun t ht => ⟨(h' t ht).1, fun tip e' hg => (k' t ht).2 tip e' (by rw [hget t (h' t ht).1]; exact hg)⟩⟩
  | .ms i off len, _, _, h, k => by unfold VR at h k ⊢; exact ⟨h.1, k.2⟩
  | .mg i len, _, _, h, k => by unfold VR at h k ⊢; exact ⟨h.1, k.2⟩
  | .mp i, _, _, h, k => by unfold VR at h k ⊢; exact ⟨h.1, k.2⟩
  | .fn f a b, _, _, h, k => by
    unfold VR at h k ⊢
    obtain ⟨_, _, _, _, h0, h1, h2⟩ := h; obtain ⟨f', a', b', e, k0, k1, k2⟩ := k
    refine ⟨f', a', b', e, ?_, VRl.forget h1 k1, VRl.forget h2 k2⟩
    unfold renFn at h0 k0 ⊢
    split at h0
    · exact k0
    · rename_i l
      split at h0
      · rename_i hl
        simp only [if_pos (Nat.lt_of_lt_of_le hl hn)] at k0
        simp only [if_pos hl]; exact k0
      · cases h0
    · cases h0
  | .agg cs, _, _, h, k => by
    unfold VR at h k ⊢
    obtain ⟨_, _, h⟩ := h; obtain ⟨vs, e, k⟩ := k
    exact ⟨vs, e, VRl.forget h k⟩
  | .tup cs, _, _, h, k => by
    unfold VR at h k ⊢
    obtain ⟨_, _, h⟩ := h; obtain ⟨vs, e, k⟩ := k
    exact ⟨vs, e, VRl.forget h k⟩
  | .iface t x, _, _, h, k => by
    unfold VR at h k ⊢
    obtain ⟨_, _, h⟩ := h; obtain ⟨v, e, k⟩ := k
    exact ⟨v, e, VR.forget h k⟩
  | .pan _, _, _, h, k => by unfold VR at h; exact h.elim
  | .any, _, _, h, k => by unfold VR at k ⊢; exact k
theorem VRs.forget : ∀ {cs : List AV} {b off b' off' : Nat}, VRs w s M cs b off → VRs w' s' M' cs b' off' → VRs w' s M' cs b' off'
  | [], _, _, _, _, _, _ => by unfold VRs; trivial
  | c :: r, _, _, _, _, h, k => by
    unfold VRs at h k ⊢
    obtain ⟨⟨_, _, h1⟩, _, _, h4⟩ := h; obtain ⟨⟨v, k0, k1⟩, k2, k3, k4⟩ := k
    exact ⟨⟨v, k0, VR.forget h1 k1⟩, k2, Imm.forget hn hget k3, VRs.forget h4 k4⟩
theorem VRl.forget : ∀ {cs : List AV} {us vs : List Value}, VRl w s M cs us → VRl w' s' M' cs vs → VRl w' s M' cs vs
  | [], _, _, h, k => by unfold VRl at k ⊢; exact k
  | c :: r, _, _, h, k => by
    unfold VRl at h k ⊢
    obtain ⟨_, _, _, h1, h2⟩ := h; obtain ⟨v, t, e, k1, k2⟩ := k
    exact ⟨v, t, e, VR.forget h1 k1, VRl.forget h2 k2⟩
end
mutual
theorem VR.closed : ∀ {c : AV} {v : Value}, closedA c = true → VR w' s' M' c v → VR w' s M' c v
  | .v _, _, _, k => by unfold VR at k ⊢; exact k
  | .e0, _, _, k => by unfold VR at k ⊢; exact k
  | .any, _, _, k => by unfold VR at k ⊢; exact k
  | .ref cs, _, h, k => by
    unfold closedA at h; unfold VR at k ⊢
    obtain ⟨b, off, e, k⟩ := k
    exact ⟨b, off, e, VRs.closed h k⟩
  | .sl cs len none, _, h, k => by
    unfold closedA at h; unfold VR at k ⊢
    obtain ⟨b, off, cap, e, hl, k, k'⟩ := k
    exact ⟨b, off, cap, e, hl, VRs.closed h k, fun t ht => by cases ht⟩
  | .agg cs, _, h, k => by
    unfold closedA at h; unfold VR at k ⊢
    obtain ⟨vs, e, k⟩ := k
    exact ⟨vs, e, VRl.closed h k⟩
  | .tup cs, _, h, k => by
    unfold closedA at h; unfold VR at k ⊢
    obtain ⟨vs, e, k⟩ := k
    exact ⟨vs, e, VRl.closed h k⟩
  | .iface t x, _, h, k => by
    unfold closedA at h; unfold VR at k ⊢
    obtain ⟨v, e, k⟩ := k
    exact ⟨v, e, VR.closed h k⟩
  | .fn (.func f) a b, _, h, k => by
    unfold closedA at h; unfold VR at k ⊢
    rw [Bool.and_eq_true] at h
    obtain ⟨f', a', b', e, k0, k1, k2⟩ := k
    exact ⟨f', a', b', e, k0, VRl.closed h.1 k1, VRl.closed h.2 k2⟩
  | .sl _ _ (some _), _, h, _ => by unfold closedA at h; cases h
  | .box _ _, _, h, _ => by unfold closedA at h; cases h
  | .ms _ _ _, _, h, _ => by unfold closedA at h; cases h
  | .mg _ _, _, h, _ => by unfold closedA at h; cases h
  | .mp _, _, h, _ => by unfold closedA at h; cases h
  | .pan _, _, h, _ => by unfold closedA at h; cases h
  | .fn (.yield _) _ _, _, h, _ => by simp [closedA] at h
  | .fn (.method _) _ _, _, h, _ => by simp [closedA] at h
  | .fn (.methodOf _ _) _ _, _, h, _ => by simp [closedA] at h
  | .fn (.via _ _ _ _) _ _, _, h, _ => by simp [closedA] at h
theorem VRs.closed : ∀ {cs : List AV} {b off : Nat}, closedL cs = true → VRs w' s' M' cs b off → VRs w' s M' cs b off
  | [], _, _, _, _ => by unfold VRs; trivial
  | c :: r, _, _, h, k => by
    unfold closedL at h; unfold VRs at k ⊢
    rw [Bool.and_eq_true] at h
    obtain ⟨⟨v, k0, k1⟩, k2, k3, k4⟩ := k
    exact ⟨⟨v, k0, VR.closed h.1 k1⟩, k2, Imm.forget hn hget k3, VRs.closed h.2 k4⟩
theorem VRl.closed : ∀ {cs : List AV} {vs : List Value}, closedL cs = true → VRl w' s' M' cs vs → VRl w' s M' cs vs
  | [], _, _, k => by unfold VRl at k ⊢; exact k
  | c :: r, _, h, k => by
    unfold closedL at h; unfold VRl at k ⊢
    rw [Bool.and_eq_true] at h
    obtain ⟨v, t, e, k1, k2⟩ := k
    exact ⟨v, t, e, VR.closed h.1 k1, VRl.closed h.2 k2⟩
end
theorem MR.forget : ∀ {es : List (Value × AV)} {us vs : List MapEntry}, MR w s M es us → MR w' s' M' es vs → MR w' s M' es vs
  | [], _, _, h, k => by unfold MR at k ⊢; exact k
  | (_, _) :: r, _, _, h, k => by
    unfold MR at h k ⊢
    obtain ⟨_, _, _, _, h1, h2⟩ := h; obtain ⟨e, t, e1, e2, k1, k2⟩ := k
    exact ⟨e, t, e1, e2, VR.forget hn hget h1 k1, MR.forget h2 k2⟩
theorem sim_forget {G : Nat → Option (List AV)} {B0 : Nat} {w0 : World} (hs : Sim G B0 w0 w s M) (hs' : Sim G B0 w0 w' s' M') (hE : Ext w s M w' s' M') : Sim G B0 w0 w' s M' ∧ Ext w s M w' s M' := by
  have hE2 : Ext w s M w' s M' := ⟨fun b off v h1 h2 => ⟨(hE.cells b off v h1 h2).1, Imm.forget hn hget (hE.cells b off v h1 h2).2⟩, Nat.le_refl _, hE.map, fun _ _ _ _ h => h⟩
  refine ⟨⟨hs'.below, hs.size, hs.bound, fun i hi => hs'.blk i (Nat.lt_of_lt_of_le hi hn), fun i j oi oj hi hj gi gj => hs'.inj i j oi oj (Nat.lt_of_lt_of_le hi hn) (Nat.lt_of_lt_of_le hj hn) (by rw [hget i hi]; exact gi) (by rw [hget j hj]; exact gj), fun i o hi hg => ?_, fun g cs hg => (hs.glob g cs hg).ext hE2⟩, hE2⟩
  have h := hs.obj i o hi hg
  have k := hs'.obj i o (Nat.lt_of_lt_of_le hi hn) (by rw [hget i hi]; exact hg)
  cases o with
  | box cs esz => obtain ⟨_, _, _, _, h2, _⟩ := h; obtain ⟨c, e', fr, a1, a2, a3⟩ := k; exact ⟨c, e', fr, a1, VRl.forget hn hget h2 a2, a3⟩
  | fz cs esz => obtain ⟨_, _, _, _, h2, _⟩ := h; obtain ⟨c, e', fr, a1, a2, a3⟩ := k; exact ⟨c, e', fr, a1, VRl.forget hn hget h2 a2, a3⟩
  | row tip esz => exact k
  | map es => obtain ⟨_, _, _, h2⟩ := h; obtain ⟨c, q, a1, a2⟩ := k; exact ⟨c, q, a1, MR.forget hn hget h2 a2⟩
  | dead => trivial
  | loop T ps asg body st pend => obtain ⟨_, _, _, _, _, _, _, _, h8⟩ := h; obtain ⟨rc, a1, a2, a3, a4, a5, a6, a7, a8⟩ := k; exact ⟨rc, a1, a2, a3, a4, a5, a6, a7, fun t => VR.forget hn hget (h8 t) (a8 t)⟩
  | defs => exact k
end

theorem fgCall_ok {P : Program} {G : Nat → Option (List AV)} {B0 : Nat} {w0 : World} {call : Call} (h : CallOk P G B0 w0 call) : CallOk P G B0 w0 (fgCall call) := by
  intro fr args s r s' hc w M vs hs hv
  unfold fgCall at hc
  split at hc
  · rename_i f
    split at hc
    · rename_i x s1 h1
      split at hc
      · rename_i hb
        cases hc
        rw [Bool.and_eq_true] at hb
        obtain ⟨hn, hget⟩ := subSt_get hb.2
        refine (h (.func f) args s r s1 h1 w M vs hs hv).mono ?_
        rintro e w' ⟨M', hd, k2, k3⟩
        obtain ⟨q1, q2⟩ := sim_forget hn hget hs k2 k3
        refine ⟨M', ?_, q1, q2⟩
        rcases hd with ⟨v, rfl, k1⟩ | ⟨y, v, hy, rfl, k1⟩
        · exact .inl ⟨v, rfl, VR.closed hn hget hb.1 k1⟩
        · exfalso
          have hb1 := hb.1
          unfold isPan at hy
          split at hy
          · unfold closedA at hb1; cases hb1
          · cases hy
      · cases hc
    · cases hc
  · cases hc

/-- Such a call leaves the state. -/
theorem fg_state {P : Program} {G : Nat → Option (List AV)} {call : Call} {o : Oper} {T : Tm} {s s' : St} {x : AV} {c : Go.Call} {f : Operand} (hop : o.op = .call c) (hc : c.callee = .value f) (h : evOp P G (fgCall call) o T s = some (x, s')) : s' = s := by
  have key : ∀ fr args y s1, fgCall call fr args s = some (y, s1) → s1 = s := fun fr args y s1 h => by
    unfold fgCall at h
    split at h
    · split at h
      · split at h
        · cases h; rfl
        · cases h
      · cases h
    · cases h
  simp only [evOp, hop, hc, Option.bind_eq_bind, Option.bind_eq_some_iff] at h
  obtain ⟨args, h1, cf, h2, h⟩ := h
  split at h
  · unfold callA at h
    split at h
    · cases h
    · split at h
      · exact key _ _ _ _ h
      · split at h
        · split at h
          · cases h; rfl
          · cases h
        · simp only [Option.bind_eq_bind, Option.bind_eq_some_iff] at h
          obtain ⟨_, _, _, _, h⟩ := h
          split at h
          · simp only [Option.bind_eq_some_iff, Option.pure_def, Option.some.injEq, Prod.mk.injEq] at h
            obtain ⟨_, _, _, h⟩ := h
            exact h.symm
          · cases h
  · exact key _ _ _ _ h
  · cases h
end Go.Ab
