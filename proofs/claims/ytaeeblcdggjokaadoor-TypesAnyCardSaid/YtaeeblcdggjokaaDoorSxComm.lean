/- Two stores into different boxes commute. -/
import Derived.Test.YtaeeblcdggjokaaDoorSxDraw2
namespace Go.Ab
set_option linter.unusedVariables false
set_option linter.unusedSimpArgs false
set_option linter.unusedSectionVars false
set_option linter.constructorNameAsVariable false
open Go Go.RowKit
namespace Tr
variable {α : Type}
theorem setF_comm : ∀ (f : Nat) (s : Tr α) (t u : Nat) (x y : Option α), t + 1 < 2 ^ f → u + 1 < 2 ^ f → t ≠ u → setF f (setF f s t x) u y = setF f (setF f s u y) t x
  | 0, s, t, u, x, y, h, _, _ => by simp at h
  | f + 1, s, t, u, x, y, ht, hu, hne => by
    have hp : 2 ^ (f + 1) = 2 * 2 ^ f := by rw [Nat.pow_succ]; omega
    have n0 : ∀ {a : Nat}, a ≠ 0 → Nat.beq a 0 = false := fun h => nbf h
    have o1 : ∀ {a : Nat}, a % 2 = 1 → Nat.beq (a % 2) 1 = true := fun h => by rw [h]; rfl
    have o0 : ∀ {a : Nat}, ¬ a % 2 = 1 → Nat.beq (a % 2) 1 = false := fun h => nbf h
    have hR : ∀ (s : Tr α) (z : Option α), setF (f + 1) s 0 z = .nd s.left z s.right := fun s z => by unfold setF; rfl
    have hL : ∀ (s : Tr α) (a : Nat) (z : Option α), a ≠ 0 → a % 2 = 1 → setF (f + 1) s a z = .nd (setF f s.left (a / 2) z) s.val s.right := fun s a z h1 h2 => by
      conv => lhs; unfold setF
      rw [n0 h1, o1 h2]; rfl
    have hG : ∀ (s : Tr α) (a : Nat) (z : Option α), a ≠ 0 → ¬ a % 2 = 1 → setF (f + 1) s a z = .nd s.left s.val (setF f s.right (a / 2 - 1) z) := fun s a z h1 h2 => by
      conv => lhs; unfold setF
      rw [n0 h1, o0 h2]; rfl
    by_cases t0 : t = 0
    · subst t0
      have u0 : u ≠ 0 := fun e => hne e.symm
      by_cases u1 : u % 2 = 1
      · rw [hR, hL _ _ _ u0 u1, hL _ _ _ u0 u1, hR]; rfl
      · rw [hR, hG _ _ _ u0 u1, hG _ _ _ u0 u1, hR]; rfl
    · by_cases u0 : u = 0
      · subst u0
        by_cases t1 : t % 2 = 1
        · rw [hR, hL _ _ _ t0 t1, hL _ _ _ t0 t1, hR]; rfl
        · rw [hR, hG _ _ _ t0 t1, hG _ _ _ t0 t1, hR]; rfl
      · by_cases t1 : t % 2 = 1 <;> by_cases u1 : u % 2 = 1
        · rw [hL _ _ _ t0 t1, hL _ _ _ u0 u1, hL _ _ _ u0 u1, hL _ _ _ t0 t1]
          have e := setF_comm f s.left (t / 2) (u / 2) x y (by omega) (by omega) (by omega)
          exact congrArg (fun l => Tr.nd l s.val s.right) e
        · rw [hL _ _ _ t0 t1, hG _ _ _ u0 u1, hG _ _ _ u0 u1, hL _ _ _ t0 t1]; rfl
        · rw [hG _ _ _ t0 t1, hL _ _ _ u0 u1, hL _ _ _ u0 u1, hG _ _ _ t0 t1]; rfl
        · rw [hG _ _ _ t0 t1, hG _ _ _ u0 u1, hG _ _ _ u0 u1, hG _ _ _ t0 t1]
          have e := setF_comm f s.right (t / 2 - 1) (u / 2 - 1) x y (by omega) (by omega) (by omega)
          exact congrArg (fun r => Tr.nd s.left s.val r) e
end Tr
theorem St.put_comm {s : St} {b c : Nat} {x y : AObj} (hb : b < Tr.lid) (hc : c < Tr.lid) (hne : b ≠ c) : (s.put b x).put c y = (s.put c y).put b x := by
  unfold St.put
  simp only [St.mk.injEq, true_and]
  exact ⟨Tr.setF_comm 31 s.o b c (some x) (some y) (by unfold Tr.lid at hb; omega) (by unfold Tr.lid at hc; omega) hne, trivial⟩

section
variable [Interp] {P : Program} {G : Nat → Option (List AV)}
/-- A store's outcome hangs on its own box alone. -/
theorem store_form1 {call : Ab.Call} {o : Oper} {T : Tm} {s s' : St} {x : AV} {b : Nat} (hb : storeTo G T o = some b) (h : evOp1 P G call o T s = some (x, s')) :
    x = und ∧ ∃ obj, s' = s.put b obj ∧ ∀ s2 : St, s2.get b = s.get b → evOp1 P G call o T s2 = some (und, s2.put b obj) := by
  unfold storeTo at hb
  split at hb
  · rename_i t a y hop
    split at hb
    · rename_i b' off ha
      cases hb
      simp only [evOp1, hop, Option.bind_eq_bind, Option.bind_eq_some_iff] at h
      obtain ⟨c, h1, n, h2, q, h3, h⟩ := h
      rw [ha] at h3
      cases h3
      simp only at h
      split at h
      · rename_i cs e hg
        split at h
        · rename_i hc
          simp only [Option.some.injEq, Prod.mk.injEq] at h
          obtain ⟨rfl, rfl⟩ := h
          refine ⟨rfl, _, rfl, fun s2 h2g => ?_⟩
          simp only [evOp1, hop, Option.bind_eq_bind, h1, h2, ha, Option.bind_some, h2g, hg]
          rw [if_pos hc]
        · cases h
      · cases h
    · cases hb
  · cases hb
theorem store_form {call : Ab.Call} {o : Oper} {T : Tm} {s s' : St} {x : AV} {b : Nat} (hb : storeTo G T o = some b) (h : evOp P G call o T s = some (x, s')) :
    x = und ∧ ∃ obj, s' = s.put b obj ∧ ∀ s2 : St, s2.get b = s.get b → evOp P G call o T s2 = some (und, s2.put b obj) := by
  unfold evOp at h
  split at h
  · rename_i x1 s1 h1
    cases h
    obtain ⟨rfl, obj, rfl, k⟩ := store_form1 hb h1
    exact ⟨rfl, obj, rfl, fun s2 h2 => by unfold evOp; rw [k s2 h2]; rfl⟩
  · exfalso
    unfold storeTo at hb
    split at hb
    · rename_i hop
      unfold evSym at h
      rw [hop] at h
      cases h
    · cases hb
/-- Two stores into different boxes, in the other order. -/
theorem stores_comm {call : Ab.Call} {op oq : Oper} {Tp Tq : Tm} {sp s1 s2 : St} {x y : AV} {b c : Nat} (hbl : b < Tr.lid) (hcl : c < Tr.lid) (hp : storeTo G Tp op = some b) (hq : storeTo G Tq oq = some c) (hne : b ≠ c)
    (h1 : evOp P G call op Tp sp = some (x, s1)) (h2 : evOp P G call oq Tq s1 = some (y, s2)) :
    x = und ∧ y = und ∧ ∃ alt, evOp P G call oq Tq sp = some (und, alt) ∧ evOp P G call op Tp alt = some (und, s2) := by
  obtain ⟨rfl, p, rfl, kp⟩ := store_form hp h1
  obtain ⟨rfl, q, rfl, kq⟩ := store_form hq h2
  refine ⟨rfl, rfl, sp.put c q, kq sp ?_, ?_⟩
  · rw [St.get_put _ _ _ _ hbl, if_neg (Ne.symm hne)]
  · rw [kp (sp.put c q) (by rw [St.get_put _ _ _ _ hcl, if_neg hne]), St.put_comm hbl hcl hne]
end
end Go.Ab
