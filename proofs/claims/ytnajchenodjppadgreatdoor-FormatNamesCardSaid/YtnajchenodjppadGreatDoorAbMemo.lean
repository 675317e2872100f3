/- Calls that were run once are taken as known where they come again: same function, same arguments, same state. -/
import Derived.Test.YtnajchenodjppadGreatDoorAbRow
namespace Go.Ab
set_option linter.unusedVariables false
set_option linter.unusedSimpArgs false
set_option linter.unusedSectionVars false
set_option linter.constructorNameAsVariable false
open Go Go.RowKit

mutual
def strip : AV → AV
  | .sl cs len _ => .sl (stripL cs) len none
  | .ref cs => .ref (stripL cs)
  | .agg cs => .agg (stripL cs)
  | .tup cs => .tup (stripL cs)
  | .iface t x => .iface t (strip x)
  | x => x
def stripL : List AV → List AV
  | [] => []
  | c :: r => strip c :: stripL r
end
structure Memo where
  f : Nat
  args : List AV
  s : St
  r : AV
def mkSt (n : Nat) (l : List (Nat × AObj)) : St := { n := n, o := l.foldl (fun o x => o.set x.1 (some x.2)) .lf }
def stEq (s s' : St) : Bool := Nat.beq s.n s'.n && (List.range s.n).all fun i => oEq (s.get i) (s'.get i)
def memoOrc : List Memo → Call
  | [], _, _, _ => none
  | e :: rest, fr, args, s =>
    match fr with
    | .func g => if Nat.beq g e.f && lEq (stripL args) e.args && stEq s e.s then some (e.r, s) else memoOrc rest fr args s
    | _ => none
/-- A run bears the entry out. -/
def memoRun (r : Option (AV × St)) (e : Memo) : Bool :=
  match r with
  | some (x, s') =>
    match frz s' e.s.n 1000 x with
    | some y => aEq y e.r && subSt e.s s' && closedL e.args
    | none => false
  | none => false

section
variable {w : World} {s : St} {M : Mp}
mutual
theorem VR.strip : ∀ {c : AV} {v : Value}, VR w s M c v → VR w s M (Ab.strip c) v
  | .v _, _, k => k
  | .e0, _, k => k
  | .any, _, k => k
  | .sy _ _, _, k => k
  | .box _ _, _, k => k
  | .ms _ _ _, _, k => k
  | .mg _ _, _, k => k
  | .mp _, _, k => k
  | .fn _ _ _, _, k => k
  | .pan _, _, k => k
  | .ref cs, _, k => by
    unfold VR at k; unfold Ab.strip VR
    obtain ⟨b, off, e, k⟩ := k
    exact ⟨b, off, e, VRs.strip k⟩
  | .sl cs len tok, _, k => by
    unfold VR at k; unfold Ab.strip VR
    obtain ⟨b, off, cap, e, hl, k, _⟩ := k
    exact ⟨b, off, cap, e, hl, VRs.strip k, fun t ht => by cases ht⟩
  | .agg cs, _, k => by
    unfold VR at k; unfold Ab.strip VR
    obtain ⟨vs, e, k⟩ := k
    exact ⟨vs, e, VRl.strip k⟩
  | .tup cs, _, k => by
    unfold VR at k; unfold Ab.strip VR
    obtain ⟨vs, e, k⟩ := k
    exact ⟨vs, e, VRl.strip k⟩
  | .iface t x, _, k => by
    unfold VR at k; unfold Ab.strip VR
    obtain ⟨v, e, k⟩ := k
    exact ⟨v, e, VR.strip k⟩
theorem VRs.strip : ∀ {cs : List AV} {b off : Nat}, VRs w s M cs b off → VRs w s M (stripL cs) b off
  | [], _, _, _ => by unfold stripL VRs; trivial
  | c :: r, _, _, k => by
    unfold VRs at k; unfold stripL VRs
    obtain ⟨⟨v, k0, k1⟩, k2, k3, k4⟩ := k
    exact ⟨⟨v, k0, VR.strip k1⟩, by cases c <;> first | exact k2 | (simp [Ab.strip, isCell] at k2 ⊢), k3, VRs.strip k4⟩
theorem VRl.strip : ∀ {cs : List AV} {vs : List Value}, VRl w s M cs vs → VRl w s M (stripL cs) vs
  | [], _, k => by unfold VRl at k; unfold stripL VRl; exact k
  | c :: r, _, k => by
    unfold VRl at k; unfold stripL VRl
    obtain ⟨v, t, e, k1, k2⟩ := k
    exact ⟨v, t, e, VR.strip k1, VRl.strip k2⟩
end
end

theorem stEq_get {s s' : St} (h : stEq s s' = true) : s.n = s'.n ∧ ∀ i, i < s.n → s.get i = s'.get i := by
  unfold stEq at h
  rw [Bool.and_eq_true, List.all_eq_true] at h
  exact ⟨nbe h.1, fun i hi => oEq_eq (h.2 i (List.mem_range.2 hi))⟩
theorem ext_congr {w : World} {a b : St} {M : Mp} (hn : a.n = b.n) (hg : ∀ i, i < a.n → a.get i = b.get i) : Ext w a M w b M :=
  ⟨fun _ _ _ h hi => ⟨h, fun i o hin hgi hb => hi i o (by omega) (by rw [hg i (by omega)]; exact hgi) hb⟩, Nat.le_of_eq hn, fun _ _ => ⟨rfl, rfl⟩, fun i tip e hi h => by rw [hg i hi]; exact h⟩
theorem sim_congr {G : Nat → Option (List AV)} {B0 : Nat} {w0 w : World} {a b : St} {M : Mp} (hn : a.n = b.n) (hg : ∀ i, i < a.n → a.get i = b.get i) (h : Sim G B0 w0 w a M) : Sim G B0 w0 w b M := by
  have hE := ext_congr (w := w) (M := M) hn hg
  refine ⟨h.below, h.size, by rw [← hn]; exact h.bound, fun i hi => h.blk i (by omega), fun i j oi oj hi hj gi gj => h.inj i j oi oj (by omega) (by omega) (by rw [hg i (by omega)]; exact gi) (by rw [hg j (by omega)]; exact gj), fun i o hi hgi => ?_, fun g cs hgl => (h.glob g cs hgl).ext hE⟩
  have ho := h.obj i o (by omega) (by rw [hg i (by omega)]; exact hgi)
  cases o with
  | box cs esz => obtain ⟨c, e', fr, a1, a2, a3⟩ := ho; exact ⟨c, e', fr, a1, a2.ext hE, a3⟩
  | fz cs esz => obtain ⟨c, e', fr, a1, a2, a3⟩ := ho; exact ⟨c, e', fr, a1, a2.ext hE, a3⟩
  | row tip esz => exact ho
  | map es => obtain ⟨c, k, a1, a2⟩ := ho; exact ⟨c, k, a1, a2.ext hE⟩
  | loop T ps asg body st pend => obtain ⟨rc, a1, a2, a3, a4, a5, a6, a7, a8⟩ := ho; exact ⟨rc, a1, a2, a3, a4, a5, a6, a7, fun t => (a8 t).ext hE⟩
  | defs => exact ho
  | dead => trivial

theorem memo_ok {P : Program} {G : Nat → Option (List AV)} {B0 : Nat} {w0 : World} {call : Call} (hcall : CallOk P G B0 w0 call) : ∀ {l : List Memo}, (∀ e ∈ l, memoRun (call (.func e.f) e.args e.s) e = true) → CallOk P G B0 w0 (memoOrc l)
  | [], _ => fun fr args s r s' h => by cases h
  | e :: rest, hl => by
    intro fr args s r s' h w M vs hs hv
    unfold memoOrc at h
    split at h
    · rename_i g
      split at h
      · rename_i hc
        simp only [Bool.and_eq_true] at hc
        obtain ⟨⟨c1, c2⟩, c3⟩ := hc
        obtain rfl := nbe c1
        obtain ⟨hn, hg⟩ := stEq_get c3
        have c2 := lEq_eq c2
        cases h
        have he := hl e (by simp)
        unfold memoRun at he
        split at he
        · rename_i x s1 hx
          split at he
          · rename_i y hy
            simp only [Bool.and_eq_true] at he
            obtain ⟨⟨q1, q2⟩, q4⟩ := he
            have q1 := aEq_eq q1
            subst q1
            obtain ⟨m1, m2⟩ := subSt_get q2
            have hs2 : Sim G B0 w0 w e.s M := sim_congr hn hg hs
            have hv2 : VRl w e.s M e.args vs.toList := by
              have := hv.strip
              rw [c2] at this
              exact this.ext (ext_congr hn hg)
            refine (hcall (.func e.f) e.args e.s x s1 hx w M vs hs2 hv2).mono ?_
            rintro ed w' ⟨M', hd, k2, k3⟩
            obtain ⟨r1, r2⟩ := sim_forget m1 m2 hs2 k2 k3
            have hn' : e.s.n = s.n := hn.symm
            have hg' : ∀ i, i < e.s.n → e.s.get i = s.get i := fun i hi => (hg i (by omega)).symm
            refine ⟨M', ?_, sim_congr hn' hg' r1, (ext_congr hn hg).trans (r2.trans (ext_congr hn' hg'))⟩
            rcases hd with ⟨v, rfl, k1⟩ | ⟨y', v, hy', rfl, k1⟩
            · exact .inl ⟨v, rfl, (frz_VR m1 m2 k2 1000 hy k1).ext (ext_congr hn' hg')⟩
            · exfalso
              unfold isPan at hy'
              split at hy'
              · simp [frz] at hy
              · cases hy'
          · cases he
        · cases he
      · exact memo_ok hcall (fun e' he' => hl e' (List.mem_cons_of_mem _ he')) (.func g) args s r s' h w M vs hs hv
    · cases h
end Go.Ab
