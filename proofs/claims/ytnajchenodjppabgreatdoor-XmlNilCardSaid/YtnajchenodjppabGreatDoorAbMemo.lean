/- Calls that were run once are taken as known where they come again: same function, same arguments, same state. -/
import Derived.Test.YtnajchenodjppabGreatDoorAbRow
namespace Go.Ab
set_option linter.unusedVariables false
set_option linter.unusedSimpArgs false
set_option linter.unusedSectionVars false
set_option linter.constructorNameAsVariable false
open Go Go.RowKit

mutual
def strip : AV → AV
  | .sl cs len _ => .sl (stripL cs) len none
  | .ref cs => .ref (stripL cs)
  | .agg cs => .agg (stripL cs)
  | .tup cs => .tup (stripL cs)
  | .iface t x => .iface t (strip x)
  | x => x
def stripL : List AV → List AV
  | [] => []
  | c :: r => strip c :: stripL r
end
structure Memo where
  f : Nat
  args : List AV
  s : St
  r : AV
def mkSt (n : Nat) (l : List (Nat × AObj)) : St := { n := n, o := l.foldl (fun o x => o.set x.1 (some x.2)) .lf }
def stEq (s s' : St) : Bool := Nat.beq s.n s'.n && (List.range s.n).all fun i => oEq (s.get i) (s'.get i)
def memoOrc : List Memo → Call
  | [], _, _, _ => none
  | e :: rest, fr, args, s =>
    match fr with
    | .func g => if Nat.beq g e.f && lEq (stripL args) e.args && stEq s e.s then some (e.r, s) else memoOrc rest fr args s
    | _ => none
def frzL (g : AV → Option AV) : List AV → Option (List AV)
  | [] => some []
  | c :: r =>
    match g c, frzL g r with
    | some x, some y => if isCell c && !(isCell x) then none else some (x :: y)
    | _, _ => none
/-- A value without what is written: what the call has made of its own (from n on) is written no more. -/
def frz (s : St) (n : Nat) : Nat → AV → Option AV
  | 0, _ => none
  | k + 1, c =>
    match c with
    | .v x => some (.v x)
    | .e0 => some .e0
    | .ref cs => (frzL (frz s n k) cs).map .ref
    | .sl cs len _ => (frzL (frz s n k) cs).map (.sl · len none)
    | .agg cs => (frzL (frz s n k) cs).map .agg
    | .tup cs => (frzL (frz s n k) cs).map .tup
    | .iface t x => (frz s n k x).map (.iface t)
    | .fn (.func f) a b =>
      match frzL (frz s n k) a, frzL (frz s n k) b with
      | some a, some b => some (.fn (.func f) a b)
      | _, _ => none
    | .mg b len =>
      match s.get b with
      | some (.box cs _) => if Nat.ble n b then (frzL (frz s n k) cs).map (.sl · len none) else none
      | _ => none
    | .ms b off len =>
      match s.get b with
      | some (.box cs _) => if Nat.ble n b then (frzL (frz s n k) (cs.drop off)).map (.sl · len none) else none
      | _ => none
    | _ => none
/-- A run bears the entry out. -/
def memoRun (r : Option (AV × St)) (e : Memo) : Bool :=
  match r with
  | some (x, s') =>
    match frz s' e.s.n 1000 x with
    | some y => aEq y e.r && subSt e.s s' && closedL e.args
    | none => false
  | none => false

section
variable {w : World} {s : St} {M : Mp}
mutual
theorem VR.strip : ∀ {c : AV} {v : Value}, VR w s M c v → VR w s M (Ab.strip c) v
  | .v _, _, k => k
  | .e0, _, k => k
  | .any, _, k => k
  | .box _ _, _, k => k
  | .ms _ _ _, _, k => k
  | .mg _ _, _, k => k
  | .mp _, _, k => k
  | .fn _ _ _, _, k => k
  | .pan _, _, k => k
  | .ref cs, _, k => by
    unfold VR at k; unfold Ab.strip VR
    obtain ⟨b, off, e, k⟩ := k
    exact ⟨b, off, e, VRs.strip k⟩
  | .sl cs len tok, _, k => by
    unfold VR at k; unfold Ab.strip VR
    obtain ⟨b, off, cap, e, hl, k, _⟩ := k
    exact ⟨b, off, cap, e, hl, VRs.strip k, fun t ht => by cases ht⟩
  | .agg cs, _, k => by
    unfold VR at k; unfold Ab.strip VR
    obtain ⟨vs, e, k⟩ := k
    exact ⟨vs, e, VRl.strip k⟩
  | .tup cs, _, k => by
    unfold VR at k; unfold Ab.strip VR
    obtain ⟨vs, e, k⟩ := k
    exact ⟨vs, e, VRl.strip k⟩
  | .iface t x, _, k => by
    unfold VR at k; unfold Ab.strip VR
    obtain ⟨v, e, k⟩ := k
    exact ⟨v, e, VR.strip k⟩
theorem VRs.strip : ∀ {cs : List AV} {b off : Nat}, VRs w s M cs b off → VRs w s M (stripL cs) b off
  | [], _, _, _ => by unfold stripL VRs; trivial
  | c :: r, _, _, k => by
    unfold VRs at k; unfold stripL VRs
    obtain ⟨⟨v, k0, k1⟩, k2, k3, k4⟩ := k
    exact ⟨⟨v, k0, VR.strip k1⟩, by cases c <;> first | exact k2 | (simp [Ab.strip, isCell] at k2 ⊢), k3, VRs.strip k4⟩
theorem VRl.strip : ∀ {cs : List AV} {vs : List Value}, VRl w s M cs vs → VRl w s M (stripL cs) vs
  | [], _, k => by unfold VRl at k; unfold stripL VRl; exact k
  | c :: r, _, k => by
    unfold VRl at k; unfold stripL VRl
    obtain ⟨v, t, e, k1, k2⟩ := k
    exact ⟨v, t, e, VR.strip k1, VRl.strip k2⟩
end
end

section
variable {G : Nat → Option (List AV)} {B0 : Nat} {w0 w' : World} {s s' : St} {M' : Mp} (hn : s.n ≤ s'.n) (hget : ∀ i, i < s.n → s'.get i = s.get i) (hs : Sim G B0 w0 w' s' M')
include hn hget hs
theorem frzL_VRl {g : AV → Option AV} (hg : ∀ {c y : AV} {v : Value}, g c = some y → VR w' s' M' c v → VR w' s M' y v) : ∀ {cs ys : List AV} {vs : List Value}, frzL g cs = some ys → VRl w' s' M' cs vs → VRl w' s M' ys vs
  | [], ys, vs, h, k => by
    simp only [frzL, Option.some.injEq] at h
    subst h; unfold VRl at k ⊢; exact k
  | c :: r, ys, vs, h, k => by
    unfold frzL at h
    split at h
    · rename_i x y h1 h2
      split at h
      · cases h
      · cases h
        unfold VRl at k ⊢
        obtain ⟨v, t, e, k1, k2⟩ := k
        exact ⟨v, t, e, hg h1 k1, frzL_VRl hg h2 k2⟩
    · cases h
theorem frzL_VRs {g : AV → Option AV} (hg : ∀ {c y : AV} {v : Value}, g c = some y → VR w' s' M' c v → VR w' s M' y v) : ∀ {cs ys : List AV} {b off : Nat}, frzL g cs = some ys → VRs w' s' M' cs b off → VRs w' s M' ys b off
  | [], ys, _, _, h, k => by
    simp only [frzL, Option.some.injEq] at h
    subst h; unfold VRs; trivial
  | c :: r, ys, b, off, h, k => by
    unfold frzL at h
    split at h
    · rename_i x y h1 h2
      split at h
      · cases h
      · rename_i hc
        cases h
        unfold VRs at k ⊢
        obtain ⟨⟨v, k0, k1⟩, k2, k3, k4⟩ := k
        refine ⟨⟨v, k0, hg h1 k1⟩, ?_, Imm.forget hn hget k3, frzL_VRs hg h2 k4⟩
        rw [k2] at hc
        simpa using hc
    · cases h
/-- The cells of a block that only the call's own object stood over. -/
theorem frzL_row {g : AV → Option AV} (hg : ∀ {c y : AV} {v : Value}, g c = some y → VR w' s' M' c v → VR w' s M' y v) {b : Nat} (hb : b < s'.n) (hnb : s.n ≤ b) {cs ys : List AV} {k off : Nat} (hgb : s'.get b = some (.box cs k)) (h : frzL g (cs.drop off) = some ys) :
    VRs w' s M' ys (M'.blk b) off := by
  obtain ⟨c, e, fr, h1, h2, h3, _, _⟩ := hs.obj b _ hb hgb
  have himm : ∀ i, Imm s M' (M'.blk b) i := fun i j o hj hgj hbk => by
    have e1 := hs.inj j b o (.box cs k) (by omega) hb (by rw [hget j hj]; exact hgj) hgb
    cases o with
    | dead => trivial
    | _ => exact absurd (e1 trivial trivial hbk) (by omega)
  have key : ∀ (ds ys : List AV) (us : List Value) (off : Nat), frzL g ds = some ys → VRl w' s' M' ds us → ds.all isCell = true → (∀ j v, us[j]? = some v → w'.cell? ⟨M'.blk b, off + j, none⟩ = some v) → VRs w' s M' ys (M'.blk b) off := by
    intro ds
    induction ds with
    | nil =>
      intro ys us off h _ _ _
      simp only [frzL, Option.some.injEq] at h
      subst h; unfold VRs; trivial
    | cons d r ih =>
      intro ys us off h k hc hcell
      unfold frzL at h
      split at h
      · rename_i x y g1 g2
        split at h
        · cases h
        · rename_i hcx
          cases h
          unfold VRl at k
          obtain ⟨v, t, rfl, k1, k2⟩ := k
          simp only [List.all_cons, Bool.and_eq_true] at hc
          unfold VRs
          refine ⟨⟨v, by simpa using hcell 0 v rfl, hg g1 k1⟩, ?_, himm off, ih y t (off + 1) g2 k2 hc.2 fun j u hj => ?_⟩
          · rw [hc.1] at hcx
            simpa using hcx
          · have := hcell (j + 1) u (by simpa using hj)
            rw [show off + 1 + j = off + (j + 1) by omega]; exact this
      · cases h
  refine key (cs.drop off) ys ((c.toList.take cs.length).drop off) off h (h2.drop off) ?_ fun j v hj => ?_
  · rw [List.all_eq_true] at h3 ⊢
    exact fun x hx => h3 x (List.mem_of_mem_drop hx)
  · rw [List.getElem?_drop, List.getElem?_take] at hj
    split at hj
    · simp only [World.cell?, h1]
      simpa using hj
    · cases hj
theorem frz_VR : ∀ (k : Nat) {c y : AV} {v : Value}, frz s' s.n k c = some y → VR w' s' M' c v → VR w' s M' y v
  | 0, _, _, _, h, _ => by cases h
  | k + 1, c, y, v, h, hv => by
    have ih : ∀ {c y : AV} {v : Value}, frz s' s.n k c = some y → VR w' s' M' c v → VR w' s M' y v := frz_VR k
    unfold frz at h
    split at h
    · cases h; unfold VR at hv ⊢; exact hv
    · cases h; unfold VR at hv ⊢; exact hv
    · obtain ⟨ys, h1, rfl⟩ := Option.map_eq_some_iff.1 h
      unfold VR at hv ⊢
      obtain ⟨b, off, e, hv⟩ := hv
      exact ⟨b, off, e, frzL_VRs hn hget hs ih h1 hv⟩
    · obtain ⟨ys, h1, rfl⟩ := Option.map_eq_some_iff.1 h
      unfold VR at hv ⊢
      obtain ⟨b, off, cap, e, hl, hv, _⟩ := hv
      exact ⟨b, off, cap, e, hl, frzL_VRs hn hget hs ih h1 hv, fun t ht => by cases ht⟩
    · obtain ⟨ys, h1, rfl⟩ := Option.map_eq_some_iff.1 h
      unfold VR at hv ⊢
      obtain ⟨vs, e, hv⟩ := hv
      exact ⟨vs, e, frzL_VRl hn hget hs ih h1 hv⟩
    · obtain ⟨ys, h1, rfl⟩ := Option.map_eq_some_iff.1 h
      unfold VR at hv ⊢
      obtain ⟨vs, e, hv⟩ := hv
      exact ⟨vs, e, frzL_VRl hn hget hs ih h1 hv⟩
    · obtain ⟨ys, h1, rfl⟩ := Option.map_eq_some_iff.1 h
      unfold VR at hv ⊢
      obtain ⟨u, e, hv⟩ := hv
      exact ⟨u, e, ih h1 hv⟩
    · split at h
      · rename_i a b h1 h2
        cases h
        unfold VR at hv ⊢
        obtain ⟨f', a', b', e, k0, k1, k2⟩ := hv
        exact ⟨f', a', b', e, k0, frzL_VRl hn hget hs ih h1 k1, frzL_VRl hn hget hs ih h2 k2⟩
      · cases h
    · rename_i b len
      split at h
      · rename_i cs q hgb
        split at h
        · rename_i hb
          obtain ⟨ys, h1, rfl⟩ := Option.map_eq_some_iff.1 h
          unfold VR at hv ⊢
          obtain ⟨k0, k1, e⟩ := hv
          exact ⟨M'.blk b, 0, M'.cap b, e, k1, frzL_row hn hget hs ih k0 (Nat.le_of_ble_eq_true hb) hgb (by simpa using h1), fun t ht => by cases ht⟩
        · cases h
      · cases h
    · rename_i b off len
      split at h
      · rename_i cs q hgb
        split at h
        · rename_i hb
          obtain ⟨ys, h1, rfl⟩ := Option.map_eq_some_iff.1 h
          unfold VR at hv ⊢
          obtain ⟨k0, cap, k1, e⟩ := hv
          exact ⟨M'.blk b, off, cap, e, k1, frzL_row hn hget hs ih k0 (Nat.le_of_ble_eq_true hb) hgb h1, fun t ht => by cases ht⟩
        · cases h
      · cases h
    · cases h
end

theorem stEq_get {s s' : St} (h : stEq s s' = true) : s.n = s'.n ∧ ∀ i, i < s.n → s.get i = s'.get i := by
  unfold stEq at h
  rw [Bool.and_eq_true, List.all_eq_true] at h
  exact ⟨nbe h.1, fun i hi => oEq_eq (h.2 i (List.mem_range.2 hi))⟩
theorem ext_congr {w : World} {a b : St} {M : Mp} (hn : a.n = b.n) (hg : ∀ i, i < a.n → a.get i = b.get i) : Ext w a M w b M :=
  ⟨fun _ _ _ h hi => ⟨h, fun i o hin hgi hb => hi i o (by omega) (by rw [hg i (by omega)]; exact hgi) hb⟩, Nat.le_of_eq hn, fun _ _ => ⟨rfl, rfl⟩, fun i tip e hi h => by rw [hg i hi]; exact h⟩
theorem sim_congr {G : Nat → Option (List AV)} {B0 : Nat} {w0 w : World} {a b : St} {M : Mp} (hn : a.n = b.n) (hg : ∀ i, i < a.n → a.get i = b.get i) (h : Sim G B0 w0 w a M) : Sim G B0 w0 w b M := by
  have hE := ext_congr (w := w) (M := M) hn hg
  refine ⟨h.below, h.size, by rw [← hn]; exact h.bound, fun i hi => h.blk i (by omega), fun i j oi oj hi hj gi gj => h.inj i j oi oj (by omega) (by omega) (by rw [hg i (by omega)]; exact gi) (by rw [hg j (by omega)]; exact gj), fun i o hi hgi => ?_, fun g cs hgl => (h.glob g cs hgl).ext hE⟩
  have ho := h.obj i o (by omega) (by rw [hg i (by omega)]; exact hgi)
  cases o with
  | box cs esz => obtain ⟨c, e', fr, a1, a2, a3⟩ := ho; exact ⟨c, e', fr, a1, a2.ext hE, a3⟩
  | fz cs esz => obtain ⟨c, e', fr, a1, a2, a3⟩ := ho; exact ⟨c, e', fr, a1, a2.ext hE, a3⟩
  | row tip esz => exact ho
  | map es => obtain ⟨c, k, a1, a2⟩ := ho; exact ⟨c, k, a1, a2.ext hE⟩
  | loop T ps asg body st pend => obtain ⟨rc, a1, a2, a3, a4, a5, a6, a7, a8⟩ := ho; exact ⟨rc, a1, a2, a3, a4, a5, a6, a7, fun t => (a8 t).ext hE⟩
  | defs => exact ho
  | dead => trivial

theorem memo_ok {P : Program} {G : Nat → Option (List AV)} {B0 : Nat} {w0 : World} {call : Call} (hcall : CallOk P G B0 w0 call) : ∀ {l : List Memo}, (∀ e ∈ l, memoRun (call (.func e.f) e.args e.s) e = true) → CallOk P G B0 w0 (memoOrc l)
  | [], _ => fun fr args s r s' h => by cases h
  | e :: rest, hl => by
    intro fr args s r s' h w M vs hs hv
    unfold memoOrc at h
    split at h
    · rename_i g
      split at h
      · rename_i hc
        simp only [Bool.and_eq_true] at hc
        obtain ⟨⟨c1, c2⟩, c3⟩ := hc
        obtain rfl := nbe c1
        obtain ⟨hn, hg⟩ := stEq_get c3
        have c2 := lEq_eq c2
        cases h
        have he := hl e (by simp)
        unfold memoRun at he
        split at he
        · rename_i x s1 hx
          split at he
          · rename_i y hy
            simp only [Bool.and_eq_true] at he
            obtain ⟨⟨q1, q2⟩, q4⟩ := he
            have q1 := aEq_eq q1
            subst q1
            obtain ⟨m1, m2⟩ := subSt_get q2
            have hs2 : Sim G B0 w0 w e.s M := sim_congr hn hg hs
            have hv2 : VRl w e.s M e.args vs.toList := by
              have := hv.strip
              rw [c2] at this
              exact this.ext (ext_congr hn hg)
            refine (hcall (.func e.f) e.args e.s x s1 hx w M vs hs2 hv2).mono ?_
            rintro ed w' ⟨M', hd, k2, k3⟩
            obtain ⟨r1, r2⟩ := sim_forget m1 m2 hs2 k2 k3
            have hn' : e.s.n = s.n := hn.symm
            have hg' : ∀ i, i < e.s.n → e.s.get i = s.get i := fun i hi => (hg i (by omega)).symm
            refine ⟨M', ?_, sim_congr hn' hg' r1, (ext_congr hn hg).trans (r2.trans (ext_congr hn' hg'))⟩
            rcases hd with ⟨v, rfl, k1⟩ | ⟨y', v, hy', rfl, k1⟩
            · exact .inl ⟨v, rfl, (frz_VR m1 m2 k2 1000 hy k1).ext (ext_congr hn' hg')⟩
            · exfalso
              unfold isPan at hy'
              split at hy'
              · simp [frz] at hy
              · cases hy'
          · cases he
        · cases he
      · exact memo_ok hcall (fun e' he' => hl e' (List.mem_cons_of_mem _ he')) (.func g) args s r s' h w M vs hs hv
    · cases h
end Go.Ab
