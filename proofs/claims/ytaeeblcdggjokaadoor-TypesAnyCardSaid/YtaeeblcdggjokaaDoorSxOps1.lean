/- The evaluator's operations against the model's: what is read, written and made. -/
import Derived.Test.YtaeeblcdggjokaaDoorSxBase
import Derived.Laws.IdiomCopy
import Derived.Laws.Entries
namespace Go.Ab
set_option linter.unusedVariables false
set_option linter.unusedSimpArgs false
set_option linter.unusedSectionVars false
set_option linter.constructorNameAsVariable false
open Go Go.RowKit

section
variable [Interp] {P : Program} {G : Nat → Option (List AV)} {B0 : Nat} {w0 w : World} {s : St} {M : Mp}

/-- The calls that were put off. -/
def DLr (w : World) (s : St) (M : Mp) : List (Nat × List AV × List AV) → List Deferred → Prop
  | [], dv => dv = []
  | (g, xs, ys) :: r, dv => ∃ (args cap : Array Value) (t : List Deferred), dv = { target := .fn (.func g) cap, args := args } :: t ∧ VRl w s M xs args.toList ∧ VRl w s M ys cap.toList ∧ DLr w s M r t
theorem DLr.ext {w w' : World} {s s' : St} {M M' : Mp} (e : Ext w s M w' s' M') : ∀ {l : List (Nat × List AV × List AV)} {dv : List Deferred}, DLr w s M l dv → DLr w' s' M' l dv
  | [], _, h => h
  | (_, _, _) :: _, _, ⟨args, cap, t, e1, h1, h2, h3⟩ => ⟨args, cap, t, e1, h1.ext e, h2.ext e, DLr.ext e h3⟩

structure TmR (w : World) (s : St) (M : Mp) (T : Tm) (a : Act) : Prop where
  size : a.tmps.size = T.n
  get : ∀ t, VR w s M (gt T t) (a.tmps.getD t undef)
  defers : ∃ dv, DLr w s M T.dl dv ∧ a.defers = (T.ds.map fun d => ({ target := .collected (M.blk d), args := #[] } : Deferred)) ++ dv
  dlt : ∀ d, d ∈ T.ds → d < s.n

theorem TmR.ext {w' : World} {s' : St} {M' : Mp} {T : Tm} {a : Act} (h : TmR w s M T a) (e : Ext w s M w' s' M') : TmR w' s' M' T a :=
  ⟨h.size, fun t => (h.get t).ext e, by
    obtain ⟨dv, h1, h2⟩ := h.defers
    refine ⟨dv, h1.ext e, ?_⟩
    rw [h2]
    congr 1
    exact List.map_congr_left fun d hd => by rw [(e.map d (h.dlt d hd)).1], fun d hd => Nat.lt_of_lt_of_le (h.dlt d hd) e.n⟩

theorem TmR.put {T T' : Tm} {a : Act} {d : Option Nat} {x : AV} {v : Value} (h : TmR w s M T a) (hp : putT T d x = some T') (hv : VR w s M x v) : TmR w s M T' (a.put d v) := by
  cases d with
  | none => simp only [putT, Option.some.injEq] at hp; subst hp; exact h
  | some d =>
    simp only [putT] at hp
    split at hp
    · rename_i hb
      simp only [Option.some.injEq] at hp
      rw [Bool.and_eq_true] at hb
      have h1 : d + 1 ≤ T.n := Nat.le_of_ble_eq_true hb.1
      have h2 : T.n ≤ Tr.lid := Nat.le_of_ble_eq_true hb.2
      subst hp
      refine ⟨by simp only [Act.put, Array.size_setIfInBounds]; exact h.size, fun t => ?_, h.defers, h.dlt⟩
      have hs := h.size
      have e1 : gt { T with t := T.t.set d (some x) } t = if t = d then x else gt T t := by
        simp only [gt]
        rw [Tr.get_set _ _ _ _ (by omega)]
        by_cases e : t = d
        · rw [if_pos e, if_pos e]; rfl
        · rw [if_neg e, if_neg e]
      rw [e1]
      by_cases e : t = d
      · subst e
        rw [if_pos rfl]
        have : (a.put (some t) v).tmps.getD t undef = v := by
          simp only [Act.put, Array.getD_eq_getD_getElem?, Array.getElem?_setIfInBounds_self]
          rw [if_pos (by omega)]; rfl
        rw [this]; exact hv
      · rw [if_neg e]
        have : (a.put (some d) v).tmps.getD t undef = a.tmps.getD t undef := by
          simp only [Act.put, Array.getD_eq_getD_getElem?]
          rw [Array.getElem?_setIfInBounds_ne (Ne.symm e)]
        rw [this]; exact h.get t
    · cases hp

/-! ### Plain values -/
theorem sc_some {x : Value} {c : AV} (h : sc x = some c) : c = .v x ∧ scalar x = true := by
  unfold sc at h
  split at h
  · rename_i hx; cases h; exact ⟨rfl, hx⟩
  · cases h
theorem VR_sc {x : Value} {c : AV} (h : sc x = some c) : VR w s M c x := by
  obtain ⟨rfl, hx⟩ := sc_some h; exact VR_v_of hx
theorem VRl_scAll : ∀ {xs : List Value} {cs : List AV}, scAll xs = some cs → VRl w s M cs xs
  | [], cs, h => by simp only [scAll, Option.some.injEq] at h; subst h; exact VRl_nil
  | x :: r, cs, h => by
    simp only [scAll, Option.bind_eq_bind, Option.bind_eq_some_iff, Option.pure_def, Option.some.injEq] at h
    obtain ⟨a, h1, b, h2, rfl⟩ := h
    exact VRl_cons (VR_sc h1) (VRl_scAll h2)
theorem scAll_cells : ∀ {xs : List Value} {cs : List AV}, scAll xs = some cs → cs.all isCell = true
  | [], cs, h => by simp only [scAll, Option.some.injEq] at h; subst h; rfl
  | x :: r, cs, h => by
    simp only [scAll, Option.bind_eq_bind, Option.bind_eq_some_iff, Option.pure_def, Option.some.injEq] at h
    obtain ⟨a, h1, b, h2, rfl⟩ := h
    obtain ⟨rfl, _⟩ := sc_some h1
    simp only [List.all_cons, scAll_cells h2, Bool.and_true]; rfl
theorem VR_agg {cs : List AV} {l : List Value} (h : VRl w s M cs l) : VR w s M (.agg cs) (.agg l.toArray) := by
  unfold VR; exact ⟨_, rfl, by simpa using h⟩
theorem VR_tup {cs : List AV} {l : List Value} (h : VRl w s M cs l) : VR w s M (.tup cs) (.tuple l.toArray) := by
  unfold VR; exact ⟨_, rfl, by simpa using h⟩
theorem VR_ofValue {x : Value} {c : AV} (h : ofValue x = some c) : VR w s M c x := by
  unfold ofValue at h
  split at h
  · rename_i cs
    rw [Option.map_eq_some_iff] at h
    obtain ⟨l, hl, rfl⟩ := h
    have := VR_agg (w := w) (s := s) (M := M) (VRl_scAll (w := w) (s := s) (M := M) hl)
    simpa using this
  · split at h
    · rename_i vs hv
      cases h
      have : vs = #[] := Array.eq_empty_of_size_eq_zero (nbe hv)
      subst this; exact VR_und
    · cases h
  · exact VR_sc h
theorem VR_outValue {x : Value} {c : AV} (h : outValue x = some c) : VR w s M c x := by
  unfold outValue at h
  split at h
  · rw [Option.map_eq_some_iff] at h
    obtain ⟨l, hl, rfl⟩ := h
    have := VR_agg (w := w) (s := s) (M := M) (VRl_scAll (w := w) (s := s) (M := M) hl)
    simpa using this
  · rw [Option.map_eq_some_iff] at h
    obtain ⟨l, hl, rfl⟩ := h
    have := VR_tup (w := w) (s := s) (M := M) (VRl_scAll (w := w) (s := s) (M := M) hl)
    simpa using this
  · exact VR_sc h
theorem unSc_some {c : AV} {x v : Value} (h : unSc c = some x) (k : VR w s M c v) : v = x := by
  cases c <;> simp only [unSc, Option.some.injEq, reduceCtorEq] at h
  subst h; exact (VR_v.1 k).1
theorem unAll_some : ∀ {cs : List AV} {xs vs : List Value}, unAll cs = some xs → VRl w s M cs vs → vs = xs
  | [], xs, vs, h, k => by simp only [unAll, Option.some.injEq] at h; unfold VRl at k; rw [k, ← h]
  | c :: r, xs, vs, h, k => by
    simp only [unAll, Option.bind_eq_bind, Option.bind_eq_some_iff, Option.pure_def, Option.some.injEq] at h
    obtain ⟨a, h1, b, h2, rfl⟩ := h
    unfold VRl at k; obtain ⟨v, t, rfl, k1, k2⟩ := k
    rw [unSc_some h1 k1, unAll_some h2 k2]
theorem toValue_some : ∀ {c : AV} {x v : Value}, toValue c = some x → VR w s M c v → v = x
  | .v _, x, v, h, k => by
    simp only [toValue, Option.some.injEq] at h
    subst h; exact (VR_v.1 k).1
  | .agg cs, x, v, h, k => by
    simp only [toValue, Option.map_eq_some_iff] at h
    obtain ⟨l, hl, rfl⟩ := h; unfold VR at k; obtain ⟨vs, rfl, k⟩ := k; rw [← unAll_some hl k]
  | .tup cs, x, v, h, k => by
    simp only [toValue, Option.map_eq_some_iff] at h
    obtain ⟨l, hl, rfl⟩ := h; unfold VR at k; obtain ⟨vs, rfl, k⟩ := k; rw [← unAll_some hl k]
  | .iface t y, x, v, h, k => by
    simp only [toValue, Option.map_eq_some_iff] at h
    obtain ⟨l, hl, rfl⟩ := h; unfold VR at k; obtain ⟨u, rfl, k⟩ := k; rw [toValue_some hl k]
  | .ref _, x, v, h, _ | .box _ _, x, v, h, _ | .sl _ _ _, x, v, h, _ | .ms _ _ _, x, v, h, _ | .mg _ _, x, v, h, _ | .e0, x, v, h, _ | .mp _, x, v, h, _ | .fn _ _ _, x, v, h, _ | .pan _, x, v, h, _ => by simp [toValue] at h

theorem opd_sound (hs : Sim G B0 w0 w s M) {T : Tm} {a : Act} (hT : TmR w s M T a) {x : Operand} {c : AV} (h : opd G T x = some c) : VR w s M c (a.eval x) := by
  cases x with
  | tmp t => simp only [opd, Option.some.injEq] at h; subst h; exact hT.get t
  | const x => exact VR_ofValue h
  | global g =>
    simp only [opd, Option.map_eq_some_iff] at h
    obtain ⟨cs, hg, rfl⟩ := h
    unfold VR; exact ⟨g, 0, rfl, hs.glob g cs hg⟩
  | func f =>
    simp only [opd, Option.some.injEq] at h; subst h
    unfold VR; exact ⟨_, #[], #[], rfl, rfl, VRl_nil, VRl_nil⟩
theorem opds_sound (hs : Sim G B0 w0 w s M) {T : Tm} {a : Act} (hT : TmR w s M T a) : ∀ {xs : List Operand} {cs : List AV}, opds G T xs = some cs → VRl w s M cs (xs.map a.eval)
  | [], cs, h => by simp only [opds, Option.some.injEq] at h; subst h; exact VRl_nil
  | x :: r, cs, h => by
    simp only [opds, Option.bind_eq_bind, Option.bind_eq_some_iff, Option.pure_def, Option.some.injEq] at h
    obtain ⟨c, h1, d, h2, rfl⟩ := h
    exact VRl_cons (opd_sound hs hT h1) (opds_sound hs hT h2)

theorem tyV_scalar {t : Ty} {v : Value} (h : tyV t v = true) : (∃ k i, v = .int k i) ∨ (∃ b, v = .bool b) ∨ ∃ s, v = .string s := by
  unfold tyV at h
  split at h
  · exact .inl ⟨_, _, rfl⟩
  · exact .inr (.inl ⟨_, rfl⟩)
  · exact .inr (.inr ⟨_, rfl⟩)
  · cases h
theorem VR_d {t : Nat} {e : E} {tok : Option Nat} {v : Value} (k : VR w s M (.d t e tok) v) : (e.den M.env = .lst [] ∧ ∃ a cap, v = .slice a 0 cap) ∨ ∃ rows b off cap, e.den M.env = .lst rows ∧ v = .slice (some ⟨b, off, none⟩) rows.length cap ∧ rows.length ≤ cap ∧
    DVr (fun b off => w.cell? ⟨b, off, none⟩) (Imm s M) rows b off ∧ fitsR s.k.shape rows t := by
  unfold VR at k
  obtain ⟨k, f, _⟩ := k
  generalize e.den M.env = d at k f
  cases d with
  | v x => unfold fits at f; exact f.elim
  | nil => unfold DV at k; exact k.elim
  | lst rows =>
    unfold DV at k; unfold fits at f
    rcases k with ⟨rfl, k⟩ | ⟨b, off, cap, e, hl, k⟩
    · exact .inl ⟨rfl, k⟩
    · exact .inr ⟨rows, b, off, cap, rfl, e, hl, k, f⟩
  | row _ => unfold DV at k; exact k.elim
theorem not_agg_of_cell {c : AV} {v : Value} (hc : isCell c = true) (k : VR w s M c v) : v.oneCell' = true := by
  cases c with
  | v x => obtain ⟨rfl, h⟩ := VR_v.1 k; cases v <;> first | rfl | (simp [scalar] at h)
  | agg _ => cases hc
  | tup _ => cases hc
  | ref _ => unfold VR at k; obtain ⟨b, off, rfl, _⟩ := k; rfl
  | box _ _ => unfold VR at k; obtain ⟨_, rfl⟩ := k; rfl
  | sl _ _ _ => unfold VR at k; obtain ⟨b, off, cap, rfl, _⟩ := k; rfl
  | ms _ _ _ => unfold VR at k; obtain ⟨_, cap, _, rfl⟩ := k; rfl
  | mg _ _ => unfold VR at k; obtain ⟨_, _, rfl⟩ := k; rfl
  | iface _ _ => unfold VR at k; obtain ⟨_, rfl, _⟩ := k; rfl
  | pan _ => cases hc
  | any => cases hc
  | sy x _ => unfold VR at k; obtain ⟨rfl, h, _⟩ := k; cases v <;> first | rfl | (simp [scalar] at h)
  | x t e => unfold VR at k; rcases tyV_scalar k.2 with ⟨_, _, rfl⟩ | ⟨_, rfl⟩ | ⟨_, rfl⟩ <;> rfl
  | d t e tok => rcases VR_d k with ⟨_, _, _, rfl⟩ | ⟨_, _, _, _, _, rfl, _⟩ <;> rfl
  | so _ _ _ _ => unfold VR at k; obtain ⟨_, _, _, _, _, _, rfl, _⟩ := k; rfl
  | po _ _ => unfold VR at k; obtain ⟨_, _, _, rfl⟩ := k; rfl
  | rd t e o => unfold VR at k; obtain ⟨b, off, cs, rfl, _⟩ := k; rfl
  | e0 => unfold VR at k; obtain ⟨b, off, rfl⟩ := k; rfl
  | mp _ => unfold VR at k; obtain ⟨_, rfl⟩ := k; rfl
  | fn _ _ _ => unfold VR at k; obtain ⟨f', a', b', rfl, _⟩ := k; rfl
theorem oneCell_all : ∀ {cs : List AV} {vs : List Value}, cs.all isCell = true → VRl w s M cs vs → ∀ v ∈ vs, v.oneCell' = true
  | [], _, _, k => by unfold VRl at k; subst k; intro v hv; cases hv
  | c :: r, vs, h, k => by
    unfold VRl at k; obtain ⟨v, t, rfl, k1, k2⟩ := k
    simp only [List.all_cons, Bool.and_eq_true] at h
    intro x hx
    cases hx with
    | head => exact not_agg_of_cell h.1 k1
    | tail _ hx => exact oneCell_all h.2 k2 x hx
theorem VR_cellsOf {c : AV} {v : Value} (hc : (cellsOf c).all isCell = true) (k : VR w s M c v) : VRl w s M (cellsOf c) v.cells.toList := by
  cases c with
  | agg cs => unfold VR at k; obtain ⟨vs, rfl, k⟩ := k; exact k
  | v x =>
    obtain ⟨rfl, h⟩ := VR_v.1 k
    have : v.cells = #[v] := by cases v <;> first | rfl | (simp [scalar] at h)
    rw [this]; exact VRl_cons k VRl_nil
  | tup _ => have k' := k; unfold VR at k; obtain ⟨vs, rfl, _⟩ := k; exact VRl_cons k' VRl_nil
  | ref _ => have k' := k; unfold VR at k; obtain ⟨b, off, rfl, _⟩ := k; exact VRl_cons k' VRl_nil
  | box _ _ => have k' := k; unfold VR at k; obtain ⟨_, rfl⟩ := k; exact VRl_cons k' VRl_nil
  | sl _ _ _ => have k' := k; unfold VR at k; obtain ⟨b, off, cap, rfl, _⟩ := k; exact VRl_cons k' VRl_nil
  | ms _ _ _ => have k' := k; unfold VR at k; obtain ⟨_, cap, _, rfl⟩ := k; exact VRl_cons k' VRl_nil
  | mg _ _ => have k' := k; unfold VR at k; obtain ⟨_, _, rfl⟩ := k; exact VRl_cons k' VRl_nil
  | iface _ _ => have k' := k; unfold VR at k; obtain ⟨_, rfl, _⟩ := k; exact VRl_cons k' VRl_nil
  | pan _ => unfold VR at k; exact k.elim
  | any => simp [cellsOf, isCell] at hc
  | sy x _ =>
    have k' := k
    unfold VR at k; obtain ⟨rfl, h, _⟩ := k
    have : v.cells = #[v] := by cases v <;> first | rfl | (simp [scalar] at h)
    rw [this]; exact VRl_cons k' VRl_nil
  | e0 => have k' := k; unfold VR at k; obtain ⟨b, off, rfl⟩ := k; exact VRl_cons k' VRl_nil
  | x t e =>
    have k' := k
    unfold VR at k
    have : v.cells = #[v] := by rcases tyV_scalar k.2 with ⟨_, _, rfl⟩ | ⟨_, rfl⟩ | ⟨_, rfl⟩ <;> rfl
    rw [this]; exact VRl_cons k' VRl_nil
  | so _ _ _ _ => have k' := k; unfold VR at k; obtain ⟨_, _, _, _, _, _, rfl, _⟩ := k; exact VRl_cons k' VRl_nil
  | po _ _ => have k' := k; unfold VR at k; obtain ⟨_, _, _, rfl⟩ := k; exact VRl_cons k' VRl_nil
  | d t e tok =>
    have : v.cells = #[v] := by rcases VR_d k with ⟨_, _, _, rfl⟩ | ⟨_, _, _, _, _, rfl, _⟩ <;> rfl
    rw [this]; exact VRl_cons k VRl_nil
  | rd t e o => have k' := k; unfold VR at k; obtain ⟨b, off, cs, rfl, _⟩ := k; exact VRl_cons k' VRl_nil
  | mp _ => have k' := k; unfold VR at k; obtain ⟨_, rfl⟩ := k; exact VRl_cons k' VRl_nil
  | fn _ _ _ => have k' := k; unfold VR at k; obtain ⟨f', a', b', rfl, _⟩ := k; exact VRl_cons k' VRl_nil

/-! ### Types -/
theorem run_isAgg {t : TypeId} {b : Bool} (h : isAggT P t = some b) : (isAgg t).run P w = .ok b w := by
  unfold isAggT at h
  cases hu : P.underlying t with
  | none => rw [hu] at h; cases h
  | some d =>
    rw [hu] at h
    unfold isAgg
    simp only [Sem.run_bind, run_underlying hu, Result.andThen_ok]
    cases d <;> simp_all
theorem run_typeInfo {t : TypeId} {i : TypeInfo} (h : P.info? t = some i) : (typeInfo t).run P w = .ok i w := by
  simp [typeInfo, h]
theorem run_sizeOf {t : TypeId} {n : Nat} (h : sizeT P t = some n) : (sizeOf t).run P w = .ok n w := by
  unfold sizeT at h
  rw [Option.map_eq_some_iff] at h
  obtain ⟨i, hi, rfl⟩ := h
  simp [sizeOf, run_typeInfo hi]
theorem run_zeroValue {t : TypeId} {z : Value} (h : zeroT P t = some z) : (zeroValue t).run P w = .ok z w := by
  unfold zeroT at h
  rw [Option.bind_eq_some_iff] at h
  obtain ⟨i, hi, hz⟩ := h
  simp [zeroValue, run_typeInfo hi, hz]
theorem zeroCells_some {t : TypeId} {cs : List AV} (h : zeroCellsT P t = some cs) : ∃ z, zeroT P t = some z ∧ scAll z.cells.toList = some cs := by
  unfold zeroCellsT at h
  rw [Option.bind_eq_some_iff] at h
  exact h

/-! ### Reading -/
theorem add_eq (b o i : Nat) : (⟨b, o, none⟩ : Addr).add i = ⟨b, o + i, none⟩ := by unfold Addr.add; split <;> simp_all

/-- Cells that stand in a row. -/
def At (w : World) (b off : Nat) (vs : List Value) : Prop := ∀ j v, vs[j]? = some v → w.cell? ⟨b, off + j, none⟩ = some v
theorem At.take {b off : Nat} {vs : List Value} (h : At w b off vs) (n : Nat) : At w b off (vs.take n) := fun j v hj => by
  rw [List.getElem?_take] at hj
  split at hj
  · exact h j v hj
  · cases hj
theorem At.drop {b off : Nat} {vs : List Value} (h : At w b off vs) (n : Nat) : At w b (off + n) (vs.drop n) := fun j v hj => by
  rw [List.getElem?_drop] at hj
  have := h (n + j) v hj
  rw [show off + n + j = off + (n + j) by omega]; exact this
theorem VRs.vals : ∀ {cs : List AV} {b off : Nat}, VRs w s M cs b off → ∃ vs, VRl w s M cs vs ∧ At w b off vs
  | [], _, _, _ => ⟨[], VRl_nil, fun j v h => by simp at h⟩
  | c :: r, b, off, k => by
    unfold VRs at k
    obtain ⟨⟨v, hv, k1⟩, _, _, k4⟩ := k
    obtain ⟨vs, h1, h2⟩ := k4.vals
    refine ⟨v :: vs, VRl_cons k1 h1, fun j x hj => ?_⟩
    cases j with
    | zero => simp at hj; subst hj; exact hv
    | succ j => have := h2 j x (by simpa using hj); rw [show off + (j + 1) = off + 1 + j by omega]; exact this
theorem at_block {b : Nat} {c : Array Value} {e : TypeId} {fr : Nat × Nat} (h : w.heap[b]? = some (.cells c e fr)) : At w b 0 c.toList := fun j v hj => by
  simp only [World.cell?, h]
  simpa using hj
theorem run_loadCells {b off : Nat} {vs : List Value} (h : At w b off vs) : (loadCells ⟨b, off, none⟩ vs.length).run P w = .ok vs.toArray w :=
  run_loadCells_list w _ vs fun j v hj => by rw [add_eq]; exact h j v hj
theorem run_loadVar {t : TypeId} {cs : List AV} {x : AV} {b off : Nat} {vs : List Value} (hl : VRl w s M cs vs) (ha : At w b off vs) (h : takeT P t cs = some x) :
    ∃ v, (loadVar t ⟨b, off, none⟩).run P w = .ok v w ∧ VR w s M x v := by
  simp only [takeT, Option.bind_eq_bind, Option.bind_eq_some_iff] at h
  obtain ⟨g, hg, h⟩ := h
  unfold loadVar
  simp only [Sem.run_bind, run_isAgg hg, Result.andThen_ok]
  cases g with
  | true =>
    simp only [if_true, Option.bind_eq_some_iff] at h
    obtain ⟨n, hn, h⟩ := h
    split at h
    · rename_i hle
      cases h
      have hle := Nat.le_of_ble_eq_true hle
      have hlen : (vs.take n).length = n := by rw [List.length_take, ← hl.length]; omega
      have hr := run_loadCells (P := P) (ha.take n)
      rw [hlen] at hr
      refine ⟨.agg (vs.take n).toArray, ?_, VR_agg (hl.take n)⟩
      simp [run_sizeOf hn, hr]
    · cases h
  | false =>
    simp only [Bool.false_eq_true, if_false] at h
    rcases hl.get 0 with ⟨h1, _⟩ | ⟨c, v, h1, h2, h3⟩
    · rw [List.head?_eq_getElem?, h1] at h; cases h
    · rw [List.head?_eq_getElem?, h1] at h; cases h
      have := ha 0 v h2
      refine ⟨v, ?_, h3⟩
      simp only [Nat.add_zero] at this
      simp [this]
theorem run_part {t : TypeId} {cs : List AV} {x : AV} {off : Nat} {vs : Array Value} (hl : VRl w s M cs vs.toList) (h : partT P t cs off = some x) :
    ∃ v, (part t vs off).run P w = .ok v w ∧ VR w s M x v := by
  simp only [partT, Option.bind_eq_bind, Option.bind_eq_some_iff] at h
  obtain ⟨g, hg, h⟩ := h
  unfold part
  simp only [Sem.run_bind, run_isAgg hg, Result.andThen_ok]
  cases g with
  | true =>
    simp only [if_true, Option.bind_eq_some_iff] at h
    obtain ⟨n, hn, h⟩ := h
    split at h
    · cases h
      refine ⟨.agg (vs.extract off (off + n)), by simp [run_sizeOf hn], ?_⟩
      have := VR_agg ((hl.drop off).take n)
      have e : vs.extract off (off + n) = ((vs.toList.drop off).take n).toArray := by
        apply Array.toList_inj.1
        rw [Array.toList_extract, List.extract_eq_take_drop]
        congr 1
        omega
      rw [e]; exact this
    · cases h
  | false =>
    simp only [Bool.false_eq_true, if_false] at h
    rcases hl.get off with ⟨h1, _⟩ | ⟨c, v, h1, h2, h3⟩
    · rw [h1] at h; cases h
    · rw [h1] at h; cases h
      refine ⟨v, ?_, h3⟩
      rw [Array.getElem?_toList] at h2
      simp [h2]
end
end Go.Ab
