/- The evaluator's operations against the model's: what is written, of symbols. -/
import Derived.Test.YtaeeblcdggjokaaDoorSxOps10
namespace Go.Ab
set_option linter.unusedVariables false
set_option linter.unusedSimpArgs false
set_option linter.unusedSectionVars false
set_option linter.constructorNameAsVariable false
open Go Go.RowKit

/-! ### Rows as lists of cells -/
def flat (rows : List D) : List D := rows.flatMap D.cells
section
variable {C C' : Nat → Nat → Option Value} {I I' : Nat → Nat → Prop}
def DVl (C : Nat → Nat → Option Value) (I : Nat → Nat → Prop) : List D → List Value → Prop
  | [], vs => vs = []
  | d :: r, vs => ∃ v t, vs = v :: t ∧ DV C I d v ∧ DVl C I r t
theorem DVl.mono (h : ∀ b off v, C b off = some v → I b off → C' b off = some v ∧ I' b off) : ∀ {ds : List D} {vs : List Value}, DVl C I ds vs → DVl C' I' ds vs
  | [], _, k => k
  | _ :: _, _, ⟨v, t, e, k1, k2⟩ => ⟨v, t, e, k1.mono h, DVl.mono h k2⟩
theorem DVl.append : ∀ {ds es : List D} {vs us : List Value}, DVl C I ds vs → DVl C I es us → DVl C I (ds ++ es) (vs ++ us)
  | [], _, _, _, k, k' => by
    obtain rfl : _ = [] := k
    exact k'
  | _ :: _, _, _, _, ⟨v, t, rfl, k1, k2⟩, k' => ⟨v, t ++ _, rfl, k1, DVl.append k2 k'⟩
theorem DVl.length : ∀ {ds : List D} {vs : List Value}, DVl C I ds vs → vs.length = ds.length
  | [], _, k => by
    obtain rfl : _ = [] := k
    rfl
  | _ :: _, _, ⟨v, t, rfl, k1, k2⟩ => by rw [List.length_cons, List.length_cons, DVl.length k2]
theorem DVs_vals : ∀ {cs : List D} {b off : Nat}, DVs C I cs b off → ∃ vs, DVl C I cs vs ∧ ∀ (j : Nat) (v : Value), vs[j]? = some v → C b (off + j) = some v
  | [], _, _, _ => ⟨[], rfl, fun j v h => by simp at h⟩
  | d :: r, b, off, k => by
    unfold DVs at k
    obtain ⟨⟨v, k0, k1⟩, _, k3⟩ := k
    obtain ⟨vs, g1, g2⟩ := DVs_vals k3
    refine ⟨v :: vs, ⟨v, vs, rfl, k1, g1⟩, fun j u hj => ?_⟩
    cases j with
    | zero => simp only [List.getElem?_cons_zero, Option.some.injEq] at hj; subst hj; exact k0
    | succ j =>
      have := g2 j u (by simpa using hj)
      rw [show off + (j + 1) = off + 1 + j by omega]; exact this
theorem DVs_of : ∀ {cs : List D} {vs : List Value} {b off : Nat}, DVl C I cs vs → (∀ (j : Nat) (v : Value), vs[j]? = some v → C b (off + j) = some v ∧ I b (off + j)) → DVs C I cs b off
  | [], _, _, _, _, _ => by unfold DVs; trivial
  | d :: r, vs, b, off, ⟨v, t, e, k1, k2⟩, h => by
    subst e
    unfold DVs
    have h0 := h 0 v rfl
    refine ⟨⟨v, h0.1, k1⟩, h0.2, DVs_of k2 fun j u hj => ?_⟩
    have := h (j + 1) u (by simpa using hj)
    rw [show off + 1 + j = off + (j + 1) by omega]; exact this
theorem DVr_vals : ∀ {rows : List D} {b off : Nat}, DVr C I rows b off → ∃ vs, DVl C I (flat rows) vs ∧ ∀ (j : Nat) (v : Value), vs[j]? = some v → C b (off + j) = some v
  | [], _, _, _ => ⟨[], rfl, fun j v h => by simp at h⟩
  | d :: r, b, off, k => by
    unfold DVr at k
    cases d with
    | row cs =>
      obtain ⟨k1, k2⟩ := k
      unfold DVw at k1
      obtain ⟨us, g1, g2⟩ := DVs_vals k1
      obtain ⟨vs, g3, g4⟩ := DVr_vals k2
      have hl := g1.length
      refine ⟨us ++ vs, g1.append g3, fun j u hj => ?_⟩
      rw [List.getElem?_append] at hj
      split at hj
      · exact g2 j u hj
      · rename_i hge
        have := g4 _ u hj
        simp only [D.cells] at this
        rw [show off + cs.length + (j - us.length) = off + j by omega] at this; exact this
    | v _ => unfold DVw at k; exact k.1.elim
    | nil => unfold DVw at k; exact k.1.elim
    | lst _ => unfold DVw at k; exact k.1.elim
theorem DVr_of : ∀ {rows : List D} {vs : List Value} {b off : Nat}, (∀ d, d ∈ rows → ∃ cs, d = .row cs) → DVl C I (flat rows) vs → (∀ (j : Nat) (v : Value), vs[j]? = some v → C b (off + j) = some v ∧ I b (off + j)) → DVr C I rows b off
  | [], _, _, _, _, _, _ => by unfold DVr; trivial
  | d :: r, vs, b, off, hr, k, h => by
    obtain ⟨cs, rfl⟩ := hr d (List.mem_cons_self ..)
    have hsplit : ∀ {as bs : List D} {vs : List Value}, DVl C I (as ++ bs) vs → ∃ xs ys, vs = xs ++ ys ∧ DVl C I as xs ∧ DVl C I bs ys := by
      intro as
      induction as with
      | nil => intro bs vs k; exact ⟨[], vs, rfl, rfl, k⟩
      | cons a as ih =>
        rintro bs vs ⟨v, t, rfl, k1, k2⟩
        obtain ⟨xs, ys, rfl, g1, g2⟩ := ih k2
        exact ⟨v :: xs, ys, rfl, ⟨v, xs, rfl, k1, g1⟩, g2⟩
    obtain ⟨xs, ys, rfl, g1, g2⟩ := hsplit (as := cs) (bs := flat r) k
    have hl := g1.length
    unfold DVr
    refine ⟨by unfold DVw; exact DVs_of g1 fun j v hj => h j v (by rw [List.getElem?_append_left (List.getElem?_eq_some_iff.1 hj).1]; exact hj), ?_⟩
    refine DVr_of (fun d hd => hr d (List.mem_cons_of_mem _ hd)) g2 fun j v hj => ?_
    have := h (xs.length + j) v (by rw [List.getElem?_append_right (Nat.le_add_right _ _)]; simpa using hj)
    simp only [D.cells]
    rw [show off + cs.length + j = off + (xs.length + j) by omega]; exact this
end
section
variable [Interp] {tb : Nat → List CT}
theorem fitsR_row {t : Nat} : ∀ {rows : List D}, fitsR tb rows t → ∀ d, d ∈ rows → ∃ cs, d = .row cs ∧ fitsC tb cs (tb t)
  | [], _, d, h => by cases h
  | x :: r, k, d, h => by
    unfold fitsR at k
    rcases List.mem_cons.1 h with rfl | h
    · cases d with
      | row cs => have := k.1; unfold fitsW at this; exact ⟨cs, rfl, this⟩
      | v _ => have := k.1; unfold fitsW at this; exact this.elim
      | nil => have := k.1; unfold fitsW at this; exact this.elim
      | lst _ => have := k.1; unfold fitsW at this; exact this.elim
    · exact fitsR_row k.2 d h
theorem fitsR_append {t : Nat} : ∀ {rows us : List D}, fitsR tb rows t → fitsR tb us t → fitsR tb (rows ++ us) t
  | [], _, _, k => k
  | _ :: _, _, h, k => by
    unfold fitsR at h
    rw [List.cons_append]
    unfold fitsR
    exact ⟨h.1, fitsR_append h.2 k⟩
theorem flat_length {t : Nat} : ∀ {rows : List D}, fitsR tb rows t → (flat rows).length = rows.length * (tb t).length
  | [], _ => by simp [flat]
  | d :: r, k => by
    obtain ⟨cs, rfl, hc⟩ := fitsR_row k d (List.mem_cons_self ..)
    unfold fitsR at k
    have := flat_length k.2
    show (cs ++ flat r).length = _
    rw [List.length_append, this, (fitsC_get hc).1, List.length_cons, Nat.add_mul]; omega
theorem flat_append (a b : List D) : flat (a ++ b) = flat a ++ flat b := by simp [flat]
end

section
variable [Interp] {P : Program} {G : Nat → Option (List AV)} {B0 : Nat} {w0 w : World} {s : St} {M : Mp}

/-! ### Values as expressions -/
theorem tyV_ok {t : Ty} {v : Value} (h : tyV t v = true) : okScalar v := by
  rcases tyV_scalar h with ⟨_, _, rfl⟩ | ⟨_, rfl⟩ | ⟨_, rfl⟩ <;> trivial
theorem VRs_take_get {cs : List AV} {b off : Nat} (h : VRs w s M cs b off) : ∀ i c, cs[i]? = some c → ∃ v, w.cell? ⟨b, off + i, none⟩ = some v ∧ VR w s M c v ∧ isCell c = true ∧ Imm s M b (off + i) := fun i c hi => VRs.get h i c hi
mutual
theorem cellX_sound : ∀ (n : Nat) {c : CT} {a : AV} {e : E} {v : Value}, cellX s.k n c a = some e → VR w s M a v → DV (fun b off => w.cell? ⟨b, off, none⟩) (Imm s M) (e.den M.env) v ∧ fits s.k.shape (e.den M.env) c
  | 0, _, _, _, _, h, _ => by unfold cellX at h; cases h
  | n + 1, c, a, e, v, h, hv => by
    unfold cellX at h
    split at h
    · rename_i t t' e' tok
      split at h
      · rename_i ht
        cases h
        subst ht
        unfold VR at hv
        exact ⟨hv.1, hv.2.1⟩
      · cases h
    · cases h
      obtain ⟨rfl, _⟩ := VR_v.1 hv
      simp only [E.den, E.denL, Prim.den]
      unfold DV fits fitsR
      exact ⟨.inl ⟨rfl, _, _, rfl⟩, trivial⟩
    · cases h
      unfold VR at hv
      obtain ⟨b, off, rfl⟩ := hv
      simp only [E.den, E.denL, Prim.den]
      unfold DV fits fitsR
      exact ⟨.inr ⟨b, off, 0, rfl, Nat.le_refl _, by unfold DVr; trivial⟩, trivial⟩
    · rename_i t cs len tok
      obtain ⟨l, hl, rfl⟩ := Option.map_eq_some_iff.1 h
      unfold VR at hv
      obtain ⟨b, off, cap, rfl, hle, hv, _⟩ := hv
      obtain ⟨k1, k2, k3⟩ := rowsX_sound n hl hv
      simp only [E.den, Prim.den]
      unfold DV fits
      exact ⟨.inr ⟨b, off, cap, by rw [k3], by rw [k3]; exact hle, k1⟩, k2⟩
    · rename_i t a'
      split at h
      · rename_i t' e' he
        split at h
        · rename_i ht
          cases h
          subst ht
          obtain ⟨d1, t1⟩ := toE_sound he hv
          rw [d1]
          unfold DV fits
          exact ⟨⟨rfl, tyV_ok t1⟩, t1⟩
        · cases h
      · cases h
    · cases h
theorem rowsX_sound : ∀ (n : Nat) {t len : Nat} {cs : List AV} {l : List E} {b off : Nat}, rowsX s.k n t len cs = some l → VRs w s M cs b off →
    DVr (fun b off => w.cell? ⟨b, off, none⟩) (Imm s M) (E.denL M.env l) b off ∧ fitsR s.k.shape (E.denL M.env l) t ∧ (E.denL M.env l).length = len
  | 0, _, _, _, _, _, _, h, _ => by unfold rowsX at h; cases h
  | n + 1, t, len, cs, l, b, off, h, hv => by
    unfold rowsX at h
    split at h
    · cases h
      unfold E.denL DVr fitsR
      exact ⟨trivial, trivial, rfl⟩
    · rename_i len
      split at h
      · rename_i r rest h1 h2
        cases h
        obtain ⟨k1, k2⟩ := cellsX_sound n h1 hv
        obtain ⟨k3, k4, k5⟩ := rowsX_sound n h2 (hv.drop _)
        have hlen := (fitsC_get k2).1
        unfold E.denL
        simp only [E.den, Prim.den]
        refine ⟨?_, ?_, by rw [List.length_cons, k5]⟩
        · unfold DVr
          refine ⟨by unfold DVw; exact k1, ?_⟩
          simp only [D.cells, hlen]
          exact k3
        · unfold fitsR
          exact ⟨by unfold fitsW; exact k2, k4⟩
      · cases h
theorem cellsX_sound : ∀ (n : Nat) {ct : List CT} {cs : List AV} {l : List E} {b off : Nat}, cellsX s.k n ct cs = some l → VRs w s M cs b off →
    DVs (fun b off => w.cell? ⟨b, off, none⟩) (Imm s M) (E.denL M.env l) b off ∧ fitsC s.k.shape (E.denL M.env l) ct
  | 0, _, _, _, _, _, h, _ => by unfold cellsX at h; cases h
  | n + 1, ct, cs, l, b, off, h, hv => by
    unfold cellsX at h
    split at h
    · cases h
      unfold E.denL DVs fitsC
      exact ⟨trivial, trivial⟩
    · rename_i c r a as
      split at h
      · rename_i x y h1 h2
        cases h
        unfold VRs at hv
        obtain ⟨⟨v, g0, g1⟩, _, g3, g4⟩ := hv
        obtain ⟨k1, k2⟩ := cellX_sound n h1 g1
        obtain ⟨k3, k4⟩ := cellsX_sound n h2 g4
        unfold E.denL DVs fitsC
        exact ⟨⟨⟨v, g0, k1⟩, g3, k3⟩, k2, k4⟩
      · cases h
    · cases h
end

theorem cellsX_pre : ∀ (n : Nat) {ct : List CT} {cs : List AV} {l : List E} {vs : List Value}, cellsX s.k n ct cs = some l → VRl w s M cs vs → DVl (fun b off => w.cell? ⟨b, off, none⟩) (Imm s M) (E.denL M.env l) (vs.take ct.length) ∧ fitsC s.k.shape (E.denL M.env l) ct
  | 0, _, _, _, _, h, _ => by unfold cellsX at h; cases h
  | n + 1, ct, cs, l, vs, h, hv => by
    unfold cellsX at h
    split at h
    · cases h
      unfold E.denL fitsC
      exact ⟨rfl, trivial⟩
    · rename_i c r a as
      split at h
      · rename_i x y h1 h2
        cases h
        unfold VRl at hv
        obtain ⟨v, t, rfl, g1, g4⟩ := hv
        obtain ⟨k1, k2⟩ := cellX_sound n h1 g1
        obtain ⟨k3, k4⟩ := cellsX_pre n h2 g4
        unfold E.denL fitsC
        exact ⟨⟨v, _, rfl, k1, k3⟩, k2, k4⟩
      · cases h
    · cases h
theorem rowsX_VRl : ∀ (n : Nat) {t len : Nat} {cs : List AV} {l : List E} {vs : List Value}, rowsX s.k n t len cs = some l → cs.length = len * (s.k.shape t).length → VRl w s M cs vs →
    DVl (fun b off => w.cell? ⟨b, off, none⟩) (Imm s M) (flat (E.denL M.env l)) vs ∧ fitsR s.k.shape (E.denL M.env l) t ∧ (E.denL M.env l).length = len
  | 0, _, _, _, _, _, h, _, _ => by unfold rowsX at h; cases h
  | n + 1, t, len, cs, l, vs, h, hl, hv => by
    unfold rowsX at h
    split at h
    · cases h
      have : vs = [] := List.length_eq_zero_iff.1 (by rw [← hv.length, hl]; simp)
      subst this
      unfold E.denL fitsR
      exact ⟨rfl, trivial, rfl⟩
    · rename_i len
      split at h
      · rename_i r rest h1 h2
        cases h
        obtain ⟨k1, k2⟩ := cellsX_pre n h1 hv
        have hl' : (cs.drop (s.k.shape t).length).length = len * (s.k.shape t).length := by rw [List.length_drop, hl, Nat.succ_eq_add_one, Nat.add_mul]; omega
        obtain ⟨k3, k4, k5⟩ := rowsX_VRl n h2 hl' (hv.drop _)
        unfold E.denL
        simp only [E.den, Prim.den]
        refine ⟨?_, ?_, by rw [List.length_cons, k5]⟩
        · show DVl _ _ (E.denL M.env r ++ flat (E.denL M.env rest)) vs
          have := k1.append k3
          rw [List.take_append_drop] at this
          exact this
        · unfold fitsR
          exact ⟨by unfold fitsW; exact k2, k4⟩
      · cases h

/-! ### Appending -/
theorem append_own_core {o : Oper} {a : Act} {c : Go.Call} {t0 t1 e : TypeId} {d : TypeDesc} {ox oy : Operand} (hs : Sim G B0 w0 w s M) (hop : o.op = .call c) (hc : c.callee = .builtin .append)
    (hA0 : c.argTypes[0]? = some t0) (hA1 : c.argTypes[1]? = some t1) (ht0 : P.underlying t0 = some (.slice e)) (ht1 : P.underlying t1 = some d) (hd : ∀ k, d ≠ .int k) (hargs : c.args = #[ox, oy])
    {i : TypeInfo} {zv : Value} (hi : P.info? e = some i) (hzv : i.zero = some zv) (hzs : zv.cells.size = i.size)
    {t len n : Nat} {tip tip' : Tip} (ht : t < s.n) (hg : s.get t = some (.row tip i.size)) (htip : tip.val M.env = len * i.size) (htip' : tip'.val M.env = (len + n) * i.size) (hroom : s.room = true)
    (ex : a.eval ox = .slice (some ⟨M.blk t, 0, none⟩) len (M.cap t)) {ovs vs : List Value} (hat : ∀ (j : Nat) (q : Value), ovs[j]? = some q → w.cell? ⟨M.blk t, j, none⟩ = some q) (hovl : ovs.length = len * i.size)
    (hlen : ∀ W : World, (Builtin.lenOf (a.eval oy)).run P W = .ok n W) (hf1 : (Builtin.firstCells i.size n (a.eval oy)).run P w = .ok vs.toArray w) (hf2 : (Builtin.firstCells i.size n (a.eval oy)).run P w.drew = .ok vs.toArray w.drew)
    (hvl : vs.length = n * i.size) (h6 : ∀ v ∈ vs, v.oneCell' = true) (htl : tooLong i.bytes (len + n) = false) :
    ∃ w' M' b cap, (execOp a.eval o).run P w = .ok (.value (.slice (some ⟨b, 0, none⟩) (len + n) cap)) w' ∧ Sim G B0 w0 w' ((s.put t .dead).new (.row tip' i.size)) M' ∧ Ext w s M w' ((s.put t .dead).new (.row tip' i.size)) M' ∧
      len + n ≤ cap ∧ M'.blk s.n = b ∧ M'.cap s.n = cap ∧ ∀ (j : Nat) (v : Value), (ovs ++ vs)[j]? = some v → w'.cell? ⟨b, j, none⟩ = some v ∧ Imm ((s.put t .dead).new (.row tip' i.size)) M' b j := by
  have hargs' : c.args.map a.eval = #[a.eval ox, a.eval oy] := by rw [hargs]; simp
  have htll : t < Tr.lid := Nat.lt_of_lt_of_le ht hs.bound
  have hgn : ((s.put t .dead).new (.row tip' i.size)).get s.n = some (.row tip' i.size) := by rw [St.get_new _ _ _ (by simpa [St.put] using room_lt hroom)]; exact if_pos rfl
  have hlt : s.n < ((s.put t .dead).new (.row tip' i.size)).n := by simp [St.new, St.put]
  have hnl : (ovs ++ vs).length = (len + n) * i.size := by rw [List.length_append, hovl, hvl, Nat.add_mul]
  obtain ⟨hb1, hb2⟩ := tooLong_no htl
  have hneed : len + n ≤ 2 ^ 47 := by
    have h1 : (2 * (len + n) + 2048) * 1 ≤ (2 * (len + n) + 2048) * i.bytes := Nat.mul_le_mul_left _ hb2
    omega
  by_cases hroomy : len + n ≤ M.cap t
  · obtain ⟨c0, e0', fr, a1, a2, a3, a4⟩ := hs.obj t _ ht hg
    have hfits : len * i.size + n * i.size ≤ c0.size := by rw [a2, ← Nat.add_mul]; exact Nat.mul_le_mul_right _ hroomy
    obtain ⟨k1, k2, k3⟩ := heap_setCells vs (len * i.size) w c0 a1 (by rw [hvl]; exact hfits)
    have hst : (storeCells ⟨M.blk t, len * i.size, none⟩ vs).run P w = .ok () (w.setCells (M.blk t) (len * i.size) vs) := by
      have := run_storeCells_cells (P := P) (M.blk t) (len * i.size) vs 0 w (fun j hj => ?_) (fun j hj => ?_) h6
      · simpa using this
      · simp only [World.cell?, a1]
        simp
        omega
      · simp only [World.frozen?, a1]
        have := a4.no (show len * i.size + 0 + j < c0.size by omega)
        simp only [Bool.and_eq_false_iff, decide_eq_false_iff_not]
        rcases Classical.em (fr.1 ≤ len * i.size + 0 + j) with q | q
        · exact .inr fun q' => this ⟨q, q'⟩
        · exact .inl q
    have hrun := run_append_room' (w := w) t0 t1 o.type e c.argTypes hA0 hA1 i d ht0 ht1 hd hi (some ⟨M.blk t, 0, none⟩) len (M.cap t) n (a.eval oy) vs hlen hf1 hroomy (fun q hq => by cases hq; rw [add_eq, Nat.zero_add]; exact hst) (fun h => by cases h)
    have hnewsz : (c0.toList.take (len * i.size) ++ vs ++ c0.toList.drop (len * i.size + vs.length)).toArray.size = c0.size := by
      simp only [List.size_toArray, List.length_append, List.length_take, List.length_drop, Array.length_toList, hvl]; omega
    obtain ⟨hs2, hE2⟩ := grow_in (tip' := tip') hs hroom ht hg (by rw [htip, htip', Nat.add_mul]; omega) a1 k1 hnewsz (by rw [htip', Nat.add_mul]; exact hfits) (fun j hj => by
      have hj : j < len * i.size := by rw [← htip]; exact hj
      rw [List.getElem?_toArray, List.append_assoc, List.getElem?_append_left (by simp; omega), List.getElem?_take, if_pos hj, Array.getElem?_toList]) k2 (below_setCells (hs.blk t ht).1 vs _ w hs.below) k3
    have hbn : (M.add s.n (M.blk t) (M.cap t)).blk s.n = M.blk t := by simp [Mp.add]
    refine ⟨_, _, M.blk t, M.cap t, exec_append hop hc (by rw [hargs', ex]; exact hrun), hs2, hE2, hroomy, hbn, by simp [Mp.add], fun j v hj => ?_⟩
    have hjl : j < (len + n) * i.size := by rw [← hnl]; exact (List.getElem?_eq_some_iff.1 hj).1
    refine ⟨?_, ?_⟩
    · have e2 : c0.toList.take (len * i.size) = ovs := by
        apply List.ext_getElem?
        intro j
        rw [List.getElem?_take]
        by_cases hj : j < len * i.size
        · rw [if_pos hj]
          obtain ⟨q, hq⟩ : ∃ q, ovs[j]? = some q := ⟨ovs[j], List.getElem?_eq_getElem (by omega)⟩
          have := hat j q hq
          simp only [World.cell?, a1] at this
          rw [hq, Array.getElem?_toList]; simpa using this
        · rw [if_neg hj, List.getElem?_eq_none (by omega)]
      simp only [World.cell?, k1, List.getElem?_toArray]
      rw [e2, List.getElem?_append_left (by rw [hnl]; exact hjl)]
      simpa using hj
    · have := imm_row hs2 hlt hgn (i := j) (by show j < tip'.val M.env; rw [htip']; exact hjl)
      rw [hbn] at this; exact this
  · have hs1 := sim_kill hs t ht
    have hE1 : Ext w s M w (s.put t .dead) M := ext_kill t htll
    have hs2 := sim_drew hs1
    have hEd : Ext w s M w.drew (s.put t .dead) M := hE1.trans ext_drew
    have hg' : M.cap t < len + n := by omega
    have hfit : Builtin.nextslicecap (len + n) (M.cap t) * i.bytes ≤ 281474976710656 := growslice_fits hg' (by
      have h1 : (len + n) * i.bytes ≤ (2 * (len + n) + 2048) * i.bytes := Nat.mul_le_mul_right _ (by omega)
      omega)
    have hold : (Builtin.firstCells i.size len (.slice (some ⟨M.blk t, 0, none⟩) len (M.cap t))).run P w.drew = .ok ovs.toArray w.drew :=
      run_firstCells_some (P := P) w.drew i.size len ⟨M.blk t, 0, none⟩ len (M.cap t) ovs hovl fun j q hq => by rw [add_eq, Nat.zero_add]; exact hat j q hq
    have hrun := run_append_grow' (w := w) t0 t1 o.type e c.argTypes hA0 hA1 i zv d ht0 ht1 hd hi hzv (some ⟨M.blk t, 0, none⟩) len (M.cap t) n (a.eval oy) ovs vs hlen hold hf2 hg' (by omega) hfit
    have hcapge := grownCap_ge w (len + n) (M.cap t) e
    have hcells : (ovs.toArray ++ vs.toArray ++ Builtin.zeroCells zv.cells (grownCap w (len + n) (M.cap t) e - (len + n))).size = grownCap w (len + n) (M.cap t) e * i.size := by
      simp only [Array.size_append, size_zeroCells, hzs, List.size_toArray, hvl, hovl]
      rw [← Nat.add_mul, ← Nat.add_mul]; congr 1; omega
    have hroom1 : (s.put t .dead).room = true := by simpa [St.room, St.put] using hroom
    obtain ⟨hs3, hE3⟩ := new_row hs2 hroom1 (vs := ovs.toArray ++ vs.toArray ++ Builtin.zeroCells zv.cells (grownCap w (len + n) (M.cap t) e - (len + n))) e (0, 0) tip' i.size (grownCap w (len + n) (M.cap t) e) hcells
      (by rw [htip', hcells]; exact Nat.mul_le_mul_right _ hcapge) (.inl rfl)
    have hbn : (M.add s.n w.drew.heap.size (grownCap w (len + n) (M.cap t) e)).blk s.n = w.heap.size := by simp [Mp.add]
    refine ⟨_, _, w.heap.size, grownCap w (len + n) (M.cap t) e, exec_append hop hc (by rw [hargs', ex]; exact hrun), hs3, hEd.trans hE3, hcapge, hbn, by simp [Mp.add, St.put], fun j v hj => ?_⟩
    have hjl : j < (len + n) * i.size := by rw [← hnl]; exact (List.getElem?_eq_some_iff.1 hj).1
    refine ⟨?_, ?_⟩
    · have := heap_new w.drew (.cells (ovs.toArray ++ vs.toArray ++ Builtin.zeroCells zv.cells (grownCap w (len + n) (M.cap t) e - (len + n))) e (0, 0))
      have hsz : w.drew.heap.size = w.heap.size := rfl
      rw [hsz] at this
      simp only [World.cell?, this]
      show (ovs.toArray ++ vs.toArray ++ _)[j]? = some v
      rw [Array.getElem?_append_left (by simp only [Array.size_append, List.size_toArray, ← List.length_append, hnl]; exact hjl)]
      rw [← Array.getElem?_toList]
      simpa using hj
    · have := imm_row hs3 hlt hgn (i := j) (by show j < tip'.val M.env; rw [htip']; exact hjl)
      have hbn' : (M.add (s.put t .dead).n w.drew.heap.size (grownCap w (len + n) (M.cap t) e)).blk s.n = w.heap.size := hbn
      rw [hbn'] at this; exact this
theorem DV_oneCell {C : Nat → Nat → Option Value} {I : Nat → Nat → Prop} : ∀ {d : D} {v : Value}, DV C I d v → v.oneCell' = true
  | .v x, v, k => by
    unfold DV at k
    obtain ⟨rfl, h⟩ := k
    cases v <;> first | rfl | exact h.elim
  | .nil, v, k => by unfold DV at k; exact k.elim
  | .lst rows, v, k => by
    unfold DV at k
    rcases k with ⟨_, _, _, rfl⟩ | ⟨b, off, cap, rfl, _⟩ <;> rfl
  | .row _, v, k => by unfold DV at k; exact k.elim
theorem DVl_oneCell {C : Nat → Nat → Option Value} {I : Nat → Nat → Prop} : ∀ {ds : List D} {vs : List Value}, DVl C I ds vs → ∀ v ∈ vs, v.oneCell' = true
  | [], vs, k, v, hv => by
    obtain rfl : vs = [] := k
    cases hv
  | _ :: _, _, ⟨u, t, rfl, k1, k2⟩, v, hv => by
    rcases List.mem_cons.1 hv with rfl | hv
    · exact DV_oneCell k1
    · exact DVl_oneCell k2 v hv
theorem rowsE_sound (hs : Sim G B0 w0 w s M) {t size : Nat} {y : AV} {e : E} {v : Value} (hL : (s.k.shape t).length = size) (h : rowsE s t size y = some e) (hv : VR w s M y v) :
    ∃ rows vs, e.den M.env = .lst rows ∧ fitsR s.k.shape rows t ∧ DVl (fun b off => w.cell? ⟨b, off, none⟩) (Imm s M) (flat rows) vs ∧ vs.length = rows.length * size ∧
      (∀ W : World, (Builtin.lenOf v).run P W = .ok rows.length W) ∧ (Builtin.firstCells size rows.length v).run P w = .ok vs.toArray w ∧ (Builtin.firstCells size rows.length v).run P w.drew = .ok vs.toArray w.drew := by
  unfold rowsE at h
  split at h
  · rename_i t' e' tok
    split at h
    · rename_i ht
      cases h
      subst ht
      rcases VR_d hv with ⟨q, a0, c0, rfl⟩ | ⟨rows, b, off, cap, q1, rfl, q3, q4, q5⟩
      · exact ⟨[], [], q, by unfold fitsR; trivial, rfl, by simp, fun W => by simp [Builtin.lenOf], by cases a0 <;> simp [Builtin.firstCells, loadCells, loadCellsFrom], by cases a0 <;> simp [Builtin.firstCells, loadCells, loadCellsFrom]⟩
      · obtain ⟨vs, g1, g2⟩ := DVr_vals q4
        have hl : vs.length = rows.length * size := by rw [g1.length, flat_length q5, hL]
        refine ⟨rows, vs, q1, q5, g1, hl, fun W => by simp [Builtin.lenOf], ?_, ?_⟩
        · exact run_firstCells_some (P := P) w size rows.length ⟨b, off, none⟩ rows.length cap vs hl fun j x hj => by rw [add_eq]; exact g2 j x hj
        · exact run_firstCells_some (P := P) w.drew size rows.length ⟨b, off, none⟩ rows.length cap vs hl fun j x hj => by rw [add_eq]; exact g2 j x hj
    · cases h
  · split at h
    · rename_i ys n hh
      split at h
      · rename_i hn
        have hn := nbe hn
        obtain ⟨l, hl, rfl⟩ := Option.map_eq_some_iff.1 h
        obtain ⟨vs, k1, k2, k3, k4⟩ := heldBy_sound (P := P) hs hh hv hn
        obtain ⟨j1, j2, j3⟩ := rowsX_VRl 1000 hl (by rw [hL]; exact hn) k1
        refine ⟨E.denL M.env l, vs, rfl, j2, j1, by rw [← k1.length, hn, j3], by rw [j3]; exact k2, by rw [j3]; exact k3, by rw [j3]; exact k4⟩
      · cases h
    · cases h
theorem ownE_sound (hs : Sim G B0 w0 w s M) {t size : Nat} {x : AV} {e : E} {tk : Nat} {v : Value} (hL : (s.k.shape t).length = size) (h : ownE s t size x = some (e, tk)) (hv : VR w s M x v) :
    ∃ rows ovs tip, e.den M.env = .lst rows ∧ fitsR s.k.shape rows t ∧ tk < s.n ∧ s.get tk = some (.row tip size) ∧ tip.val M.env = rows.length * size ∧ v = .slice (some ⟨M.blk tk, 0, none⟩) rows.length (M.cap tk) ∧
      DVl (fun b off => w.cell? ⟨b, off, none⟩) (Imm s M) (flat rows) ovs ∧ (∀ (j : Nat) (q : Value), ovs[j]? = some q → w.cell? ⟨M.blk tk, j, none⟩ = some q) := by
  unfold ownE at h
  split at h
  · rename_i t' e' tk'
    split at h
    · rename_i e2 wd esz hg
      split at h
      · rename_i ht
        split at h
        · rename_i hc
          simp only [Option.some.injEq, Prod.mk.injEq] at h
          obtain ⟨rfl, rfl⟩ := h
          subst ht
          simp only [Bool.and_eq_true] at hc
          obtain ⟨⟨⟨c1, c2⟩, c3⟩, c4⟩ := hc
          have c1 := eEq_eq c1
          have c2 := nbe c2
          have c3 := nbe c3
          subst c1 c2 c3
          have c4 := Nat.le_of_ble_eq_true c4
          have hv' := hv
          unfold VR at hv'
          obtain ⟨_, hlt, htok⟩ := hv'.2.2 tk' rfl |>.imp_left id |> fun h => (⟨trivial, h.1, h.2⟩ : True ∧ _ ∧ _)
          obtain ⟨l, hl⟩ := htok _ _ hg
          rcases VR_d hv with ⟨q, a3, cap3, e3⟩ | ⟨rows, b, off, cap, q1, q2, q3, q4, q5⟩
          · rw [e3] at hl
            injection hl with e5 e6 e7
            exact ⟨[], [], _, q, by unfold fitsR; trivial, hlt, hg, by simp only [Tip.val, q, D.rows], by rw [e3, e5, e7]; rfl, rfl, fun j q hj => by simp at hj⟩
          · rw [q2] at hl
            cases hl
            obtain ⟨vs, g1, g2⟩ := DVr_vals q4
            exact ⟨rows, vs, _, q1, q5, hlt, hg, by simp only [Tip.val, q1, D.rows], q2, g1, fun j q hj => by have := g2 j q hj; rw [Nat.zero_add] at this; exact this⟩
        · cases h
      · cases h
    · cases h
  · rename_i cs len tk'
    split at h
    · rename_i tip esz hg
      split at h
      · rename_i hc
        obtain ⟨l, hl, e1⟩ := Option.map_eq_some_iff.1 h
        simp only [Prod.mk.injEq] at e1
        obtain ⟨rfl, rfl⟩ := e1
        simp only [Bool.and_eq_true] at hc
        obtain ⟨⟨⟨c1, c2⟩, c3⟩, c4⟩ := hc
        have c1 := nbe c1
        have c2 := nbe c2
        subst c1 c2
        have c4 := Nat.le_of_ble_eq_true c4
        unfold VR at hv
        obtain ⟨b, off, cap, rfl, hle, hv, htok⟩ := hv
        obtain ⟨hlt, htok⟩ := htok tk' rfl
        obtain ⟨rfl, rfl, rfl⟩ := htok _ _ hg
        obtain ⟨ovs, k1, k2⟩ := (hv.take (len * esz)).vals
        obtain ⟨j1, j2, j3⟩ := rowsX_VRl 1000 hl (by rw [hL, List.length_take]; omega) k1
        refine ⟨E.denL M.env l, ovs, _, rfl, j2, hlt, hg, by rw [j3]; rfl, by rw [j3], j1, fun j q hj => by have := k2 j q hj; rw [Nat.zero_add] at this; exact this⟩
      · cases h
    · cases h
  · cases h
theorem few_sound (hs : Sim G B0 w0 w s M) {bytes : Nat} {e : E} {rows : List D} (he : e.den M.env = .lst rows) (h : few s.k bytes e = true) : tooLong bytes rows.length = false := by
  unfold few at h
  rw [Bool.and_eq_true, Bool.not_eq_true'] at h
  have h1 := fact_of hs h.1
  simp only [E.den, E.denL, Prim.den, lenE, eInt, he] at h1
  have h1 := ofBool_true h1
  have h1 : (rows.length : Int) ≤ rowMax := by simpa [cmpI, D.int, D.ofInt, D.rows] using h1
  obtain ⟨g1, g2⟩ := tooLong_no h.2
  unfold tooLong
  rw [Bool.or_eq_false_iff, Bool.not_eq_false']
  refine ⟨Nat.ble_eq_true_of_le (Nat.le_trans (Nat.mul_le_mul_right _ (by omega)) g1), nbf (by omega)⟩
theorem s_symAppend {o : Oper} {a : Act} {T : Tm} {c : Go.Call} {t0 t1 e el1 : TypeId} {x y : AV} {ox oy : Operand} {r : AV} {s' : St} (hs : Sim G B0 w0 w s M) (hT : TmR w s M T a) (hop : o.op = .call c) (hc : c.callee = .builtin .append)
    (hA0 : c.argTypes[0]? = some t0) (hA1 : c.argTypes[1]? = some t1) (ht0 : P.underlying t0 = some (.slice e)) (ht1 : P.underlying t1 = some (.slice el1))
    (hargs : c.args.toList = [ox, oy]) (hx : opd G T ox = some x) (hy : opd G T oy = some y) (h : symAppend P e s x y = some (r, s')) : OpOk P G B0 w0 w s M o a r s' := by
  have vx := opd_sound hs hT hx
  have vy := opd_sound hs hT hy
  have hargs : c.args = #[ox, oy] := by rw [← Array.toList_inj, hargs]
  have hargs' : c.args.map a.eval = #[a.eval ox, a.eval oy] := by rw [hargs]; simp
  simp only [symAppend, Option.bind_eq_bind, Option.bind_eq_some_iff] at h
  obtain ⟨size, hsize, bytes, hbytes, z, hz, h⟩ := h
  obtain ⟨zv, hz1, hz2⟩ := zeroCells_some hz
  unfold sizeT at hsize; unfold bytesT at hbytes; unfold zeroT at hz1
  rw [Option.map_eq_some_iff] at hsize hbytes
  rw [Option.bind_eq_some_iff] at hz1
  obtain ⟨i, hi, rfl⟩ := hsize
  obtain ⟨i', hi', rfl⟩ := hbytes
  obtain ⟨i'', hi'', hzv⟩ := hz1
  rw [hi] at hi' hi''; cases hi'; cases hi''
  split at h
  · cases h
  · rename_i hcnd
    simp only [Bool.or_eq_true, Bool.not_eq_true', not_or, Bool.not_eq_false, Bool.not_eq_true] at hcnd
    obtain ⟨⟨⟨c1, c2⟩, c3⟩, hroom⟩ := hcnd
    have hL := nbe c1
    have hz3 := nbe c3
    have hi0 : i.size ≠ 0 := fun e => by rw [e] at c2; cases c2
    have hzs : zv.cells.size = i.size := by have := (VRl_scAll (w := w) (s := s) (M := M) hz2).length; rw [hz3] at this; simp at this; exact this.symm
    simp only [Option.bind_eq_some_iff] at h
    obtain ⟨ey, hey, h⟩ := h
    obtain ⟨rows, vs, d1, f1, g1, hvl, hlen, hf1, hf2⟩ := rowsE_sound (P := P) hs hL hey vy
    have hd : ∀ k, TypeDesc.slice el1 ≠ .int k := fun k => by simp
    split at h
    · -- a nil slice
      split at h
      · rename_i hfew
        simp only [Option.some.injEq, Prod.mk.injEq] at h
        obtain ⟨rfl, rfl⟩ := h
        have htl := few_sound hs d1 hfew
        have ex := (VR_v.1 vx).1
        rcases Nat.eq_zero_or_pos rows.length with h0 | h0
        · have hr0 : rows = [] := List.length_eq_zero_iff.1 h0
          subst hr0
          have hrun := run_append_room' (w := w) (w' := w) t0 t1 o.type e c.argTypes hA0 hA1 i _ ht0 ht1 hd hi none 0 0 0 (a.eval oy) vs hlen hf1 (Nat.le_refl _) (fun a h => by cases h) (fun _ => rfl)
          refine ok_here hs (exec_append hop hc (by rw [hargs', ex]; exact hrun)) ?_
          unfold VR
          rw [d1]
          refine ⟨?_, ?_, fun t ht => by cases ht⟩
          · unfold DV; exact .inl ⟨rfl, _, _, rfl⟩
          · unfold fits; exact f1
        · obtain ⟨hb1, hb2⟩ := tooLong_no htl
          have hneed : rows.length ≤ 2 ^ 47 := by
            have h1 : (2 * rows.length + 2048) * 1 ≤ (2 * rows.length + 2048) * i.bytes := Nat.mul_le_mul_left _ hb2
            omega
          have hfit : Builtin.nextslicecap (0 + rows.length) 0 * i.bytes ≤ 281474976710656 := growslice_fits (by omega) (by
            have h1 : (0 + rows.length) * i.bytes ≤ (2 * rows.length + 2048) * i.bytes := Nat.mul_le_mul_right _ (by omega)
            omega)
          have hrun := run_append_grow' (w := w) t0 t1 o.type e c.argTypes hA0 hA1 i zv _ ht0 ht1 hd hi hzv none 0 0 rows.length (a.eval oy) [] vs hlen (by simp [Builtin.firstCells]) hf2 (by omega) (by omega) hfit
          have hcapge := grownCap_ge w (0 + rows.length) 0 e
          have hB : Below w.heap.size w (w.drew.alloc (.cells (([] : List Value).toArray ++ vs.toArray ++ Builtin.zeroCells zv.cells (grownCap w (0 + rows.length) 0 e - (0 + rows.length))) e)) :=
            (Below.refl _ _).drew.alloc (Nat.le_refl _) _
          obtain ⟨hs2, hE2⟩ := sim_frame hs hB
          refine ok_value (exec_append hop hc (by rw [hargs', ex]; exact hrun)) ?_ hs2 hE2
          unfold VR
          rw [d1]
          refine ⟨?_, ?_, fun t ht => by cases ht⟩
          · unfold DV
            refine .inr ⟨w.heap.size, 0, grownCap w (0 + rows.length) 0 e, by rw [Nat.zero_add], by have := hcapge; omega, ?_⟩
            refine DVr_of (fun d hd => (fitsR_row f1 d hd).imp fun _ h => h.1) (g1.mono hE2.cells) fun j v hj => ⟨?_, fun i' o' hin _ hbk => ?_, out_new hs (Nat.le_refl _)⟩
            · have := heap_new w.drew (.cells (([] : List Value).toArray ++ vs.toArray ++ Builtin.zeroCells zv.cells (grownCap w (0 + rows.length) 0 e - (0 + rows.length))) e (0, 0))
              have hsz : w.drew.heap.size = w.heap.size := rfl
              rw [hsz] at this
              simp only [World.cell?, this]
              rw [Nat.zero_add j]
              show (([] : List Value).toArray ++ vs.toArray ++ _)[j]? = some v
              have hjl := (List.getElem?_eq_some_iff.1 hj).1
              rw [Array.getElem?_append_left (by simpa using hjl)]
              simpa using hj
            · have := (hs.blk i' hin).2
              omega
          · unfold fits; exact f1
      · cases h
    · -- a row of the call's own
      rename_i hno
      obtain ⟨⟨ex, tk⟩, hex, h⟩ := Option.bind_eq_some_iff.1 h
      simp only at h
      split at h
      · rename_i hfew
        simp only [Option.some.injEq, Prod.mk.injEq] at h
        obtain ⟨rfl, rfl⟩ := h
        obtain ⟨xr, ovs, tip, d2, f2, hlt, hg, htip, evx, g2, hat⟩ := ownE_sound hs hL hex vx
        have dc : (E.pr .cat [ex, ey]).den M.env = .lst (xr ++ rows) := by simp only [E.den, E.denL, Prim.den, d1, d2]; rfl
        have htl := few_sound hs dc hfew
        rw [List.length_append] at htl
        have hovl : ovs.length = xr.length * i.size := by rw [g2.length, flat_length f2, hL]
        obtain ⟨w', M', b, cap, q1, q2, q3, q4, q5, q6, q7⟩ := append_own_core (tip' := .e (.pr .cat [ex, ey]) i.size) hs hop hc hA0 hA1 ht0 ht1 hd hargs hi hzv hzs hlt hg htip (by simp only [Tip.val, dc, D.rows, List.length_append]) hroom evx hat hovl hlen hf1 hf2 hvl (DVl_oneCell g1) htl
        refine ok_value q1 ?_ q2 q3
        unfold VR
        rw [q3.keep.1, dc]
        refine ⟨?_, ?_, fun t ht => ?_⟩
        · unfold DV
          refine .inr ⟨b, 0, cap, by rw [List.length_append], by rw [List.length_append]; exact q4, ?_⟩
          refine DVr_of (fun d hd => ?_) (by rw [flat_append]; exact (g2.append g1).mono q3.cells) fun j v hj => by rw [Nat.zero_add]; exact q7 j v hj
          exact (fitsR_row (fitsR_append f2 f1) d hd).imp fun _ h => h.1
        · rw [q3.keep.2.2]; unfold fits; exact fitsR_append f2 f1
        · cases ht
          exact ⟨by simp [St.new, St.put], fun tip' e' hg' => ⟨xr.length + rows.length, by rw [q5, q6]⟩⟩
      · cases h

/-! ### Tables -/
theorem tyT_key {t : TypeId} {kt : Ty} {v : Value} (h : tyT P t = some kt) (hb : kt ≠ .b) (hv : tyV kt v = true) : keyT P t v = true := by
  unfold tyT at h
  unfold keyT
  split at h
  · rename_i k hu
    cases h
    obtain ⟨i, rfl⟩ := tyV_int hv
    rw [hu]
  · cases h; exact absurd rfl hb
  · rename_i hu
    cases h
    obtain ⟨i, rfl⟩ := tyV_s hv
    rw [hu]
  · cases h
theorem entE_sound {kt ct : Ty} : ∀ {es : List (Value × AV)} {l : List E} {ents : List MapEntry}, entE kt ct es = some l → MR w s M es ents → MDr kt ct (E.denL M.env l) ents
  | [], l, ents, h, k => by
    simp only [entE, Option.some.injEq] at h
    subst h
    unfold E.denL
    exact k
  | (x, a) :: r, l, ents, h, k => by
    unfold entE at h
    obtain ⟨e, t', rfl, rfl, k1, k2⟩ := k
    split at h
    · rename_i t ek u ea rest h1 h2 h3
      split at h
      · rename_i ht
        split at h
        · rename_i hu
          cases h
          subst ht hu
          obtain ⟨d2, t2⟩ := toE_sound h2 k1
          have d1 : ek.den M.env = .v e.key ∧ tyV t e.key = true := by
            generalize e.key = kk at h1
            cases kk <;> simp only [toE, Option.some.injEq, Prod.mk.injEq, reduceCtorEq] at h1 <;> (obtain ⟨rfl, rfl⟩ := h1; simp [E.den, tyV])
          unfold E.denL
          exact ⟨e, t', rfl, by simp only [E.den, E.denL, Prim.den, d1.1, d2], d1.2, t2, entE_sound h3 k2⟩
        · cases h
      · cases h
    · cases h
theorem mapE_sound (hs : Sim G B0 w0 w s M) {kt ct : Ty} {m : Nat} {e : E} (hm : m < s.n) (h : mapE kt ct (s.get m) = some e) :
    ∃ ents clock rows ob, s.get m = some ob ∧ ob.live ∧ (∀ tip e, ob ≠ .row tip e) ∧ w.heap[M.blk m]? = some (.map ents clock) ∧ e.den M.env = .lst rows ∧ MDr kt ct rows ents.toList := by
  cases hg : s.get m with
  | none => rw [hg] at h; cases h
  | some ob =>
    rw [hg] at h
    have ho := hs.obj m ob hm hg
    unfold mapE at h
    split at h
    · rename_i es heq
      cases heq
      obtain ⟨l, hl, rfl⟩ := Option.map_eq_some_iff.1 h
      obtain ⟨ents, clock, a1, a2⟩ := ho
      exact ⟨ents, clock, _, _, rfl, trivial, fun _ _ => by simp, a1, rfl, entE_sound hl a2⟩
    · rename_i kt' ct' e' heq
      cases heq
      split at h
      · rename_i h1
        split at h
        · rename_i h2
          cases h
          subst h1 h2
          obtain ⟨ents, clock, rows, a1, a2, a3⟩ := ho
          exact ⟨ents, clock, rows, _, rfl, trivial, fun _ _ => by simp, a1, a2, a3⟩
        · cases h
      · cases h
    · cases h
theorem same_key {t : TypeId} {d : TypeDesc} {kt : Ty} {k x : Value} (hd : P.underlying t = some d) (ht : tyT P t = some kt) (hb : kt ≠ .b) (hk : tyV kt k = true) (hx : tyV kt x = true) : Instr.sameNow d k x = some (dkeyIs (.v k) (.v x)) := by
  refine sameKey_now hd (tyT_key ht hb hk) ?_
  cases kt with
  | i kk =>
    obtain ⟨i, rfl⟩ := tyV_int hk
    obtain ⟨j, rfl⟩ := tyV_int hx
    simp only [sameKey, dkeyIs, if_true, decide_true, Bool.true_and, Option.some.injEq]
    by_cases h : i = j <;> simp [h]
  | b => exact absurd rfl hb
  | s =>
    obtain ⟨i, rfl⟩ := tyV_s hk
    obtain ⟨j, rfl⟩ := tyV_s hx
    simp only [sameKey, dkeyIs, Option.some.injEq]
    by_cases h : i = j
    · subst h; simp [(ba_beq _ _).2 rfl]
    · rw [decide_eq_false h]
      cases hb : (i == j) with
      | false => rfl
      | true => exact absurd ((ba_beq _ _).1 hb) h
theorem mfind_now {t : TypeId} {d : TypeDesc} {kt ct : Ty} {k : Value} (hd : P.underlying t = some d) (ht : tyT P t = some kt) (hb : kt ≠ .b) (hk : tyV kt k = true) : ∀ {rows : List D} {ents : List MapEntry} (i : Nat), MDr kt ct rows ents →
    (mfind (.v k) rows = none ∧ Instr.findNow d k ents i = some none) ∨ ∃ j v, mfind (.v k) rows = some (.v v) ∧ tyV ct v = true ∧ Instr.findNow d k ents i = some (some (j, v))
  | [], ents, i, h => by
    obtain rfl : ents = [] := h
    exact .inl ⟨rfl, rfl⟩
  | _ :: r, _, i, ⟨e, t', rfl, rfl, h1, h2, h3⟩ => by
    have hsk := same_key hd ht hb hk h1
    cases hb' : dkeyIs (.v k) (.v e.key) with
    | true =>
      rw [hb'] at hsk
      exact .inr ⟨i, e.val, by simp [mfind, hb'], h2, by simp [Instr.findNow, hsk]⟩
    | false =>
      rw [hb'] at hsk
      rcases mfind_now hd ht hb hk (i + 1) h3 with ⟨p, q⟩ | ⟨j, v, p, q, q2⟩
      · exact .inl ⟨by simp [mfind, hb', p], by simp [Instr.findNow, hsk, q]⟩
      · exact .inr ⟨j, v, by simp [mfind, hb', p], q, by simp [Instr.findNow, hsk, q2]⟩
theorem dkeyIs_eq {k x : Value} (h : dkeyIs (.v k) (.v x) = true) : x = k := by
  unfold dkeyIs at h
  split at h
  · rename_i e1 e2
    cases e1; cases e2
    rw [Bool.and_eq_true, decide_eq_true_eq, decide_eq_true_eq] at h
    rw [h.1, h.2]
  · rename_i e1 e2
    cases e1; cases e2
    rw [decide_eq_true_eq] at h
    rw [h]
  · cases h
theorem mput_now {t : TypeId} {d : TypeDesc} {kt ct : Ty} {k y : Value} {clock : Nat} (hd : P.underlying t = some d) (ht : tyT P t = some kt) (hb : kt ≠ .b) (hk : tyV kt k = true) (hy : tyV ct y = true) : ∀ {rows : List D} {ents : List MapEntry} (i : Nat), MDr kt ct rows ents →
    (Instr.findNow d k ents i = some none ∧ MDr kt ct (mput (.v k) (.v y) rows) (ents ++ [{ key := k, val := y, born := clock }])) ∨
    ∃ p v e, Instr.findNow d k ents i = some (some (i + p, v)) ∧ ents[p]? = some e ∧ e.key = k ∧ MDr kt ct (mput (.v k) (.v y) rows) (ents.modify p fun e => { e with key := k, val := y })
  | [], ents, i, h => by
    obtain rfl : ents = [] := h
    exact .inl ⟨rfl, _, [], rfl, rfl, hk, hy, rfl⟩
  | _ :: r, _, i, ⟨e, t', rfl, rfl, h1, h2, h3⟩ => by
    have hsk := same_key hd ht hb hk h1
    cases hb' : dkeyIs (.v k) (.v e.key) with
    | true =>
      rw [hb'] at hsk
      have hek := dkeyIs_eq hb'
      refine .inr ⟨0, e.val, e, by simp [Instr.findNow, hsk], rfl, hek, ?_⟩
      simp only [mput, hb', cond_true]
      exact ⟨_, t', rfl, rfl, hk, hy, h3⟩
    | false =>
      rw [hb'] at hsk
      simp only [mput, hb', cond_false]
      rcases mput_now (clock := clock) hd ht hb hk hy (i + 1) h3 with ⟨p, q⟩ | ⟨p, v, e', q1, q2, q3, q4⟩
      · exact .inl ⟨by simp [Instr.findNow, hsk, p], ⟨e, _, rfl, rfl, h1, h2, q⟩⟩
      · refine .inr ⟨p + 1, v, e', ?_, by simpa using q2, q3, ⟨e, _, rfl, rfl, h1, h2, q4⟩⟩
        simp only [Instr.findNow, hsk]
        rw [q1, show i + 1 + p = i + (p + 1) by omega]
theorem mkX_VR (hs : Sim G B0 w0 w s M) {ct : Ty} {e : E} {v : Value} (he : e.den M.env = .v v) (hv : tyV ct v = true) : VR w s M (mkX s.k ct e) v := by
  cases ct with
  | b =>
    obtain ⟨b, rfl⟩ := tyV_b hv
    exact mkB_sound hs he
  | i k => unfold mkX VR; exact ⟨he, hv⟩
  | s => unfold mkX VR; exact ⟨he, hv⟩
theorem desc_of {t : TypeId} {kt : Ty} (h : tyT P t = some kt) : ∃ d, P.underlying t = some d := by
  unfold tyT at h
  split at h <;> first | exact ⟨_, by assumption⟩ | cases h
theorem s_symLookup {o : Oper} {a : Act} {T : Tm} {t : TypeId} {x ix : Operand} {ok : Bool} {c ck r : AV} (hs : Sim G B0 w0 w s M) (hT : TmR w s M T a) (hop : o.op = .lookup t x ix ok) (hx : opd G T x = some c) (hix : opd G T ix = some ck) (h : symLookup P s t c ck ok = some r) : OpOk P G B0 w0 w s M o a r s := by
  have vx := opd_sound hs hT hx
  have vk := opd_sound hs hT hix
  unfold symLookup at h
  split at h
  · rename_i k e m hu
    split at h
    · rename_i kt ct kt' ek zv ht hc he hz
      split at h
      · rename_i hcnd
        simp only [Bool.and_eq_true, decide_eq_true_eq, Bool.not_eq_true', decide_eq_false_iff_not] at hcnd
        obtain ⟨⟨rfl, hb⟩, hzt⟩ := hcnd
        split at h
        · rename_i em hem
          cases h
          unfold VR at vx
          obtain ⟨hm, ex⟩ := vx
          obtain ⟨ents, clock, rows, ob, _, _, _, h1, h2, h3⟩ := mapE_sound hs hm hem
          obtain ⟨d, hd⟩ := desc_of ht
          obtain ⟨dk, tk⟩ := toE_sound he vk
          have hk := tyT_key ht hb tk
          have hgo : (getObj (M.blk m)).run P w = .ok (.map ents clock) w := by simp [getObj, Sem.run, h1]
          have fin : ∀ (v : Value) (b : Bool), tyV ct v = true → (mfind (.v (a.eval ix)) rows).isSome = b → (mfind (.v (a.eval ix)) rows).getD (.v zv) = .v v → (Instr.lookup t (a.eval x) (a.eval ix) ok).run P w = .ok (if ok then .tuple #[v, .bool b] else v) w →
              OpOk P G B0 w0 w s M o a (if ok then .tup [mkX s.k ct (.pr .mget [em, ek, .lit zv]), mkB s.k (.pr .mhas [em, ek])] else mkX s.k ct (.pr .mget [em, ek, .lit zv])) s := by
            intro v b q1 q2 q3 hrun
            have g1 : VR w s M (mkX s.k ct (.pr .mget [em, ek, .lit zv])) v := mkX_VR hs (by simp only [E.den, E.denL, Prim.den, h2, dk, D.rows]; exact q3) q1
            have g2 : VR w s M (mkB s.k (.pr .mhas [em, ek])) (.bool b) := mkB_sound hs (by simp only [E.den, E.denL, Prim.den, h2, dk, D.rows, q2])
            refine ok_here hs (v := if ok then .tuple #[v, .bool b] else v) (by simp [execOp, hop, hrun]) ?_
            cases ok with
            | true => exact VR_tup (VRl_cons g1 (VRl_cons g2 VRl_nil))
            | false => exact g1
          rcases mfind_now hd ht hb tk 0 h3 with ⟨p, q⟩ | ⟨j, v, p, p2, q⟩
          · refine fin zv false hzt (by rw [p]; rfl) (by rw [p]; rfl) ?_
            cases ok <;> simp [Instr.lookup, run_underlying hu, ex, hgo, run_checkKey' hk, Instr.findKey, run_underlying hd, q, run_zeroValue hz]
          · refine fin v true p2 (by rw [p]; rfl) (by rw [p]; rfl) ?_
            cases ok <;> simp [Instr.lookup, run_underlying hu, ex, hgo, run_checkKey' hk, Instr.findKey, run_underlying hd, q]
        · cases h
      · cases h
    · cases h
  · cases h
theorem sameBits_key' {t : TypeId} {k : Value} (hk : keyT P t k = true) (n : Nat) : Instr.sameBits n k k = true := sameBits_key hk n
theorem s_symUpdate {o : Oper} {a : Act} {T : Tm} {t : TypeId} {om okx ox : Operand} {c ck y : AV} {s' : St} (hs : Sim G B0 w0 w s M) (hT : TmR w s M T a) (hop : o.op = .mapUpdate t om okx ox ∨ o.op = .insert t om okx ox) (hx : opd G T om = some c) (hix : opd G T okx = some ck) (hy : opd G T ox = some y)
    (h : symUpdate P s t c ck y = some s') : OpOk P G B0 w0 w s M o a und s' := by
  have vx := opd_sound hs hT hx
  have vk := opd_sound hs hT hix
  have vy := opd_sound hs hT hy
  unfold symUpdate at h
  split at h
  · rename_i k e m hu
    split at h
    · rename_i kt ct kt' ek ct' ey ht hc he hey
      split at h
      · rename_i hcnd
        simp only [Bool.and_eq_true, decide_eq_true_eq, Bool.not_eq_true', decide_eq_false_iff_not] at hcnd
        obtain ⟨⟨rfl, hb⟩, rfl⟩ := hcnd
        split at h
        · rename_i em hem
          cases h
          unfold VR at vx
          obtain ⟨hm, ex⟩ := vx
          obtain ⟨ents, clock, rows, ob, hg, hlive, hnr, h1, h2, h3⟩ := mapE_sound hs hm hem
          obtain ⟨d, hd⟩ := desc_of ht
          obtain ⟨dk, tk⟩ := toE_sound he vk
          obtain ⟨dy, ty⟩ := toE_sound hey vy
          have hk := tyT_key ht hb tk
          have hlt := (hs.blk m hm).2
          have hgo : (getObj (M.blk m)).run P w = .ok (.map ents clock) w := by simp [getObj, Sem.run, h1]
          have hso : ∀ ob : Obj, (setObj (M.blk m) ob).run P w = .ok () { w with heap := w.heap.setIfInBounds (M.blk m) ob } := fun ob => by simp [setObj, Sem.run, h1]
          have hh : ∀ ob : Obj, ({ w with heap := w.heap.setIfInBounds (M.blk m) ob } : World).heap[M.blk m]? = some ob := fun ob => by
            show (w.heap.setIfInBounds (M.blk m) ob)[M.blk m]? = some ob
            rw [Array.getElem?_setIfInBounds_self, if_pos hlt]
          have hh2 : ∀ (ob : Obj) k, k ≠ M.blk m → ({ w with heap := w.heap.setIfInBounds (M.blk m) ob } : World).heap[k]? = w.heap[k]? := fun ob k hk => by
            show (w.heap.setIfInBounds (M.blk m) ob)[k]? = _
            rw [Array.getElem?_setIfInBounds_ne (Ne.symm hk)]
          have fin : ∀ ents' clock', (Instr.mapUpdate t (a.eval om) (a.eval okx) (a.eval ox)).run P w = .ok () { w with heap := w.heap.setIfInBounds (M.blk m) (.map ents' clock') } → MDr kt ct (mput (.v (a.eval okx)) (.v (a.eval ox)) rows) ents'.toList →
              OpOk P G B0 w0 w s M o a und (s.put m (.sym (.map kt ct (.pr .mset [em, ek, ey])))) := by
            intro ents' clock' hrun hmr
            have hE : Ext w s M { w with heap := w.heap.setIfInBounds (M.blk m) (.map ents' clock') } (s.put m (.sym (.map kt ct (.pr .mset [em, ek, ey])))) M := ext_write hs hm hg hnr hlive (fun _ _ => by simp) trivial (hh2 _) (by simp)
            refine ok_skip (by rcases hop with hop | hop <;> simp [execOp, hop, hrun]) (sim_write hs hm hg hnr hlive (fun _ _ => by simp) trivial (hh2 _) ?_ (by simp) ⟨ents', clock', _, hh _, by simp only [E.den, E.denL, Prim.den, h2, dk, dy, D.rows], hmr⟩) hE
            exact hs.below.trans ⟨rfl, rfl, rfl, by simp, fun k hk => hh2 _ k (by have := (hs.blk m hm).1; omega)⟩
          rcases mput_now (clock := clock) hd ht hb tk ty 0 h3 with ⟨q1, q2⟩ | ⟨p, v, e', q1, q2, q3, q4⟩
          · refine fin (ents.push { key := a.eval okx, val := a.eval ox, born := clock }) (clock + 1) ?_ (by simpa using q2)
            simp [Instr.mapUpdate, run_underlying hu, ex, hgo, run_checkKey' hk, Instr.findKey, run_underlying hd, q1, hso]
          · refine fin (ents.modify p fun e => { e with key := a.eval okx, val := a.eval ox }) clock ?_ (by simpa using q4)
            have hkk : (((ents[p]?).map (·.key)).getD (a.eval okx)) = a.eval okx := by rw [← Array.getElem?_toList, q2]; exact q3
            have hst : (Instr.keyThatStays (a.eval okx) (a.eval okx)).run P w = .ok (a.eval okx) w := by unfold Instr.keyThatStays; rw [sameBits_key' hk]; rfl
            simp [Instr.mapUpdate, run_underlying hu, ex, hgo, run_checkKey' hk, Instr.findKey, run_underlying hd, q1, hkk, hst, hso]
        · cases h
      · cases h
    · cases h
  · cases h
theorem MDr_len {kt ct : Ty} : ∀ {rows : List D} {ents : List MapEntry}, MDr kt ct rows ents → ents.length = rows.length
  | [], _, h => by obtain rfl : _ = [] := h; rfl
  | _ :: _, _, ⟨_, _, rfl, _, _, _, h⟩ => by rw [List.length_cons, List.length_cons, MDr_len h]
theorem s_symLen {o : Oper} {a : Act} {T : Tm} {c : Go.Call} {t0 k e : TypeId} {ox : Operand} {m : Nat} {kt ct : Ty} {em : E} (hs : Sim G B0 w0 w s M) (hT : TmR w s M T a) (hop : o.op = .call c) (hc : c.callee = .builtin .len) (hA0 : c.argTypes[0]? = some t0)
    (hargs : c.args.toList = [ox]) (hx : opd G T ox = some (.mp m)) (hg : s.get m = some (.sym (.map kt ct em))) (hd : P.underlying t0 = some (.map k e)) : OpOk P G B0 w0 w s M o a (.x (.i .i64) (lenE em)) s := by
  have vx := opd_sound hs hT hx
  unfold VR at vx
  obtain ⟨hm, ex⟩ := vx
  obtain ⟨ents, clock, rows, h1, h2, h3⟩ := hs.obj m _ hm hg
  have hargs' : c.args.map a.eval = #[a.eval ox] := by rw [← Array.toList_inj, Array.toList_map, hargs]; rfl
  have hgo : (getObj (M.blk m)).run P w = .ok (.map ents clock) w := by simp [getObj, Sem.run, h1]
  have hl : ents.size = rows.length := by rw [← MDr_len h3]; simp
  have key : (Builtin.len_ c.argTypes o.type (c.args.map a.eval)).run P w = .ok (goInt ents.size) w := by
    unfold Builtin.len_
    rw [hA0, hargs', ex]
    simp [run_underlying hd, hgo]
  refine ok_here hs (v := goInt ents.size) ?_ ?_
  · simp [execOp, hop, resolve, hc, invoke, builtin, key]
  · unfold VR
    refine ⟨?_, rfl⟩
    simp only [lenE, E.den, E.denL, Prim.den, h2, hl]
    rfl

theorem bytesE_of : ∀ {cs : List AV} {es : List E} {vs : List Value}, bytesE cs = some es → VRl w s M cs vs → ∃ ns : List Int, vs = ns.map (Value.int .u8) ∧ E.denL M.env es = ns.map fun n => D.v (.int .u8 n)
  | [], es, vs, h, k => by
    unfold bytesE at h; cases h
    unfold VRl at k; subst k
    exact ⟨[], rfl, rfl⟩
  | c :: r, es, vs, h, k => by
    unfold VRl at k; obtain ⟨v, t, rfl, k1, k2⟩ := k
    unfold bytesE at h
    split at h
    · rename_i e l h1 h2
      cases h
      obtain ⟨g1, g2⟩ := toE_sound h1 k1
      obtain ⟨z, rfl⟩ := tyV_int g2
      obtain ⟨ns, rfl, hd⟩ := bytesE_of h2 k2
      exact ⟨z :: ns, rfl, by simp only [E.denL, g1, hd, List.map_cons]⟩
    · cases h
theorem s_bytes_sym {o : Oper} {a : Act} {T : Tm} {src dst e : TypeId} {x : Operand} {cs cs0 : List AV} {n len : Nat} {tok : Option Nat} {es : List E} (hs : Sim G B0 w0 w s M) (hT : TmR w s M T a) (hop : o.op = .convert src dst x) (h1 : P.underlying src = some (.slice e))
    (h2 : P.underlying dst = some .string) (h3 : P.underlying e = some (.int .u8)) (hx : opd G T x = some (.sl cs0 len tok)) (hh : heldBy s 1 (.sl cs0 len tok) = some (cs, n)) (hb : bytesE cs = some es) :
    OpOk P G B0 w0 w s M o a (.x .s (.pr .sofb es)) s := by
  have vx := opd_sound hs hT hx
  have hl : cs.length = n * 1 := by
    simp only [heldBy] at hh
    split at hh
    · rename_i hle; simp only [Option.some.injEq, Prod.mk.injEq] at hh; obtain ⟨rfl, rfl⟩ := hh
      have := Nat.le_of_ble_eq_true hle; rw [List.length_take]; omega
    · cases hh
  obtain ⟨vs, hvs, hlen, hf, _⟩ := heldBy_sound (P := P) hs hh vx hl
  obtain ⟨ns, rfl, hd⟩ := bytesE_of hb hvs
  have key : ∃ b off cap, a.eval x = .slice (some ⟨b, off, none⟩) n cap := by
    unfold VR at vx; obtain ⟨b, off, cap, e1, _⟩ := vx
    have := hlen w; rw [e1] at this; simp [Builtin.lenOf] at this; subst this
    exact ⟨b, off, cap, e1⟩
  obtain ⟨b, off, cap, e1⟩ := key
  rw [e1] at hf
  simp only [Builtin.firstCells, Nat.mul_one] at hf
  refine ok_here hs (v := .string (ns.foldl (fun r n => r.push (UInt8.ofNat n.toNat)) .empty)) (by
    simp only [execOp, hop, Sem.run_bind, e1, run_convert_bytes_string w src dst e _ _ _ h1 h3 h2, run_bytesToString w _ n cap ns hf, Result.andThen_ok, Sem.run_pure]) ?_
  unfold VR
  refine ⟨?_, rfl⟩
  simp only [E.den, hd, Prim.den, List.foldl_map]
  rfl
theorem litOf_sound (hs : Sim G B0 w0 w s M) {kd : IntKind} {e : E} {n i : Nat} {v : Value} (h : litOf s.k kd e n = some i) (hv : VR w s M (.x (.i kd) e) v) : v = .int kd i := by
  have h1 := List.find?_some h
  have h2 := fact_of hs h1
  unfold VR at hv
  obtain ⟨g1, g2⟩ := hv
  obtain ⟨z, rfl⟩ := tyV_int g2
  simp only [E.den, E.denL, Prim.den, g1] at h2
  have h3 := ofBool_true h2
  have h4 : z = (i : Int) := by simpa [cmpI, D.int] using h3
  rw [h4]
theorem evSym_sound {o : Oper} {a : Act} {T : Tm} {x : AV} {s' : St} (hs : Sim G B0 w0 w s M) (hT : TmR w s M T a) (h : evSym P G o T s = some (x, s')) : OpOk P G B0 w0 w s M o a x s' := by
  unfold evSym at h
  split at h
  · rename_i src dst y hop
    split at h
    · rename_i e g1 g2
      split at h
      · rename_i g3
        simp only [Option.bind_eq_bind, Option.bind_eq_some_iff] at h
        obtain ⟨c, h1, h⟩ := h
        split at h
        · simp only [Option.bind_eq_some_iff, Option.pure_def, Option.some.injEq, Prod.mk.injEq] at h
          obtain ⟨p, h2, es, h3, rfl, rfl⟩ := h
          exact s_bytes_sym hs hT hop g1 g2 g3 h1 (by rw [h2]) h3
        · cases h
      · cases h
    · cases h
  · rename_i t y ix hop
    split at h
    · rename_i el hu
      simp only [Option.bind_eq_bind, Option.bind_eq_some_iff] at h
      obtain ⟨v, h1, c, h2, size, h3, h⟩ := h
      split at h
      · simp only [Option.bind_eq_some_iff] at h
        obtain ⟨i, h4, h⟩ := h
        split at h
        · rename_i hlt
          simp only [Option.pure_def, Option.some.injEq, Prod.mk.injEq] at h
          obtain ⟨rfl, rfl⟩ := h
          exact s_indexAddrV hs hT hop (litOf_sound hs h4 (opd_sound hs hT h1)) (Int.natCast_nonneg _) (Int.toNat_natCast _) h3 h2 (.inl ⟨hu, .inl ⟨_, _, _, rfl, Nat.le_of_ble_eq_true hlt, rfl⟩⟩)
        · cases h
      · simp only [Option.bind_eq_some_iff] at h
        obtain ⟨i, h4, h⟩ := h
        split at h
        · rename_i hlt
          simp only [Option.pure_def, Option.some.injEq, Prod.mk.injEq] at h
          obtain ⟨rfl, rfl⟩ := h
          exact s_indexAddrV hs hT hop (litOf_sound hs h4 (opd_sound hs hT h1)) (Int.natCast_nonneg _) (Int.toNat_natCast _) h3 h2 (.inl ⟨hu, .inr (.inl ⟨_, _, _, rfl, Nat.le_of_ble_eq_true hlt, rfl⟩)⟩)
        · cases h
      · simp only [Option.bind_eq_some_iff] at h
        obtain ⟨i, h4, h⟩ := h
        split at h
        · rename_i hlt
          simp only [Option.pure_def, Option.some.injEq, Prod.mk.injEq] at h
          obtain ⟨rfl, rfl⟩ := h
          exact s_indexAddrV hs hT hop (litOf_sound hs h4 (opd_sound hs hT h1)) (Int.natCast_nonneg _) (Int.toNat_natCast _) h3 h2 (.inl ⟨hu, .inr (.inr ⟨_, _, rfl, Nat.le_of_ble_eq_true hlt, rfl⟩)⟩)
        · cases h
      · cases h
    · rename_i len el hu
      simp only [Option.bind_eq_bind, Option.bind_eq_some_iff] at h
      obtain ⟨v, h1, c, h2, size, h3, h⟩ := h
      split at h
      · simp only [Option.bind_eq_some_iff] at h
        obtain ⟨i, h4, h⟩ := h
        split at h
        · rename_i hlt
          simp only [Option.pure_def, Option.some.injEq, Prod.mk.injEq] at h
          obtain ⟨rfl, rfl⟩ := h
          exact s_indexAddrV hs hT hop (litOf_sound hs h4 (opd_sound hs hT h1)) (Int.natCast_nonneg _) (Int.toNat_natCast _) h3 h2 (.inr ⟨_, hu, Nat.le_of_ble_eq_true hlt, .inl ⟨_, rfl, rfl⟩⟩)
        · cases h
      · simp only [Option.bind_eq_some_iff] at h
        obtain ⟨i, h4, h⟩ := h
        split at h
        · rename_i hlt
          simp only [Option.pure_def, Option.some.injEq, Prod.mk.injEq] at h
          obtain ⟨rfl, rfl⟩ := h
          exact s_indexAddrV hs hT hop (litOf_sound hs h4 (opd_sound hs hT h1)) (Int.natCast_nonneg _) (Int.toNat_natCast _) h3 h2 (.inr ⟨_, hu, Nat.le_of_ble_eq_true hlt, .inr ⟨_, _, rfl, rfl⟩⟩)
        · cases h
      · cases h
    · cases h
  · rename_i t y ix ok hop
    simp only [Option.bind_eq_bind, Option.bind_eq_some_iff, Option.pure_def, Option.some.injEq, Prod.mk.injEq] at h
    obtain ⟨c, h1, i, h2, r, h3, rfl, rfl⟩ := h
    exact s_symLookup hs hT hop h1 h2 h3
  · rename_i t m k y hop
    simp only [Option.bind_eq_bind, Option.bind_eq_some_iff, Option.pure_def, Option.some.injEq, Prod.mk.injEq] at h
    obtain ⟨c, h1, i, h2, r, h3, s2, h4, rfl, rfl⟩ := h
    exact s_symUpdate hs hT (.inl hop) h1 h2 h3 h4
  · rename_i t m k y hop
    simp only [Option.bind_eq_bind, Option.bind_eq_some_iff, Option.pure_def, Option.some.injEq, Prod.mk.injEq] at h
    obtain ⟨c, h1, i, h2, r, h3, s2, h4, rfl, rfl⟩ := h
    exact s_symUpdate hs hT (.inr hop) h1 h2 h3 h4
  · rename_i c hop
    split at h
    · rename_i hc
      simp only [Option.bind_eq_bind, Option.bind_eq_some_iff] at h
      obtain ⟨t0, h1, t1, h2, h⟩ := h
      split at h
      · rename_i e el1 ox oy hu hu1 hargs
        simp only [Option.bind_eq_some_iff] at h
        obtain ⟨p, h3, q, h4, h⟩ := h
        exact s_symAppend hs hT hop hc h1 h2 hu hu1 hargs h3 h4 h
      · cases h
    · rename_i hc
      simp only [Option.bind_eq_bind, Option.bind_eq_some_iff] at h
      obtain ⟨t0, h1, h⟩ := h
      split at h
      · rename_i k e ox hu hargs
        simp only [Option.bind_eq_some_iff] at h
        obtain ⟨p, h3, h⟩ := h
        split at h
        · split at h
          · rename_i kt ct em hg
            simp only [Option.pure_def, Option.some.injEq, Prod.mk.injEq] at h
            obtain ⟨rfl, rfl⟩ := h
            exact s_symLen hs hT hop hc h1 hargs h3 hg hu
          · cases h
        · cases h
      · cases h
    · cases h
  · cases h
end
end Go.Ab
