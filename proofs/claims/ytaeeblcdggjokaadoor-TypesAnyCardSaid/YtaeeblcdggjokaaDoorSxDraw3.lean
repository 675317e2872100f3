/- Regions whose order is drawn, evaluated: the proof. -/
import Derived.Test.YtaeeblcdggjokaaDoorSxComm
namespace Go.Ab
set_option linter.unusedVariables false
set_option linter.unusedSimpArgs false
set_option linter.unusedSectionVars false
set_option linter.constructorNameAsVariable false
open Go Go.RowKit

section
variable [Interp] [fgI : Fg] {P : Program} {G : Nat → Option (List AV)} {call : Ab.Call} {ops : Array Oper}

theorem cnt_succ (f : Nat → Bool) (i : Nat) : cnt P ops f (i + 1) = cnt P ops f i + if effAt P ops i && f i then 1 else 0 := by
  unfold cnt
  rw [List.range_succ, List.countP_append, List.countP_singleton]
theorem cnt_mono {f g : Nat → Bool} (n : Nat) (h : ∀ j, j < n → effAt P ops j = true → f j = true → g j = true) : cnt P ops f n ≤ cnt P ops g n := by
  unfold cnt
  refine List.countP_mono_left fun j hj hf => ?_
  rw [Bool.and_eq_true] at hf ⊢
  exact ⟨hf.1, h j (List.mem_range.1 hj) hf.1 hf.2⟩
theorem cnt_le {f : Nat → Bool} : ∀ {i n : Nat}, i ≤ n → cnt P ops f i ≤ cnt P ops f n
  | i, 0, h => by have : i = 0 := by omega
                  subst this; exact Nat.le_refl _
  | i, n + 1, h => by
    by_cases e : i = n + 1
    · subst e; exact Nat.le_refl _
    · rw [cnt_succ]; have := cnt_le (f := f) (i := i) (n := n) (by omega); omega
theorem cnt_congr {f g : Nat → Bool} (n : Nat) (h : ∀ j, j < n → effAt P ops j = true → f j = g j) : cnt P ops f n = cnt P ops g n :=
  Nat.le_antisymm (cnt_mono n fun j h1 h2 h3 => by rw [← h j h1 h2]; exact h3) (cnt_mono n fun j h1 h2 h3 => by rw [h j h1 h2]; exact h3)
theorem cnt_stop {f : Nat → Bool} {i : Nat} : ∀ {n : Nat}, i ≤ n → (∀ j, i ≤ j → j < n → effAt P ops j = true → f j = false) → cnt P ops f n = cnt P ops f i
  | 0, h, _ => by have : i = 0 := by omega
                  subst this; rfl
  | n + 1, h, hf => by
    by_cases e : i = n + 1
    · subst e; rfl
    · rw [cnt_succ, cnt_stop (n := n) (by omega) fun j h1 h2 h3 => hf j h1 (by omega) h3]
      cases he : effAt P ops n with
      | false => simp
      | true => rw [hf n (by omega) (by omega) he]; simp
theorem cnt_add {f g : Nat → Bool} {i : Nat} : ∀ {n : Nat}, i < n → f i = false → g i = true → (∀ j, j ≠ i → g j = f j) → cnt P ops g n = cnt P ops f n + if effAt P ops i then 1 else 0
  | 0, h, _, _, _ => by omega
  | n + 1, h, h1, h2, h3 => by
    rw [cnt_succ, cnt_succ]
    by_cases e : i = n
    · subst e
      rw [h1, h2, cnt_congr (f := g) (g := f) i fun j hj _ => h3 j (by omega)]
      simp
    · rw [cnt_add (n := n) (by omega) h1 h2 h3, h3 n (Ne.symm e)]
      omega

theorem putT_some {T T' : Tm} {d : Option Nat} {x : AV} (h : putT T d x = some T') : T'.n = T.n ∧ (∀ t, gt T' t = if d = some t then x else gt T t) ∧ ∀ q, d = some q → q + 1 ≤ T.n ∧ T.n ≤ Tr.lid := by
  cases d with
  | none => simp only [putT, Option.some.injEq] at h; subst h; exact ⟨rfl, fun t => by simp, fun q hq => by cases hq⟩
  | some d =>
    simp only [putT] at h
    split at h
    · rename_i hb
      simp only [Option.some.injEq] at h
      rw [Bool.and_eq_true] at hb
      have h1 := Nat.le_of_ble_eq_true hb.1
      have h2 := Nat.le_of_ble_eq_true hb.2
      subst h
      refine ⟨rfl, fun t => ?_, fun q hq => by cases hq; exact ⟨h1, h2⟩⟩
      simp only [gt]
      rw [Tr.get_set _ _ _ _ (by omega)]
      by_cases e : t = d
      · subst e; simp
      · rw [if_neg e, if_neg (by simp; exact Ne.symm e)]
    · cases h
theorem putT_of {T : Tm} {d : Option Nat} (x : AV) (h : ∀ q, d = some q → q + 1 ≤ T.n ∧ T.n ≤ Tr.lid) : ∃ T', putT T d x = some T' := by
  cases d with
  | none => exact ⟨T, rfl⟩
  | some d =>
    obtain ⟨h1, h2⟩ := h d rfl
    exact ⟨_, by simp only [putT]; rw [if_pos (by rw [Bool.and_eq_true]; exact ⟨Nat.ble_eq_true_of_le h1, Nat.ble_eq_true_of_le h2⟩)]⟩

structure Static [Fg] (P : Program) (pr : Option (Nat × Nat)) (ops : Array Oper) : Prop where
  back : Back ops
  read : ∀ (i : Nat) (o : Oper), ops[i]? = some o → ∀ t, t ∈ readsOf ops o → ∀ (j : Nat) (q : Oper), ops[j]? = some q → dstIs q t = true → bitOf (masks ops) i j = true ∨ bitOf (masks ops) j i = true ∨ i = j
  dst : ∀ (i : Nat) (o : Oper) (d : Nat), ops[i]? = some o → o.dst = some d → ∀ (j : Nat) (q : Oper), ops[j]? = some q → dstIs q d = true → i = j
  eff : ∀ (i : Nat) (o : Oper), ops[i]? = some o → eff P o = true → ∀ (j : Nat) (q : Oper), ops[j]? = some q → Go.Ab.eff P q = true → i ≤ j ∨ bitOf (masks ops) i j = true ∨ pr = some (j, i)
theorem and_nbe' {a b c d : Nat} (h : (Nat.beq a b && Nat.beq c d) = true) : a = b ∧ c = d := by
  rw [Bool.and_eq_true] at h
  exact ⟨nbe h.1, nbe h.2⟩
theorem static_of {pr : Option (Nat × Nat)} (h : drawStatic P pr ops = true) : Static P pr ops := by
  unfold drawStatic at h
  simp only [List.all_eq_true] at h
  have mem : ∀ (i : Nat) (o : Oper), ops[i]? = some o → (o, i) ∈ ops.toList.zipIdx := fun i o ho => by
    rw [List.mk_mem_zipIdx_iff_getElem?, Array.getElem?_toList]; exact ho
  refine ⟨fun i o ho e he hbe => ?_, fun i o ho t ht j q hq hd => ?_, fun i o d ho hod j q hq hd => ?_, fun i o ho he j q hq hqe => ?_⟩
  · have := h _ (mem i o ho)
    simp only [Bool.and_eq_true, List.all_eq_true] at this
    have h1 := this.1.1.1 e he
    rw [hbe] at h1
    exact Nat.le_of_ble_eq_true (by simpa using h1)
  · have := h _ (mem i o ho)
    simp only [Bool.and_eq_true, List.all_eq_true] at this
    have := this.1.1.2 t ht _ (mem j q hq)
    simp only [hd, Bool.not_true, Bool.false_or, Bool.or_eq_true] at this
    rcases this with (h | h) | h
    · exact .inl h
    · exact .inr (.inl h)
    · exact .inr (.inr (nbe h))
  · have := h _ (mem i o ho)
    simp only [Bool.and_eq_true] at this
    have := this.1.2
    rw [hod] at this
    simp only [List.all_eq_true] at this
    have := this _ (mem j q hq)
    simp only [hd, Bool.not_true, Bool.or_false] at this
    exact nbe this
  · have := h _ (mem i o ho)
    simp only [Bool.and_eq_true] at this
    have := this.2
    simp only [he, Bool.not_true, Bool.false_or, List.all_eq_true] at this
    have := this _ (mem j q hq)
    simp only [hqe, Bool.not_true, Bool.false_or, Bool.or_eq_true] at this
    rcases this with (h | h) | h
    · exact .inl (Nat.le_of_ble_eq_true h)
    · exact .inr (.inl h)
    · refine .inr (.inr ?_)
      unfold isPair at h
      split at h
      · obtain ⟨h1, h2⟩ := and_nbe' h
        rw [h1, h2]
      · cases h

theorem mem_tmpsOf : ∀ {l : List Operand} {t : Nat}, Operand.tmp t ∈ l → t ∈ tmpsOf l
  | x :: r, t, h => by
    rw [List.mem_cons] at h
    rcases h with rfl | h
    · simp [tmpsOf]
    · have := mem_tmpsOf h
      cases x <;> simp [tmpsOf, this]
theorem reads_agree {o : Oper} {T T' : Tm} {s : St} (hmu : T.mu = T'.mu) (h : ∀ t, t ∈ readsOf ops o → gt T t = gt T' t) : evOp P G call o T s = evOp P G call o T' s ∧ Region.wanted o (yieldedA ops T) = Region.wanted o (yieldedA ops T') ∧ gk ops T o = gk ops T' o := by
  refine ⟨evOp_congr hmu fun x hx => ?_, ?_, ?_⟩
  · cases x with
    | tmp t => simp only [opd]; rw [h t (by unfold readsOf; rw [List.mem_append]; exact .inl (mem_tmpsOf hx))]
    | _ => rfl
  · unfold Region.wanted
    cases hg : o.guard with
    | none => rfl
    | some p =>
      obtain ⟨j, want⟩ := p
      simp only
      have : yieldedA ops T j = yieldedA ops T' j := by
        unfold yieldedA
        cases hd : (ops[j]?).bind (·.dst) with
        | none => rfl
        | some d =>
          simp only
          rw [h d (by unfold readsOf; rw [List.mem_append, hg]; simp [hd])]
      rw [this]
  · unfold gk
    cases hg : o.guard with
    | none => rfl
    | some p =>
      obtain ⟨j, want⟩ := p
      simp only
      cases hd : (ops[j]?).bind (·.dst) with
      | none => rfl
      | some d =>
        simp only
        rw [h d (by unfold readsOf; rw [List.mem_append, hg]; simp [hd])]

theorem dstIs_iff {o : Oper} {t : Nat} : dstIs o t = true ↔ o.dst = some t := by
  unfold dstIs
  cases o.dst with
  | none => simp
  | some d => simp only [Option.some.injEq]; exact ⟨nbe, fun h => by rw [h]; exact nbt _⟩

theorem putT_rest {T T' : Tm} {d : Option Nat} {x : AV} (h : putT T d x = some T') : T'.ds = T.ds ∧ T'.dl = T.dl ∧ T'.mu = T.mu := by
  cases d with
  | none => simp only [putT, Option.some.injEq] at h; rw [h]; exact ⟨rfl, rfl, rfl⟩
  | some d =>
    simp only [putT] at h
    split at h
    · simp only [Option.some.injEq] at h; rw [← h]; exact ⟨rfl, rfl, rfl⟩
    · cases h
theorem put_pan {T T' : Tm} {d : Option Nat} {x : AV} (h : (if (isPan x).isNone then putT T d x else none) = some T') : isPan x = none ∧ putT T d x = some T' := by
  split at h
  · rename_i hx; exact ⟨by simpa using hx, h⟩
  · cases h
theorem put_pan_of {T : Tm} {d : Option Nat} {x : AV} (h : isPan x = none) : (if (isPan x).isNone then putT T d x else none) = putT T d x := by rw [h]; rfl
theorem rec_rest : ∀ {l : List Nat} {T Tf : Tm} {s sf : St} {Ts : List Tm} {ss : List St}, evRec P G call ops l T s = some (Ts, Tf, ss, sf) → Tf.ds = T.ds ∧ Tf.dl = T.dl ∧ Tf.mu = T.mu
  | [], T, Tf, s, sf, Ts, ss, h => by simp only [evRec, Option.some.injEq, Prod.mk.injEq] at h; rw [h.2.1]; exact ⟨rfl, rfl, rfl⟩
  | i :: rest, T, Tf, s, sf, Ts, ss, h => by
    unfold evRec at h
    split at h
    · cases h
    · split at h
      · cases h
      · split at h
        · cases h
        · rename_i hp
          split at h
          · cases h
          · rename_i hr
            cases h
            obtain ⟨a1, a2, a3⟩ := rec_rest hr
            obtain ⟨b1, b2, b3⟩ := putT_rest (put_pan hp).2
            exact ⟨a1.trans b1, a2.trans b2, a3.trans b3⟩
theorem ops0_rest : ∀ {l : List Nat} {T T' : Tm} {s s' : St}, evOps0 P G call ops l T s = some (T', s') → T'.ds = T.ds ∧ T'.dl = T.dl ∧ T'.mu = T.mu
  | [], T, T', s, s', h => by simp only [evOps0, Option.some.injEq, Prod.mk.injEq] at h; rw [h.1]; exact ⟨rfl, rfl, rfl⟩
  | i :: rest, T, T', s, s', h => by
    unfold evOps0 at h
    split at h
    · cases h
    · split at h
      · split at h
        · split at h
          · rename_i hp
            obtain ⟨a1, a2, a3⟩ := ops0_rest h
            obtain ⟨b1, b2, b3⟩ := putT_rest (put_pan hp).2
            exact ⟨a1.trans b1, a2.trans b2, a3.trans b3⟩
          · cases h
        · cases h
      · split at h
        · rename_i hp
          obtain ⟨a1, a2, a3⟩ := ops0_rest h
          obtain ⟨b1, b2, b3⟩ := putT_rest hp
          exact ⟨a1.trans b1, a2.trans b2, a3.trans b3⟩
        · cases h
theorem ops0_ops : ∀ {l : List Nat} {T T' : Tm} {s s' : St}, evOps0 P G call ops l T s = some (T', s') → evOps P G call false ops l T s = some (none, T', s')
  | [], T, T', s, s', h => by simp only [evOps0, Option.some.injEq, Prod.mk.injEq] at h; obtain ⟨rfl, rfl⟩ := h; rfl
  | i :: rest, T, T', s, s', h => by
    unfold evOps0 at h
    unfold evOps
    split at h
    · cases h
    · rename_i o hfo
      rw [hfo]
      simp only
      split at h
      · rename_i hw
        rw [if_pos hw]
        split at h
        · rename_i x s1 hx
          split at h
          · rename_i T1 hp
            obtain ⟨hpan, hp⟩ := put_pan hp
            have ih := ops0_ops h
            split
            · rename_i c hop
              simp only [evOp, evOp1, evSym, hop, reduceCtorEq] at hx
            · rw [hx]
              simp only [hpan, hp]
              exact ih
          · cases h
        · cases h
      · rename_i hw
        rw [if_neg hw]
        split at h
        · rename_i T1 hp
          rw [hp]
          exact ops0_ops h
        · cases h

theorem rec_frame : ∀ {l : List Nat} {T Tf : Tm} {s sf : St} {Ts : List Tm} {ss : List St}, evRec P G call ops l T s = some (Ts, Tf, ss, sf) → Tf.n = T.n ∧ ∀ t, (∀ i ∈ l, ∀ o, ops[i]? = some o → o.dst ≠ some t) → gt Tf t = gt T t
  | [], T, Tf, s, sf, Ts, ss, h => by simp only [evRec, Option.some.injEq, Prod.mk.injEq] at h; obtain ⟨_, rfl, _⟩ := h; exact ⟨rfl, fun _ _ => rfl⟩
  | i :: rest, T, Tf, s, sf, Ts, ss, h => by
    unfold evRec at h
    split at h
    · cases h
    · rename_i o hfo
      obtain ⟨ho, hgk⟩ := fetch_some hfo
      split at h
      · cases h
      · rename_i x s' hx
        split at h
        · cases h
        · rename_i T' hp
          split at h
          · cases h
          · rename_i Ts2 T2 ss2 sf2 hr
            cases h
            obtain ⟨k1, k2⟩ := rec_frame hr
            obtain ⟨p1, p2, _⟩ := putT_some (put_pan hp).2
            refine ⟨k1.trans p1, fun t ht => ?_⟩
            rw [k2 t fun j hj => ht j (by simp [hj]), p2 t, if_neg (ht i (by simp) o ho)]

theorem bit_lt' {pr : Option (Nat × Nat)} (hst : Static P pr ops) {i j : Nat} {o : Oper} (hi : ops[i]? = some o) (hb : bitOf (masks ops) i j = true) : j < i :=
  bit_lt hst.back (Array.getElem?_eq_some_iff.1 hi).1 hb

/-- What the text's order makes, told of the end's temporaries. -/
theorem rec_cert {pr : Option (Nat × Nat)} (hst : Static P pr ops) (hfg : Fg.fg = true → ∃ c0, call = fgCall c0) : ∀ (m i : Nat) {T Tf : Tm} {s sf : St} {Ts : List Tm} {ss : List St}, T.mu.2 = true → i + m = ops.size → evRec P G call ops (List.range' i m) T s = some (Ts, Tf, ss, sf) →
    (s :: ss)[cnt P ops (fun _ => true) ops.size - cnt P ops (fun _ => true) i]? = some sf ∧ (s :: ss).length = cnt P ops (fun _ => true) ops.size - cnt P ops (fun _ => true) i + 1 ∧
    ∀ k, i ≤ k → k < ops.size → ∃ o x sk sk' Tk, ops[k]? = some o ∧ Ts[k - i]? = some Tk ∧ Tk.mu = T.mu ∧ (∀ t, (∀ j q, k ≤ j → ops[j]? = some q → q.dst ≠ some t) → gt Tf t = gt Tk t) ∧ (∀ t, (∀ j q, i ≤ j → j < k → ops[j]? = some q → q.dst ≠ some t) → gt Tk t = gt T t) ∧ (s :: ss)[cnt P ops (fun _ => true) k - cnt P ops (fun _ => true) i]? = some sk ∧ (s :: ss)[cnt P ops (fun _ => true) (k + 1) - cnt P ops (fun _ => true) i]? = some sk' ∧
      (Region.wanted o (yieldedA ops Tk) = true → evOp P G call o Tk sk = some (x, sk')) ∧ isPan x = none ∧ (Region.wanted o (yieldedA ops Tk) = false → x = und ∧ sk' = sk) ∧ ∀ d, o.dst = some d → gt Tf d = x ∧ d + 1 ≤ Tf.n ∧ Tf.n ≤ Tr.lid
  | 0, i, T, Tf, s, sf, Ts, ss, hpu, hm, h => by
    simp only [List.range'_zero, evRec, Option.some.injEq, Prod.mk.injEq] at h
    obtain ⟨rfl, rfl, rfl, rfl⟩ := h
    have : i = ops.size := by omega
    subst this
    exact ⟨by simp, by simp, fun k h1 h2 => by omega⟩
  | m + 1, i, T, Tf, s, sf, Ts, ss, hpu, hm, h => by
    have h0 := h
    rw [List.range'_succ] at h
    unfold evRec at h
    split at h
    · cases h
    · rename_i o hfo
      obtain ⟨ho, hgk⟩ := fetch_some hfo
      split at h
      · cases h
      · rename_i x s' hx
        split at h
        · cases h
        · rename_i T' hp
          split at h
          · cases h
          · rename_i Ts2 T2 ss2 sf2 hr
            cases h
            obtain ⟨hpan, hp⟩ := put_pan hp
            obtain ⟨p1, p2, p3⟩ := putT_some hp
            obtain ⟨f1, f2⟩ := rec_frame hr
            obtain ⟨g1, g2⟩ := rec_frame h0
            obtain ⟨ih1, ih2, ih3⟩ := rec_cert hst hfg m (i + 1) (by rw [(putT_rest hp).2.2]; exact hpu) (by omega) hr
            have hE : cnt P ops (fun _ => true) (i + 1) = cnt P ops (fun _ => true) i + if eff P o then 1 else 0 := by
              rw [cnt_succ]; simp [effAt, ho]
            have hxdst : ∀ d, o.dst = some d → gt Tf d = x := fun d hd => by
              rw [f2 d fun j hj q hq he => ?_, p2 d, if_pos hd]
              have := hst.dst i o d ho hd j q hq (dstIs_iff.2 he)
              rw [List.mem_range'_1] at hj
              omega
            have hnoeff : eff P o = false → s' = s := fun he => by
              split at hx
              · exact noneff_state hfg hpu he hx
              · cases hx; rfl
            -- the list of states, seen from here
            have hlook : ∀ k, i + 1 ≤ k → (s :: (if eff P o then s' :: ss2 else ss2))[cnt P ops (fun _ => true) k - cnt P ops (fun _ => true) i]? = (s' :: ss2)[cnt P ops (fun _ => true) k - cnt P ops (fun _ => true) (i + 1)]? := fun k hk => by
              have hle : cnt P ops (fun _ => true) (i + 1) ≤ cnt P ops (fun _ => true) k := cnt_le hk
              cases he : eff P o with
              | true =>
                rw [he] at hE; simp only [if_true] at hE ⊢
                rw [show cnt P ops (fun _ => true) k - cnt P ops (fun _ => true) i = (cnt P ops (fun _ => true) k - cnt P ops (fun _ => true) (i + 1)) + 1 by omega, List.getElem?_cons_succ]
              | false =>
                rw [he] at hE; simp only [Bool.false_eq_true, if_false, Nat.add_zero] at hE ⊢
                rw [hE, hnoeff he]
            refine ⟨by rw [hlook ops.size (by omega)]; exact ih1, ?_, fun k h1 h2 => ?_⟩
            · have hle : cnt P ops (fun _ => true) (i + 1) ≤ cnt P ops (fun _ => true) ops.size := cnt_le (by omega)
              cases he : eff P o with
              | true => rw [he] at hE; simp only [if_true] at hE ⊢; simp only [List.length_cons] at ih2 ⊢; omega
              | false => rw [he] at hE; simp only [Bool.false_eq_true, if_false, Nat.add_zero] at hE ⊢; simp only [List.length_cons] at ih2 ⊢; omega
            · by_cases e : k = i
              · subst e
                refine ⟨o, x, s, s', T, ho, by simp, rfl, fun t ht => ?_, fun t _ => rfl, by simp, ?_, fun hw => ?_, hpan, fun hw => ?_, fun d hd => ⟨hxdst d hd, ?_⟩⟩
                · exact g2 t fun j hj q hq => ht j q (by rw [List.mem_range'_1] at hj; exact hj.1) hq
                · rw [hlook (k + 1) (Nat.le_refl _)]; simp
                · rw [if_pos hw] at hx; exact hx
                · rw [hw] at hx; simp only [Bool.false_eq_true, if_false, Option.some.injEq, Prod.mk.injEq] at hx; exact ⟨hx.1.symm, hx.2.symm⟩
                · rw [g1]; exact p3 d hd
              · obtain ⟨o', x', sk, sk', Tk, c1, d1, d2, d3, d4, c2, c3, c4, c4', c5, c6⟩ := ih3 k (by omega) h2
                refine ⟨o', x', sk, sk', Tk, c1, ?_, d2.trans (putT_rest hp).2.2, d3, fun t ht => ?_, by rw [hlook k (by omega)]; exact c2, by rw [hlook (k + 1) (by omega)]; exact c3, c4, c4', c5, c6⟩
                · rw [show k - i = (k - (i + 1)) + 1 by omega, List.getElem?_cons_succ]; exact d1
                · rw [d4 t fun j q h1' h2' hq => ht j q (by omega) h2' hq, p2 t, if_neg (ht i o (Nat.le_refl _) (by omega) ho)]

theorem rec_gk : ∀ (m i : Nat) {T Tf : Tm} {s sf : St} {Ts : List Tm} {ss : List St}, evRec P G call ops (List.range' i m) T s = some (Ts, Tf, ss, sf) →
    ∀ (k : Nat) (o : Oper) (Tk : Tm), i ≤ k → k < i + m → ops[k]? = some o → Ts[k - i]? = some Tk → gk ops Tk o = true
  | 0, i, T, Tf, s, sf, Ts, ss, h => fun k o Tk h1 h2 => by omega
  | m + 1, i, T, Tf, s, sf, Ts, ss, h => by
    rw [List.range'_succ] at h
    unfold evRec at h
    split at h
    · cases h
    · rename_i o0 hfo
      obtain ⟨ho0, hgk⟩ := fetch_some hfo
      split at h
      · cases h
      · split at h
        · cases h
        · split at h
          · cases h
          · rename_i Ts2 T2 ss2 sf2 hr
            cases h
            intro k o Tk h1 h2 ho hT
            by_cases e : k = i
            · subst e
              rw [Nat.sub_self] at hT
              simp only [List.getElem?_cons_zero, Option.some.injEq] at hT
              rw [ho0] at ho; cases ho
              rw [← hT]; exact hgk
            · rw [show k - i = (k - (i + 1)) + 1 by omega, List.getElem?_cons_succ] at hT
              exact rec_gk m (i + 1) hr k o Tk (by omega) (by omega) ho hT
theorem pair_facts {Ts : List Tm} {Tf : Tm} {sts : List St} {p q : Nat} (h : pairOk P G call ops Ts Tf sts (some (p, q)) = true) :
    ∃ op oq Tp Tq sp y alt, ops[p]? = some op ∧ ops[q]? = some oq ∧ Ts[p]? = some Tp ∧ Ts[q]? = some Tq ∧ Region.wanted op (yieldedA ops Tp) = true ∧ Region.wanted oq (yieldedA ops Tq) = true ∧ cnt P ops (fun _ => true) q = cnt P ops (fun _ => true) p + 1 ∧ p < q ∧ eff P op = true ∧ eff P oq = true ∧
      (∃ b c, storeTo G Tp op = some b ∧ storeTo G Tq oq = some c ∧ b ≠ c ∧ b < Tr.lid ∧ c < Tr.lid) ∧ sts[cnt P ops (fun _ => true) p]? = some sp ∧ evOp P G call oq Tq sp = some (y, alt) ∧
      ∀ i o, ops[i]? = some o → eff P o = false → ∀ Ti, Ts[i]? = some Ti → Region.wanted o (yieldedA ops Ti) = true → bitOf (masks ops) i p = false → bitOf (masks ops) q i = false → ∃ y s1, evOp P G call o Ti alt = some (y, s1) ∧ isPan y = none ∧ ∀ d, o.dst = some d → y = gt Tf d := by
  unfold pairOk at h
  simp only at h
  split at h
  · rename_i op oq Tp Tq f1 f2 f3 f4
    simp only [Bool.and_eq_true] at h
    obtain ⟨⟨⟨⟨⟨⟨w1, w2⟩, hc⟩, hpq⟩, ep⟩, eq⟩, hrest⟩ := h
    split at hrest
    · rename_i sp hsp
      split at hrest
      · rename_i y alt halt
        simp only [Bool.and_eq_true] at hrest
        obtain ⟨hst, hrest⟩ := hrest
        refine ⟨op, oq, Tp, Tq, sp, y, alt, f1, f2, f3, f4, w1, w2, nbe hc, Nat.le_of_ble_eq_true hpq, ep, eq, ?_, hsp, halt, fun i o ho he Ti hTi hw h1 h2 => ?_⟩
        · split at hst
          · rename_i b c hb hcc
            simp only [Bool.and_eq_true, Bool.not_eq_true'] at hst
            obtain ⟨⟨hne, hbl⟩, hcl⟩ := hst
            exact ⟨b, c, hb, hcc, (fun e => by rw [e, nbt] at hne; cases hne), Nat.le_of_ble_eq_true hbl, Nat.le_of_ble_eq_true hcl⟩
          · cases hst
        · rw [List.all_eq_true] at hrest
          have := hrest (o, i) (by rw [List.mk_mem_zipIdx_iff_getElem?, Array.getElem?_toList]; exact ho)
          simp only [hTi, he, hw, h1, h2, Bool.not_true, Bool.false_or] at this
          split at this
          · rename_i y1 s1 hy
            rw [Bool.and_eq_true] at this
            refine ⟨y1, s1, hy, by simpa using this.1, fun d hd => ?_⟩
            have this := this.2
            rw [hd] at this
            exact aEq_eq this
          · cases this
      · cases hrest
    · cases hrest
  · cases h
/-- The state behind what is done. -/
def Beh (P : Program) (G : Nat → Option (List AV)) (call : Ab.Call) (ops : Array Oper) (Ts : List Tm) (sts : List St) (pr : Option (Nat × Nat)) (D : List Nat) (s : St) : Prop :=
  (∀ p q, pr = some (p, q) → q ∈ D → p ∉ D → ∀ oq Tq sp y alt, ops[q]? = some oq → Ts[q]? = some Tq → sts[cnt P ops (fun _ => true) p]? = some sp → evOp P G call oq Tq sp = some (y, alt) → s = alt) ∧
  ((∀ p q, pr = some (p, q) → q ∈ D → p ∉ D → False) → sts[cnt P ops (fun j => decide (j ∈ D)) ops.size]? = some s)
/-- Any order that the edges allow comes to the same. -/
theorem any_order {pr : Option (Nat × Nat)} (hst : Static P pr ops) {T0 Tf : Tm} {s0 sf : St} {Ts : List Tm} {ss : List St} (hrec : evRec P G call ops (List.range ops.size) T0 s0 = some (Ts, Tf, ss, sf)) (hdyn : dynOk P G call ops Ts Tf (s0 :: ss) = true) (hpk : pairOk P G call ops Ts Tf (s0 :: ss) pr = true) (hfg : Fg.fg = true → ∃ c0, call = fgCall c0) (hpu : T0.mu.2 = true) :
    ∀ {L D : List Nat} {T : Tm} {s : St}, Valid ops D L → (∀ i ∈ D, i < ops.size ∧ ∀ o, ops[i]? = some o → ∀ e, e ∈ o.after.toList → Region.binds .any e = true → e.on ∈ D) → T.n = T0.n → T.mu = T0.mu →
      (∀ t, ((∃ j q, j ∈ D ∧ ops[j]? = some q ∧ q.dst = some t) ∧ gt T t = gt Tf t) ∨ (gt T t = gt T0 t ∧ ∀ i ∈ D, ∀ o, ops[i]? = some o → o.dst ≠ some t)) → Beh P G call ops Ts (s0 :: ss) pr D s →
      ∃ T', evOps0 P G call ops L T s = some (T', sf) ∧ T'.n = T0.n ∧ ∀ t, gt T' t = gt Tf t := by
  rw [List.range_eq_range'] at hrec
  obtain ⟨c1, c2, c3⟩ := rec_cert hst hfg ops.size 0 hpu (by omega) hrec
  have cg := rec_gk ops.size 0 hrec
  obtain ⟨fr1, fr2⟩ := rec_frame hrec
  have hz : cnt P ops (fun _ => true) 0 = 0 := rfl
  simp only [hz, Nat.sub_zero] at c1 c2 c3
  intro L
  induction L with
  | nil =>
    intro D T s hv hD hn hmu hg hs
    refine ⟨T, ?_, hn, fun t => ?_⟩
    · have e1 : cnt P ops (fun j => decide (j ∈ D)) ops.size = cnt P ops (fun _ => true) ops.size := cnt_congr _ fun j hj _ => by simpa using hv j hj
      have hs := hs.2 (fun p q e hq hp => by
        obtain ⟨op, oq, Tp, Tq, sp, y, alt, f1, _⟩ := pair_facts (e ▸ hpk)
        exact hp (hv p (Array.getElem?_eq_some_iff.1 f1).1))
      rw [e1, c1] at hs
      cases hs
      rfl
    · rcases hg t with ⟨_, h⟩ | ⟨h, hno⟩
      · exact h
      · rw [h]
        exact (fr2 t fun i hi o ho => hno i (hv i (by rw [List.mem_range'_1] at hi; omega)) o ho).symm
  | cons i rest ih =>
    intro D T s hv hD hn hmu hg hs
    obtain ⟨hi, hnD, hdep, hv'⟩ := hv
    obtain ⟨o, x, sk, sk', Ti, ho, e1, em, e3, e4, k1, k2, k3, kp, k4, k5⟩ := c3 i (Nat.zero_le _) hi
    -- who stands ahead of it is done
    have hdone : ∀ j, bitOf (masks ops) i j = true → j ∈ D := fun j hb =>
      bit_lt_dep (fun k => k ∈ D) hst.back (fun k q hq hk e he hb => (hD k hk).2 q hq e he hb) i j hi hb (fun q hq e he hb => hdep q hq e he hb)
    have hnot : ∀ j, j ∈ D → bitOf (masks ops) j i = false := fun j hj => by
      cases hb : bitOf (masks ops) j i with
      | false => rfl
      | true => exact absurd (bit_lt_dep (fun k => k ∈ D) hst.back (fun k q hq hk e he hb => (hD k hk).2 q hq e he hb) j i (hD j hj).1 hb (fun q hq e he hb => (hD j hj).2 q hq e he hb)) hnD
    have hread : ∀ t, t ∈ readsOf ops o → gt T t = gt Ti t := fun t ht => by
      rcases hg t with ⟨⟨j, q, hj, hq, hd⟩, h⟩ | ⟨h, hno⟩
      · rw [h]
        refine e3 t fun j' q' hj' hq' he => ?_
        have : j = j' := hst.dst j q t hq hd j' q' hq' (dstIs_iff.2 he)
        subst this
        rcases hst.read i o ho t ht j q hq (dstIs_iff.2 hd) with hb | hb | hb
        · have := bit_lt' hst ho hb; omega
        · rw [hnot j hj] at hb; cases hb
        · subst hb; exact hnD hj
      · rw [h]
        refine (e4 t fun j q _ hj hq he => ?_).symm
        rcases hst.read i o ho t ht j q hq (dstIs_iff.2 he) with hb | hb | hb
        · exact hno j (hdone j hb) q hq he
        · have := bit_lt' hst hq hb; omega
        · omega
    obtain ⟨r1, r2, r3⟩ := reads_agree (P := P) (G := G) (call := call) (s := s) (hmu.trans em.symm) hread
    have hgT : gk ops T o = true := by rw [r3]; exact cg i o Ti (Nat.zero_le _) (by omega) ho (by simpa using e1)
    have heffi : effAt P ops i = eff P o := by simp [effAt, ho]
    have hcnt : cnt P ops (fun j => decide (j ∈ i :: D)) ops.size = cnt P ops (fun j => decide (j ∈ D)) ops.size + if eff P o then 1 else 0 := by
      rw [← heffi]
      exact cnt_add hi (by simpa using hnD) (by simp) fun j hj => by simp [hj]
    have hD' : ∀ j ∈ i :: D, j < ops.size ∧ ∀ q, ops[j]? = some q → ∀ e, e ∈ q.after.toList → Region.binds .any e = true → e.on ∈ i :: D := fun j hj => by
      rw [List.mem_cons] at hj
      rcases hj with rfl | hj
      · exact ⟨hi, fun q hq e he hb => List.mem_cons_of_mem _ (hdep q hq e he hb)⟩
      · exact ⟨(hD j hj).1, fun q hq e he hb => List.mem_cons_of_mem _ ((hD j hj).2 q hq e he hb)⟩
    have hput : ∀ y, (∀ d, o.dst = some d → y = gt Tf d) → ∃ T1, putT T o.dst y = some T1 ∧ T1.n = T0.n ∧ T1.mu = T0.mu ∧ ∀ t, ((∃ j q, j ∈ i :: D ∧ ops[j]? = some q ∧ q.dst = some t) ∧ gt T1 t = gt Tf t) ∨ (gt T1 t = gt T0 t ∧ ∀ j ∈ i :: D, ∀ q, ops[j]? = some q → q.dst ≠ some t) := fun y hy => by
      obtain ⟨T1, hp⟩ := putT_of (T := T) (d := o.dst) y fun q hq => by
        have := (k5 q hq).2
        rw [fr1] at this
        rw [hn]; exact this
      obtain ⟨p1, p2, _⟩ := putT_some hp
      refine ⟨T1, hp, p1.trans hn, (putT_rest hp).2.2.trans hmu, fun t => ?_⟩
      rw [p2 t]
      by_cases e : o.dst = some t
      · rw [if_pos e]; exact .inl ⟨⟨i, o, by simp, ho, e⟩, hy t e⟩
      · rw [if_neg e]
        rcases hg t with ⟨⟨j, q, hj, hq, hd⟩, h⟩ | ⟨h, hno⟩
        · exact .inl ⟨⟨j, q, List.mem_cons_of_mem _ hj, hq, hd⟩, h⟩
        · refine .inr ⟨h, fun j hj q hq => ?_⟩
          rw [List.mem_cons] at hj
          rcases hj with rfl | hj
          · rw [ho] at hq; cases hq; exact e
          · exact hno j hj q hq
    have hsucc : cnt P ops (fun _ => true) (i + 1) = cnt P ops (fun _ => true) i + if eff P o then 1 else 0 := by rw [cnt_succ, heffi]; simp
    have hclosed : ∀ k, k ∈ D → ∀ j, bitOf (masks ops) k j = true → j ∈ D := fun k hk j hb =>
      bit_lt_dep (fun k => k ∈ D) hst.back (fun k q hq hk e he hb => (hD k hk).2 q hq e he hb) k j (hD k hk).1 hb (fun q hq e he hb => (hD k hk).2 q hq e he hb)
    have opAt : ∀ {j : Nat}, j < ops.size → effAt P ops j = true → ∃ oj, ops[j]? = some oj ∧ eff P oj = true := fun {j} hj he => by
      refine ⟨ops[j], Array.getElem?_eq_getElem hj, ?_⟩
      simpa [effAt, Array.getElem?_eq_getElem hj] using he
    -- one step
    have stepU : Region.wanted o (yieldedA ops Ti) = false → Beh P G call ops Ts (s0 :: ss) pr (i :: D) s → ∃ T', evOps0 P G call ops (i :: rest) T s = some (T', sf) ∧ T'.n = T0.n ∧ ∀ t, gt T' t = gt Tf t := fun hw hat => by
      obtain ⟨hxu, _⟩ := k4 hw
      obtain ⟨T1, hp, n1, m1, g1⟩ := hput und fun d hd => by rw [← hxu]; exact ((k5 d hd).1).symm
      unfold evOps0
      rw [fetch_of ho hgT]
      simp only
      rw [r2, hw]
      simp only [Bool.false_eq_true, if_false]
      rw [hp]
      exact ih hv' hD' n1 m1 g1 hat
    have stepW : ∀ (y : AV) (s1 : St), Region.wanted o (yieldedA ops Ti) = true → evOp P G call o Ti s = some (y, s1) → isPan y = none → (∀ d, o.dst = some d → y = gt Tf d) → Beh P G call ops Ts (s0 :: ss) pr (i :: D) s1 →
        ∃ T', evOps0 P G call ops (i :: rest) T s = some (T', sf) ∧ T'.n = T0.n ∧ ∀ t, gt T' t = gt Tf t := fun y s1 hw hy hyp hyd hat => by
      obtain ⟨T1, hp, n1, m1, g1⟩ := hput y hyd
      unfold evOps0
      rw [fetch_of ho hgT]
      simp only
      rw [r2, hw]
      simp only [if_true]
      rw [r1, hy]
      simp only
      rw [put_pan_of hyp, hp]
      exact ih hv' hD' n1 m1 g1 hat
    -- the pair's two stores, in the other order
    have swap : ∀ p q, pr = some (p, q) → ∃ op oq Tp Tq sp alt s2 xp xq, ops[p]? = some op ∧ ops[q]? = some oq ∧ Ts[p]? = some Tp ∧ Ts[q]? = some Tq ∧ Region.wanted op (yieldedA ops Tp) = true ∧ Region.wanted oq (yieldedA ops Tq) = true ∧ p < q ∧ eff P op = true ∧ eff P oq = true ∧
        (∀ j, p < j → j < q → effAt P ops j = false) ∧ (s0 :: ss)[cnt P ops (fun _ => true) p]? = some sp ∧ evOp P G call oq Tq sp = some (xq, alt) ∧ evOp P G call op Tp alt = some (xp, s2) ∧ (s0 :: ss)[cnt P ops (fun _ => true) (q + 1)]? = some s2 ∧ isPan xp = none ∧ isPan xq = none ∧
        (∀ d, op.dst = some d → xp = gt Tf d) ∧ (∀ d, oq.dst = some d → xq = gt Tf d) ∧
        (∀ i o, ops[i]? = some o → eff P o = false → ∀ Ti, Ts[i]? = some Ti → Region.wanted o (yieldedA ops Ti) = true → bitOf (masks ops) i p = false → bitOf (masks ops) q i = false → ∃ y s1, evOp P G call o Ti alt = some (y, s1) ∧ isPan y = none ∧ ∀ d, o.dst = some d → y = gt Tf d) := by
      intro p q hpr
      obtain ⟨op, oq, Tp, Tq, sp, y, alt, f1, f2, f3, f4, w1, w2, hcq, hpq, ep, eq, hkind, hsp, halt, hoth⟩ := pair_facts (hpr ▸ hpk)
      have hp1 : cnt P ops (fun _ => true) (p + 1) = cnt P ops (fun _ => true) p + 1 := by rw [cnt_succ]; simp [effAt, f1, ep]
      obtain ⟨o1, x1, a1, a1', T1, u1, u2, _, _, _, u6, u7, u8, u9, _, u11⟩ := c3 p (Nat.zero_le _) (Array.getElem?_eq_some_iff.1 f1).1
      rw [f1] at u1; cases u1
      rw [f3] at u2; cases u2
      rw [hsp] at u6; cases u6
      obtain ⟨o2, x2, a2, a2', T2, v1, v2, _, _, _, v6, v7, v8, v9, _, v11⟩ := c3 q (Nat.zero_le _) (Array.getElem?_eq_some_iff.1 f2).1
      rw [f2] at v1; cases v1
      rw [f4] at v2; cases v2
      rw [hcq, ← hp1, u7] at v6; cases v6
      have hcomm : ∃ xp xq, evOp P G call oq Tq sp = some (xq, alt) ∧ evOp P G call op Tp alt = some (xp, a2') ∧ isPan xp = none ∧ isPan xq = none ∧ (∀ d, op.dst = some d → xp = gt Tf d) ∧ (∀ d, oq.dst = some d → xq = gt Tf d) := by
        obtain ⟨b, c, hb, hc, hbc, hbl, hcl⟩ := hkind
        obtain ⟨rfl, rfl, alt', g1, g2⟩ := stores_comm hbl hcl hb hc hbc (u8 w1) (v8 w2)
        rw [halt] at g1
        simp only [Option.some.injEq, Prod.mk.injEq] at g1
        obtain ⟨rfl, rfl⟩ := g1
        exact ⟨und, und, halt, g2, rfl, rfl, fun d hd => ((u11 d hd).1).symm, fun d hd => ((v11 d hd).1).symm⟩
      obtain ⟨xp, xq, g0, g2, g3, g4, g5, g6⟩ := hcomm
      refine ⟨op, oq, Tp, Tq, sp, alt, a2', xp, xq, f1, f2, f3, f4, w1, w2, hpq, ep, eq, fun j h1 h2 => ?_, hsp, g0, g2, v7, g3, g4, g5, g6, hoth⟩
      cases hej : effAt P ops j with
      | false => rfl
      | true =>
        have e1 : cnt P ops (fun _ => true) (j + 1) = cnt P ops (fun _ => true) j + 1 := by rw [cnt_succ, hej]; rfl
        have e2 : cnt P ops (fun _ => true) (p + 1) ≤ cnt P ops (fun _ => true) j := cnt_le (by omega)
        have e3 : cnt P ops (fun _ => true) (j + 1) ≤ cnt P ops (fun _ => true) q := cnt_le (by omega)
        omega
    by_cases hB : ∃ p q, pr = some (p, q) ∧ q ∈ D ∧ p ∉ D
    · -- the later one of the pair is done, the first one is not
      obtain ⟨p, q, hpr, hqD, hpD⟩ := hB
      obtain ⟨op, oq, Tp, Tq, sp, alt, s2, xp, xq, f1, f2, f3, f4, w1, w2, hpq, ep, eq, hmid, hsp, halt, hlast, hs2, hpp, hpq', hdp, hdq, hoth⟩ := swap p q hpr
      have hsa : s = alt := hs.1 p q hpr hqD hpD oq Tq sp xq alt f2 f4 hsp halt
      subst hsa
      by_cases hip : i = p
      · subst hip
        rw [f1] at ho; cases ho
        rw [f3] at e1; cases e1
        refine stepW xp s2 w1 hlast hpp hdp ⟨fun p' q' e hq' hp' => ?_, fun _ => ?_⟩
        · rw [hpr] at e; cases e
          exact absurd (by simp) hp'
        · have hc1 : cnt P ops (fun j => decide (j ∈ i :: D)) ops.size = cnt P ops (fun _ => true) (q + 1) := by
            rw [cnt_stop (i := q + 1) (by have := (Array.getElem?_eq_some_iff.1 f2).1; omega) fun j h1 h2 h3 => ?_]
            · refine cnt_congr (q + 1) fun j hj hej => ?_
              simp only [decide_eq_true_eq, List.mem_cons]
              by_cases ejp : j = i
              · exact .inl ejp
              · by_cases ejq : j = q
                · rw [ejq]; exact .inr hqD
                · by_cases hjp : j < i
                  · obtain ⟨oj, hoj, hejo⟩ := opAt (by have := (Array.getElem?_eq_some_iff.1 f2).1; omega) hej
                    rcases hst.eff q oq f2 eq j oj hoj hejo with h | h | h
                    · omega
                    · exact .inr (hclosed q hqD j h)
                    · rw [hpr] at h; cases h; exact absurd rfl ejp
                  · have := hmid j (by omega) (by omega)
                    rw [this] at hej; cases hej
            · simp only [decide_eq_false_iff_not, List.mem_cons, not_or]
              refine ⟨by omega, fun hjD => ?_⟩
              obtain ⟨oj, hoj, hejo⟩ := opAt h2 h3
              rcases hst.eff j oj hoj hejo i _ f1 ep with h | h | h
              · omega
              · exact hpD (hclosed j hjD i h)
              · rw [hpr] at h; cases h; omega
          rw [hc1]; exact hs2
      · -- nothing else that acts
        have hne : eff P o = false := by
          cases he : eff P o with
          | false => rfl
          | true =>
            exfalso
            rcases hst.eff i o ho he p op f1 ep with h | h | h
            · rcases hst.eff q oq f2 eq i o ho he with h' | h' | h'
              · omega
              · rw [hnot q hqD] at h'; cases h'
              · rw [hpr] at h'; cases h'; exact hip rfl
            · exact hpD (hdone p h)
            · rw [hpr] at h; cases h; exact hnD hqD
        have hat : Beh P G call ops Ts (s0 :: ss) pr (i :: D) s := by
          refine ⟨fun p' q' e hq' hp' oq' Tq' sp' y' alt' g1 g2 g3 g4 => ?_, fun h => ?_⟩
          · rw [hpr] at e; cases e
            rw [f2] at g1; cases g1
            rw [f4] at g2; cases g2
            rw [hsp] at g3; cases g3
            rw [halt] at g4; cases g4
            rfl
          · exact (h p q hpr (List.mem_cons_of_mem _ hqD) (by rw [List.mem_cons, not_or]; exact ⟨fun e => hip e.symm, hpD⟩)).elim
        cases hw : Region.wanted o (yieldedA ops Ti) with
        | false => exact stepU hw hat
        | true =>
          obtain ⟨y, s1, g1, g2, g3⟩ := hoth i o ho hne Ti (by simpa using e1) hw (by
            cases hb : bitOf (masks ops) i p with
            | false => rfl
            | true => exact absurd (hdone p hb) hpD) (hnot q hqD)
          have := noneff_state hfg (by rw [em]; exact hpu) hne g1
          subst this
          exact stepW y s1 hw g1 g2 g3 hat
    · have hnorm := hs.2 (fun p q e hq hp => hB ⟨p, q, e, hq, hp⟩)
      by_cases hA : ∃ p, pr = some (p, i) ∧ p ∉ D
      · -- the later one of the pair comes ahead of the first one
        obtain ⟨p, hpr, hpD⟩ := hA
        obtain ⟨op, oq, Tp, Tq, sp, alt, s2, xp, xq, f1, f2, f3, f4, w1, w2, hpq, ep, eq, hmid, hsp, halt, hlast, hs2, hpp, hpq', hdp, hdq, hoth⟩ := swap p i hpr
        rw [f2] at ho; cases ho
        rw [f4] at e1; cases e1
        have hc1 : cnt P ops (fun j => decide (j ∈ D)) ops.size = cnt P ops (fun _ => true) p := by
          rw [cnt_stop (i := p) (by omega) fun j h1 h2 h3 => ?_]
          · refine cnt_congr p fun j hj hej => ?_
            simp only [decide_eq_true_eq]
            obtain ⟨oj, hoj, hejo⟩ := opAt (by omega) hej
            rcases hst.eff i o f2 eq j oj hoj hejo with h | h | h
            · omega
            · exact hdone j h
            · rw [hpr] at h; cases h; omega
          · simp only [decide_eq_false_iff_not]
            intro hjD
            by_cases ejp : j = p
            · subst ejp; exact hpD hjD
            · by_cases ejq : j = i
              · subst ejq; exact hnD hjD
              · by_cases hjq : j < i
                · have := hmid j (by omega) hjq
                  rw [this] at h3; cases h3
                · obtain ⟨oj, hoj, hejo⟩ := opAt h2 h3
                  rcases hst.eff j oj hoj hejo p op f1 ep with h | h | h
                  · omega
                  · exact hpD (hclosed j hjD p h)
                  · rw [hpr] at h; cases h; exact ejq rfl
        rw [hc1, hsp] at hnorm
        cases hnorm
        refine stepW xq alt w2 halt hpq' hdq ⟨fun p' q' e hq' hp' oq' Tq' sp' y' alt' g1 g2 g3 g4 => ?_, fun h => ?_⟩
        · rw [hpr] at e; cases e
          rw [f2] at g1; cases g1
          rw [f4] at g2; cases g2
          rw [hsp] at g3; cases g3
          rw [halt] at g4; cases g4
          rfl
        · exact (h p i hpr (by simp) (by rw [List.mem_cons, not_or]; exact ⟨by omega, hpD⟩)).elim
      · -- as the text has it
        have hfar : ∀ p q, pr = some (p, q) → q ∈ i :: D → p ∉ i :: D → False := fun p q e hq hp => by
          rw [List.mem_cons, not_or] at hp
          rw [List.mem_cons] at hq
          rcases hq with rfl | hq
          · exact hA ⟨p, e, hp.2⟩
          · exact hB ⟨p, q, e, hq, hp.2⟩
        have hat : ∀ s1, (s0 :: ss)[cnt P ops (fun j => decide (j ∈ i :: D)) ops.size]? = some s1 → Beh P G call ops Ts (s0 :: ss) pr (i :: D) s1 := fun s1 h => ⟨fun p q e hq hp => (hfar p q e hq hp).elim, fun _ => h⟩
        have heffp : eff P o = true → cnt P ops (fun j => decide (j ∈ D)) ops.size = cnt P ops (fun _ => true) i := fun he => by
          rw [cnt_stop (i := i) (Nat.le_of_lt hi) fun j h1 h2 h3 => ?_]
          · refine cnt_congr i fun j hj hej => ?_
            obtain ⟨oj, hoj, hejo⟩ := opAt (by omega) hej
            rcases hst.eff i o ho he j oj hoj hejo with h | h | h
            · omega
            · simpa using hdone j h
            · by_cases hjD : j ∈ D
              · simpa using hjD
              · exact (hA ⟨j, h, hjD⟩).elim
          · by_cases hjD : j ∈ D
            · exfalso
              obtain ⟨oj, hoj, hejo⟩ := opAt h2 h3
              rcases hst.eff j oj hoj hejo i o ho he with h | h | h
              · have : j = i := by omega
                subst this; exact hnD hjD
              · rw [hnot j hjD] at h; cases h
              · exact hB ⟨i, j, h, hjD, hnD⟩
            · simpa using hjD
        cases hw : Region.wanted o (yieldedA ops Ti) with
        | false =>
          obtain ⟨hxu, hsk⟩ := k4 hw
          refine stepU hw (hat s ?_)
          rw [hcnt]
          cases he : eff P o with
          | false => simpa using hnorm
          | true =>
            rw [heffp he] at hnorm ⊢
            rw [k1] at hnorm; cases hnorm
            rw [he] at hsucc; simp only [if_true] at hsucc ⊢
            rw [← hsucc, ← hsk]; exact k2
        | true =>
          cases he : eff P o with
          | true =>
            have hp0 := heffp he
            rw [hp0, k1] at hnorm; cases hnorm
            refine stepW x sk' hw (k3 hw) kp (fun d hd => ((k5 d hd).1).symm) (hat sk' ?_)
            rw [hcnt, hp0, he]
            rw [he] at hsucc; simp only [if_true] at hsucc ⊢
            rw [← hsucc]; exact k2
          | false =>
            have hstep : ∃ y, evOp P G call o Ti s = some (y, s) ∧ isPan y = none ∧ ∀ d, o.dst = some d → y = gt Tf d := by
              unfold dynOk at hdyn
              simp only [Bool.or_eq_true] at hdyn
              rcases hdyn with hd | hd
              · -- nothing acts
                have hd := Nat.le_of_ble_eq_true hd
                have hone : ∀ p q, (s0 :: ss)[p]? = some q → q = s0 := fun p q hq => by
                  have := (List.getElem?_eq_some_iff.1 hq).1
                  have : p = 0 := by omega
                  subst this; simpa using hq.symm
                have e1 := hone _ _ hnorm
                have e2 := hone _ _ k1
                have h3 := k3 hw
                rw [e2, ← e1] at h3
                have := noneff_state hfg (by rw [em]; exact hpu) he h3
                subst this
                exact ⟨x, h3, kp, fun d hd => ((k5 d hd).1).symm⟩
              · rw [List.all_eq_true] at hd
                have := hd (o, i) (by rw [List.mk_mem_zipIdx_iff_getElem?, Array.getElem?_toList]; exact ho)
                simp only [e1, he, hw, Bool.not_true, Bool.false_or, List.all_eq_true, List.mem_range] at this
                have hlt := (List.getElem?_eq_some_iff.1 hnorm).1
                have := this _ hlt
                have hlo : Nat.ble (cnt P ops (fun j => bitOf (masks ops) i j) ops.size) (cnt P ops (fun j => decide (j ∈ D)) ops.size) = true :=
                  Nat.ble_eq_true_of_le (cnt_mono _ fun j _ _ hb => by simpa using hdone j hb)
                have hhi : Nat.ble (cnt P ops (fun j => decide (j ∈ D)) ops.size) (cnt P ops (fun j => !bitOf (masks ops) j i) ops.size) = true :=
                  Nat.ble_eq_true_of_le (cnt_mono _ fun j _ _ hb => by rw [hnot j (by simpa using hb)]; rfl)
                rw [hlo, hhi, hnorm] at this
                simp only [Bool.not_true, Bool.false_or] at this
                split at this
                · rename_i y s1 hy
                  have := noneff_state hfg (by rw [em]; exact hpu) he hy
                  subst this
                  rw [Bool.and_eq_true] at this
                  refine ⟨y, hy, by simpa using this.1, fun d hd => ?_⟩
                  have this := this.2
                  rw [hd] at this
                  exact aEq_eq this
                · cases this
            obtain ⟨y, hy, hyp, hyd⟩ := hstep
            refine stepW y s hw hy hyp hyd (hat s ?_)
            rw [hcnt, he]
            simpa using hnorm

theorem drawnG_sound (hfg : Fg.fg = true → ∃ c0, call = fgCall c0) {B0 : Nat} {w0 : World} (hP : NoNum P) (hmix : P.follows .mixedOrders = true) (hcall : CallOk P G B0 w0 call) :
    ∀ ops T s T' s', evDrawnG P G call ops T s = some (T', s') → ∀ (w : World) (M : Mp) (a : Act) (Q : Exit → Act → World → Prop), Sim G B0 w0 w s M → TmR w s M T a →
    (∀ a' w' M', TmR w' s' M' T' a' → Sim G B0 w0 w' s' M' → Ext w s M w' s' M' → Q .normal a' w') → ∀ (ro : Option Nat) t, wpOpsIn (FW ro) 0 P ops Q (Region.schedule (P.follows .mixedOrders) ops t) a w.drew := by
  intro ops T s T' s' h w M a Q hs hT hq ro t
  unfold evDrawnG at h
  dsimp only at h
  split at h
  · rename_i hst
    have hst := static_of hst
    split at h
    · rename_i Ts Tf ss sf hrec
      split at h
      · rename_i hdyn
        rw [Bool.and_eq_true] at hdyn
        obtain ⟨hdyn, hpk⟩ := hdyn
        cases h
        rw [hmix]
        obtain ⟨T1, e1, e2, e3⟩ := any_order hst hrec hdyn hpk hfg rfl (schedule_valid hst.back t) (by simp) rfl rfl (fun t => .inr ⟨rfl, fun i hi => by cases hi⟩) (s := s) ⟨(fun p q _ hq => by cases hq), fun _ => by
          have : cnt P ops (fun j => decide (j ∈ ([] : List Nat))) ops.size = 0 := by
            unfold cnt; rw [List.countP_eq_zero]; simp
          rw [this]; rfl⟩
        refine ops_sound hP hcall (fun h => by cases h) (ops0_ops e1) (sim_drew hs) (T := { T with mu := (T.mu.1, true) }) (a := a) ⟨(hT.ext ext_drew).size, (hT.ext ext_drew).get, (hT.ext ext_drew).defers, (hT.ext ext_drew).dlt⟩ fun e a' w' M' k0 k1 k2 k3 => ?_
        obtain rfl : e = .normal := k0
        have hds := (ops0_rest e1).1.trans (rec_rest hrec).1.symm
        have hdl := (ops0_rest e1).2.1.trans (rec_rest hrec).2.1.symm
        refine hq a' w' M' ⟨?_, fun t => ?_, by rw [← hds, ← hdl]; exact k1.defers, by rw [← hds]; exact k1.dlt⟩ k2 (ext_drew.trans k3)
        · rw [k1.size, e2]; rw [List.range_eq_range'] at hrec; exact (rec_frame hrec).1.symm
        · show VR w' _ M' (gt Tf t) _
          rw [← e3 t]; exact k1.get t
      · cases h
    · cases h
  · cases h
end
section
variable [Interp] {P : Program} {G : Nat → Option (List AV)} {call : Ab.Call}
theorem drawn_sound {B0 : Nat} {w0 : World} (hP : NoNum P) (hmix : P.follows .mixedOrders = true) (hcall : CallOk P G B0 w0 call) :
    ∀ ops T s T' s', evDrawn P G call ops T s = some (T', s') → ∀ (w : World) (M : Mp) (a : Act) (Q : Exit → Act → World → Prop), Sim G B0 w0 w s M → TmR w s M T a →
    (∀ a' w' M', TmR w' s' M' T' a' → Sim G B0 w0 w' s' M' → Ext w s M w' s' M' → Q .normal a' w') → ∀ (ro : Option Nat) t, wpOpsIn (FW ro) 0 P ops Q (Region.schedule (P.follows .mixedOrders) ops t) a w.drew := by
  intro ops T s T' s' h
  unfold evDrawn at h
  split at h
  · exact drawnG_sound (fgI := ⟨true⟩) (fun _ => ⟨call, rfl⟩) hP hmix (fgCall_ok hcall) ops T s T' s' h
  · exact drawnG_sound (fun h => by cases h) hP hmix hcall ops T s T' s' h
end
end Go.Ab
