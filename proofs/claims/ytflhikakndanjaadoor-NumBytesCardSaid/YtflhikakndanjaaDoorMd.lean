/- Merged own texts, without what this claim does not use. -/
import Derived.Test.YtflhikakndanjaaDoorMc
import Derived.ControlIn
import Derived.Carry
import Derived.ChangeShapes
import Derived.ChangeSame
import Derived.OpenShut
import Derived.MakeChecks
import Derived.LaidLaws
set_option linter.unusedVariables false
set_option linter.unusedSimpArgs false
set_option linter.unusedSectionVars false
set_option linter.constructorNameAsVariable false
/- Regions whose order is drawn, evaluated: the proof. -/
namespace Go.Ab
open Go Go.RowKit

section
variable [Interp] [fgI : Fg] {P : Program} {G : Nat -> Option (List AV)} {call : Ab.Call} {ops : Array Oper}

theorem cnt_succ (f : Nat -> Bool) (i : Nat) : cnt P ops f (i + 1) = cnt P ops f i + if effAt P ops i && f i then 1 else 0 := by
 unfold cnt
 rw [List.range_succ, List.countP_append, List.countP_singleton]
theorem cnt_mono {f g : Nat -> Bool} (n : Nat) (h : ∀ j, j < n -> effAt P ops j = true -> f j = true -> g j = true) : cnt P ops f n <= cnt P ops g n := by
 unfold cnt
 refine List.countP_mono_left fun j hj hf => ?_
 rw [Bool.and_eq_true] at hf ⊢
 exact ⟨hf.1, h j (List.mem_range.1 hj) hf.1 hf.2⟩
theorem cnt_le {f : Nat -> Bool} : ∀ {i n : Nat}, i <= n -> cnt P ops f i <= cnt P ops f n
 | i, 0, h => by
  have : i = 0 := by omega
  subst this; exact Nat.le_refl _
 | i, n + 1, h => by
  by_cases e : i = n + 1
  ·subst e; exact Nat.le_refl _
  ·rw [cnt_succ]; have := cnt_le (f := f) (i := i) (n := n) (by omega); omega
theorem cnt_congr {f g : Nat -> Bool} (n : Nat) (h : ∀ j, j < n -> effAt P ops j = true -> f j = g j) : cnt P ops f n = cnt P ops g n :=
 Nat.le_antisymm (cnt_mono n fun j h1 h2 h3 => by rw [<- h j h1 h2]; exact h3) (cnt_mono n fun j h1 h2 h3 => by rw [h j h1 h2]; exact h3)
theorem cnt_stop {f : Nat -> Bool} {i : Nat} : ∀ {n : Nat}, i <= n -> (∀ j, i <= j -> j < n -> effAt P ops j = true -> f j = false) -> cnt P ops f n = cnt P ops f i
 | 0, h, _ => by
  have : i = 0 := by omega
  subst this; rfl
 | n + 1, h, hf => by
  by_cases e : i = n + 1
  ·subst e; rfl
  ·rw [cnt_succ, cnt_stop (n := n) (by omega) fun j h1 h2 h3 => hf j h1 (by omega) h3]
   cases he : effAt P ops n with
   | false => simp
   | true => rw [hf n (by omega) (by omega) he]; simp
theorem cnt_add {f g : Nat -> Bool} {i : Nat} : ∀ {n : Nat}, i < n -> f i = false -> g i = true -> (∀ j, j ≠ i -> g j = f j) -> cnt P ops g n = cnt P ops f n + if effAt P ops i then 1 else 0
 | 0, h, _, _, _ => by omega
 | n + 1, h, h1, h2, h3 => by
  rw [cnt_succ, cnt_succ]
  by_cases e : i = n
  ·subst e
   rw [h1, h2, cnt_congr (f := g) (g := f) i fun j hj _ => h3 j (by omega)]
   simp
  ·rw [cnt_add (n := n) (by omega) h1 h2 h3, h3 n (Ne.symm e)]
   omega

theorem putT_some {T T' : Tm} {d : Option Nat} {x : AV} (h : putT T d x = some T') : T'.n = T.n /\ (∀ t, gt T' t = if d = some t then x else gt T t) /\ ∀ q, d = some q -> q + 1 <= T.n /\ T.n <= Tr.lid := by
 cases d with
 | none => simp only [putT, Option.some.injEq] at h; subst h; exact ⟨rfl, fun t => by simp, fun q hq => by cases hq⟩
 | some d =>
  simp only [putT] at h
  split at h
  ·rename_i hb
   simp only [Option.some.injEq] at h
   rw [Bool.and_eq_true] at hb
   have h1 := Nat.le_of_ble_eq_true hb.1
   have h2 := Nat.le_of_ble_eq_true hb.2
   subst h
   refine ⟨rfl, fun t => ?_, fun q hq => by cases hq; exact ⟨h1, h2⟩⟩
   simp only [gt]
   rw [Tr.get_set _ _ _ _ (by omega)]
   by_cases e : t = d
   ·subst e; simp
   ·rw [if_neg e, if_neg (by simp; exact Ne.symm e)]
  ·cases h
theorem putT_of {T : Tm} {d : Option Nat} (x : AV) (h : ∀ q, d = some q -> q + 1 <= T.n /\ T.n <= Tr.lid) : ∃ T', putT T d x = some T' := by
 cases d with
 | none => exact ⟨T, rfl⟩
 | some d =>
  obtain ⟨h1, h2⟩ := h d rfl
  exact ⟨_, by simp only [putT]; rw [if_pos (by rw [Bool.and_eq_true]; exact ⟨Nat.ble_eq_true_of_le h1, Nat.ble_eq_true_of_le h2⟩)]⟩

structure Static [Fg] (P : Program) (pr : Option (Nat × Nat)) (ops : Array Oper) : Prop where
 back : Back ops
 read : ∀ (i : Nat) (o : Oper), ops[i]? = some o -> ∀ t, t ∈ readsOf ops o -> ∀ (j : Nat) (q : Oper), ops[j]? = some q -> dstIs q t = true -> bitOf (masks ops) i j = true \/ bitOf (masks ops) j i = true \/ i = j
 dst : ∀ (i : Nat) (o : Oper) (d : Nat), ops[i]? = some o -> o.dst = some d -> ∀ (j : Nat) (q : Oper), ops[j]? = some q -> dstIs q d = true -> i = j
 eff : ∀ (i : Nat) (o : Oper), ops[i]? = some o -> eff P o = true -> ∀ (j : Nat) (q : Oper), ops[j]? = some q -> Go.Ab.eff P q = true -> i <= j \/ bitOf (masks ops) i j = true \/ pr = some (j, i)
theorem and_nbe' {a b c d : Nat} (h : (Nat.beq a b && Nat.beq c d) = true) : a = b /\ c = d := by
 rw [Bool.and_eq_true] at h
 exact ⟨nbe h.1, nbe h.2⟩
theorem static_of {pr : Option (Nat × Nat)} (h : drawStatic P pr ops = true) : Static P pr ops := by
 unfold drawStatic at h
 simp only [List.all_eq_true] at h
 have mem : ∀ (i : Nat) (o : Oper), ops[i]? = some o -> (o, i) ∈ ops.toList.zipIdx := fun i o ho => by
  rw [List.mk_mem_zipIdx_iff_getElem?, Array.getElem?_toList]; exact ho
 refine ⟨fun i o ho e he hbe => ?_, fun i o ho t ht j q hq hd => ?_, fun i o d ho hod j q hq hd => ?_, fun i o ho he j q hq hqe => ?_⟩
 ·have := h _ (mem i o ho)
  simp only [Bool.and_eq_true, List.all_eq_true] at this
  have h1 := this.1.1.1 e he
  rw [hbe] at h1
  exact Nat.le_of_ble_eq_true (by simpa using h1)
 ·have := h _ (mem i o ho)
  simp only [Bool.and_eq_true, List.all_eq_true] at this
  have := this.1.1.2 t ht _ (mem j q hq)
  simp only [hd, Bool.not_true, Bool.false_or, Bool.or_eq_true] at this
  rcases this with (h | h) | h
  ·exact .inl h
  ·exact .inr (.inl h)
  ·exact .inr (.inr (nbe h))
 ·have := h _ (mem i o ho)
  simp only [Bool.and_eq_true] at this
  have := this.1.2
  rw [hod] at this
  simp only [List.all_eq_true] at this
  have := this _ (mem j q hq)
  simp only [hd, Bool.not_true, Bool.or_false] at this
  exact nbe this
 ·have := h _ (mem i o ho)
  simp only [Bool.and_eq_true] at this
  have := this.2
  simp only [he, Bool.not_true, Bool.false_or, List.all_eq_true] at this
  have := this _ (mem j q hq)
  simp only [hqe, Bool.not_true, Bool.false_or, Bool.or_eq_true] at this
  rcases this with (h | h) | h
  ·exact .inl (Nat.le_of_ble_eq_true h)
  ·exact .inr (.inl h)
  ·refine .inr (.inr ?_)
   unfold isPair at h
   split at h
   ·obtain ⟨h1, h2⟩ := and_nbe' h
    rw [h1, h2]
   ·cases h

theorem mem_tmpsOf : ∀ {l : List Operand} {t : Nat}, Operand.tmp t ∈ l -> t ∈ tmpsOf l
 | x :: r, t, h => by
  rw [List.mem_cons] at h
  rcases h with rfl | h
  ·simp [tmpsOf]
  ·have := mem_tmpsOf h
   cases x <;> simp [tmpsOf, this]
theorem reads_agree {o : Oper} {T T' : Tm} {s : St} (hmu : T.mu = T'.mu) (h : ∀ t, t ∈ readsOf ops o -> gt T t = gt T' t) : evOp P G call o T s = evOp P G call o T' s /\ Region.wanted o (yieldedA ops T) = Region.wanted o (yieldedA ops T') /\ gk ops T o = gk ops T' o := by
 refine ⟨evOp_congr hmu fun x hx => ?_, ?_, ?_⟩
 ·cases x with
  | tmp t => simp only [opd]; rw [h t (by unfold readsOf; rw [List.mem_append]; exact .inl (mem_tmpsOf hx))]
  | _ => rfl
 ·unfold Region.wanted
  cases hg : o.guard with
  | none => rfl
  | some p =>
   obtain ⟨j, want⟩ := p
   simp only
   have : yieldedA ops T j = yieldedA ops T' j := by
    unfold yieldedA
    cases hd : (ops[j]?).bind (·.dst) with
    | none => rfl
    | some d =>
     simp only
     rw [h d (by unfold readsOf; rw [List.mem_append, hg]; simp [hd])]
   rw [this]
 ·unfold gk
  cases hg : o.guard with
  | none => rfl
  | some p =>
   obtain ⟨j, want⟩ := p
   simp only
   cases hd : (ops[j]?).bind (·.dst) with
   | none => rfl
   | some d =>
    simp only
    rw [h d (by unfold readsOf; rw [List.mem_append, hg]; simp [hd])]

theorem dstIs_iff {o : Oper} {t : Nat} : dstIs o t = true ↔ o.dst = some t := by
 unfold dstIs
 cases o.dst with
 | none => simp
 | some d => simp only [Option.some.injEq]; exact ⟨nbe, fun h => by rw [h]; exact nbt _⟩

theorem putT_rest {T T' : Tm} {d : Option Nat} {x : AV} (h : putT T d x = some T') : T'.ds = T.ds /\ T'.dl = T.dl /\ T'.mu = T.mu := by
 cases d with
 | none => simp only [putT, Option.some.injEq] at h; rw [h]; exact ⟨rfl, rfl, rfl⟩
 | some d =>
  simp only [putT] at h
  split at h
  ·simp only [Option.some.injEq] at h; rw [<- h]; exact ⟨rfl, rfl, rfl⟩
  ·cases h
theorem put_pan {T T' : Tm} {d : Option Nat} {x : AV} (h : (if (isPan x).isNone then putT T d x else none) = some T') : isPan x = none /\ putT T d x = some T' := by
 split at h
 ·rename_i hx; exact ⟨by simpa using hx, h⟩
 ·cases h
theorem put_pan_of {T : Tm} {d : Option Nat} {x : AV} (h : isPan x = none) : (if (isPan x).isNone then putT T d x else none) = putT T d x := by rw [h]; rfl
theorem rec_rest : ∀ {l : List Nat} {T Tf : Tm} {s sf : St} {Ts : List Tm} {ss : List St}, evRec P G call ops l T s = some (Ts, Tf, ss, sf) -> Tf.ds = T.ds /\ Tf.dl = T.dl /\ Tf.mu = T.mu
 | [], T, Tf, s, sf, Ts, ss, h => by simp only [evRec, Option.some.injEq, Prod.mk.injEq] at h; rw [h.2.1]; exact ⟨rfl, rfl, rfl⟩
 | i :: rest, T, Tf, s, sf, Ts, ss, h => by
  unfold evRec at h
  split at h
  ·cases h
  ·split at h
   ·cases h
   ·split at h
    ·cases h
    ·rename_i hp
     split at h
     ·cases h
     ·rename_i hr
      cases h
      obtain ⟨a1, a2, a3⟩ := rec_rest hr
      obtain ⟨b1, b2, b3⟩ := putT_rest (put_pan hp).2
      exact ⟨a1.trans b1, a2.trans b2, a3.trans b3⟩
theorem ops0_rest : ∀ {l : List Nat} {T T' : Tm} {s s' : St}, evOps0 P G call ops l T s = some (T', s') -> T'.ds = T.ds /\ T'.dl = T.dl /\ T'.mu = T.mu
 | [], T, T', s, s', h => by simp only [evOps0, Option.some.injEq, Prod.mk.injEq] at h; rw [h.1]; exact ⟨rfl, rfl, rfl⟩
 | i :: rest, T, T', s, s', h => by
  unfold evOps0 at h
  split at h
  ·cases h
  ·split at h
   ·split at h
    ·split at h
     ·rename_i hp
      obtain ⟨a1, a2, a3⟩ := ops0_rest h
      obtain ⟨b1, b2, b3⟩ := putT_rest (put_pan hp).2
      exact ⟨a1.trans b1, a2.trans b2, a3.trans b3⟩
     ·cases h
    ·cases h
   ·split at h
    ·rename_i hp
     obtain ⟨a1, a2, a3⟩ := ops0_rest h
     obtain ⟨b1, b2, b3⟩ := putT_rest hp
     exact ⟨a1.trans b1, a2.trans b2, a3.trans b3⟩
    ·cases h
theorem ops0_ops : ∀ {l : List Nat} {T T' : Tm} {s s' : St}, evOps0 P G call ops l T s = some (T', s') -> evOps P G call false ops l T s = some (none, T', s')
 | [], T, T', s, s', h => by simp only [evOps0, Option.some.injEq, Prod.mk.injEq] at h; obtain ⟨rfl, rfl⟩ := h; rfl
 | i :: rest, T, T', s, s', h => by
  unfold evOps0 at h
  unfold evOps
  split at h
  ·cases h
  ·rename_i o hfo
   rw [hfo]
   simp only
   split at h
   ·rename_i hw
    rw [if_pos hw]
    split at h
    ·rename_i x s1 hx
     split at h
     ·rename_i T1 hp
      obtain ⟨hpan, hp⟩ := put_pan hp
      have ih := ops0_ops h
      split
      ·rename_i c hop
       simp only [evOp, evOp1, evSym, evSym0, evArr, evMore, hop, reduceCtorEq] at hx
      ·rw [hx]
       simp only [hpan, hp]
       exact ih
     ·cases h
    ·cases h
   ·rename_i hw
    rw [if_neg hw]
    split at h
    ·rename_i T1 hp
     rw [hp]
     exact ops0_ops h
    ·cases h

theorem rec_frame : ∀ {l : List Nat} {T Tf : Tm} {s sf : St} {Ts : List Tm} {ss : List St}, evRec P G call ops l T s = some (Ts, Tf, ss, sf) -> Tf.n = T.n /\ ∀ t, (∀ i ∈ l, ∀ o, ops[i]? = some o -> o.dst ≠ some t) -> gt Tf t = gt T t
 | [], T, Tf, s, sf, Ts, ss, h => by simp only [evRec, Option.some.injEq, Prod.mk.injEq] at h; obtain ⟨_, rfl, _⟩ := h; exact ⟨rfl, fun _ _ => rfl⟩
 | i :: rest, T, Tf, s, sf, Ts, ss, h => by
  unfold evRec at h
  split at h
  ·cases h
  ·rename_i o hfo
   obtain ⟨ho, hgk⟩ := fetch_some hfo
   split at h
   ·cases h
   ·rename_i x s' hx
    split at h
    ·cases h
    ·rename_i T' hp
     split at h
     ·cases h
     ·rename_i Ts2 T2 ss2 sf2 hr
      cases h
      obtain ⟨k1, k2⟩ := rec_frame hr
      obtain ⟨p1, p2, _⟩ := putT_some (put_pan hp).2
      refine ⟨k1.trans p1, fun t ht => ?_⟩
      rw [k2 t fun j hj => ht j (by simp [hj]), p2 t, if_neg (ht i (by simp) o ho)]

theorem bit_lt' {pr : Option (Nat × Nat)} (hst : Static P pr ops) {i j : Nat} {o : Oper} (hi : ops[i]? = some o) (hb : bitOf (masks ops) i j = true) : j < i :=
 bit_lt hst.back (Array.getElem?_eq_some_iff.1 hi).1 hb

theorem rec_cert {pr : Option (Nat × Nat)} (hst : Static P pr ops) (hfg : Fg.fg = true -> ∃ c0, call = fgCall c0) : ∀ (m i : Nat) {T Tf : Tm} {s sf : St} {Ts : List Tm} {ss : List St}, T.mu.2 = true -> i + m = ops.size -> evRec P G call ops (List.range' i m) T s = some (Ts, Tf, ss, sf) ->
  (s :: ss)[cnt P ops (fun _ => true) ops.size - cnt P ops (fun _ => true) i]? = some sf /\ (s :: ss).length = cnt P ops (fun _ => true) ops.size - cnt P ops (fun _ => true) i + 1 /\
  ∀ k, i <= k -> k < ops.size -> ∃ o x sk sk' Tk, ops[k]? = some o /\ Ts[k - i]? = some Tk /\ Tk.mu = T.mu /\ (∀ t, (∀ j q, k <= j -> ops[j]? = some q -> q.dst ≠ some t) -> gt Tf t = gt Tk t) /\ (∀ t, (∀ j q, i <= j -> j < k -> ops[j]? = some q -> q.dst ≠ some t) -> gt Tk t = gt T t) /\ (s :: ss)[cnt P ops (fun _ => true) k - cnt P ops (fun _ => true) i]? = some sk /\ (s :: ss)[cnt P ops (fun _ => true) (k + 1) - cnt P ops (fun _ => true) i]? = some sk' /\
   (Region.wanted o (yieldedA ops Tk) = true -> evOp P G call o Tk sk = some (x, sk')) /\ isPan x = none /\ (Region.wanted o (yieldedA ops Tk) = false -> x = und /\ sk' = sk) /\ ∀ d, o.dst = some d -> gt Tf d = x /\ d + 1 <= Tf.n /\ Tf.n <= Tr.lid
 | 0, i, T, Tf, s, sf, Ts, ss, hpu, hm, h => by
  simp only [List.range'_zero, evRec, Option.some.injEq, Prod.mk.injEq] at h
  obtain ⟨rfl, rfl, rfl, rfl⟩ := h
  have : i = ops.size := by omega
  subst this
  exact ⟨by simp, by simp, fun k h1 h2 => by omega⟩
 | m + 1, i, T, Tf, s, sf, Ts, ss, hpu, hm, h => by
  have h0 := h
  rw [List.range'_succ] at h
  unfold evRec at h
  split at h
  ·cases h
  ·rename_i o hfo
   obtain ⟨ho, hgk⟩ := fetch_some hfo
   split at h
   ·cases h
   ·rename_i x s' hx
    split at h
    ·cases h
    ·rename_i T' hp
     split at h
     ·cases h
     ·rename_i Ts2 T2 ss2 sf2 hr
      cases h
      obtain ⟨hpan, hp⟩ := put_pan hp
      obtain ⟨p1, p2, p3⟩ := putT_some hp
      obtain ⟨f1, f2⟩ := rec_frame hr
      obtain ⟨g1, g2⟩ := rec_frame h0
      obtain ⟨ih1, ih2, ih3⟩ := rec_cert hst hfg m (i + 1) (by rw [(putT_rest hp).2.2]; exact hpu) (by omega) hr
      have hE : cnt P ops (fun _ => true) (i + 1) = cnt P ops (fun _ => true) i + if eff P o then 1 else 0 := by
       rw [cnt_succ]; simp [effAt, ho]
      have hxdst : ∀ d, o.dst = some d -> gt Tf d = x := fun d hd => by
       rw [f2 d fun j hj q hq he => ?_, p2 d, if_pos hd]
       have := hst.dst i o d ho hd j q hq (dstIs_iff.2 he)
       rw [List.mem_range'_1] at hj
       omega
      have hnoeff : eff P o = false -> s' = s := fun he => by
       split at hx
       ·exact noneff_state hfg hpu he hx
       ·cases hx; rfl
      -- the list of states, seen from here
      have hlook : ∀ k, i + 1 <= k -> (s :: (if eff P o then s' :: ss2 else ss2))[cnt P ops (fun _ => true) k - cnt P ops (fun _ => true) i]? = (s' :: ss2)[cnt P ops (fun _ => true) k - cnt P ops (fun _ => true) (i + 1)]? := fun k hk => by
       have hle : cnt P ops (fun _ => true) (i + 1) <= cnt P ops (fun _ => true) k := cnt_le hk
       cases he : eff P o with
       | true =>
        rw [he] at hE; simp only [if_true] at hE ⊢
        rw [show cnt P ops (fun _ => true) k - cnt P ops (fun _ => true) i = (cnt P ops (fun _ => true) k - cnt P ops (fun _ => true) (i + 1)) + 1 by omega, List.getElem?_cons_succ]
       | false =>
        rw [he] at hE; simp only [Bool.false_eq_true, if_false, Nat.add_zero] at hE ⊢
        rw [hE, hnoeff he]
      refine ⟨by rw [hlook ops.size (by omega)]; exact ih1, ?_, fun k h1 h2 => ?_⟩
      ·have hle : cnt P ops (fun _ => true) (i + 1) <= cnt P ops (fun _ => true) ops.size := cnt_le (by omega)
       cases he : eff P o with
       | true => rw [he] at hE; simp only [if_true] at hE ⊢; simp only [List.length_cons] at ih2 ⊢; omega
       | false => rw [he] at hE; simp only [Bool.false_eq_true, if_false, Nat.add_zero] at hE ⊢; simp only [List.length_cons] at ih2 ⊢; omega
      ·by_cases e : k = i
       ·subst e
        refine ⟨o, x, s, s', T, ho, by simp, rfl, fun t ht => ?_, fun t _ => rfl, by simp, ?_, fun hw => ?_, hpan, fun hw => ?_, fun d hd => ⟨hxdst d hd, ?_⟩⟩
        ·exact g2 t fun j hj q hq => ht j q (by rw [List.mem_range'_1] at hj; exact hj.1) hq
        ·rw [hlook (k + 1) (Nat.le_refl _)]; simp
        ·rw [if_pos hw] at hx; exact hx
        ·rw [hw] at hx; simp only [Bool.false_eq_true, if_false, Option.some.injEq, Prod.mk.injEq] at hx; exact ⟨hx.1.symm, hx.2.symm⟩
        ·rw [g1]; exact p3 d hd
       ·obtain ⟨o', x', sk, sk', Tk, c1, d1, d2, d3, d4, c2, c3, c4, c4', c5, c6⟩ := ih3 k (by omega) h2
        refine ⟨o', x', sk, sk', Tk, c1, ?_, d2.trans (putT_rest hp).2.2, d3, fun t ht => ?_, by rw [hlook k (by omega)]; exact c2, by rw [hlook (k + 1) (by omega)]; exact c3, c4, c4', c5, c6⟩
        ·rw [show k - i = (k - (i + 1)) + 1 by omega, List.getElem?_cons_succ]; exact d1
        ·rw [d4 t fun j q h1' h2' hq => ht j q (by omega) h2' hq, p2 t, if_neg (ht i o (Nat.le_refl _) (by omega) ho)]

theorem rec_gk : ∀ (m i : Nat) {T Tf : Tm} {s sf : St} {Ts : List Tm} {ss : List St}, evRec P G call ops (List.range' i m) T s = some (Ts, Tf, ss, sf) ->
  ∀ (k : Nat) (o : Oper) (Tk : Tm), i <= k -> k < i + m -> ops[k]? = some o -> Ts[k - i]? = some Tk -> gk ops Tk o = true
 | 0, i, T, Tf, s, sf, Ts, ss, h => fun k o Tk h1 h2 => by omega
 | m + 1, i, T, Tf, s, sf, Ts, ss, h => by
  rw [List.range'_succ] at h
  unfold evRec at h
  split at h
  ·cases h
  ·rename_i o0 hfo
   obtain ⟨ho0, hgk⟩ := fetch_some hfo
   split at h
   ·cases h
   ·split at h
    ·cases h
    ·split at h
     ·cases h
     ·rename_i Ts2 T2 ss2 sf2 hr
      cases h
      intro k o Tk h1 h2 ho hT
      by_cases e : k = i
      ·subst e
       rw [Nat.sub_self] at hT
       simp only [List.getElem?_cons_zero, Option.some.injEq] at hT
       rw [ho0] at ho; cases ho
       rw [<- hT]; exact hgk
      ·rw [show k - i = (k - (i + 1)) + 1 by omega, List.getElem?_cons_succ] at hT
       exact rec_gk m (i + 1) hr k o Tk (by omega) (by omega) ho hT
theorem pair_facts {Ts : List Tm} {Tf : Tm} {sts : List St} {p q : Nat} (h : pairOk P G call ops Ts Tf sts (some (p, q)) = true) :
  ∃ op oq Tp Tq sp y alt, ops[p]? = some op /\ ops[q]? = some oq /\ Ts[p]? = some Tp /\ Ts[q]? = some Tq /\ Region.wanted op (yieldedA ops Tp) = true /\ Region.wanted oq (yieldedA ops Tq) = true /\ cnt P ops (fun _ => true) q = cnt P ops (fun _ => true) p + 1 /\ p < q /\ eff P op = true /\ eff P oq = true /\
   (∃ b c, storeTo G Tp op = some b /\ storeTo G Tq oq = some c /\ b ≠ c /\ b < Tr.lid /\ c < Tr.lid) /\ sts[cnt P ops (fun _ => true) p]? = some sp /\ evOp P G call oq Tq sp = some (y, alt) /\
   ∀ i o, ops[i]? = some o -> eff P o = false -> ∀ Ti, Ts[i]? = some Ti -> Region.wanted o (yieldedA ops Ti) = true -> bitOf (masks ops) i p = false -> bitOf (masks ops) q i = false -> ∃ y s1, evOp P G call o Ti alt = some (y, s1) /\ isPan y = none /\ ∀ d, o.dst = some d -> y = gt Tf d := by
 unfold pairOk at h
 simp only at h
 split at h
 ·rename_i op oq Tp Tq f1 f2 f3 f4
  simp only [Bool.and_eq_true] at h
  obtain ⟨⟨⟨⟨⟨⟨w1, w2⟩, hc⟩, hpq⟩, ep⟩, eq⟩, hrest⟩ := h
  split at hrest
  ·rename_i sp hsp
   split at hrest
   ·rename_i y alt halt
    simp only [Bool.and_eq_true] at hrest
    obtain ⟨hst, hrest⟩ := hrest
    refine ⟨op, oq, Tp, Tq, sp, y, alt, f1, f2, f3, f4, w1, w2, nbe hc, Nat.le_of_ble_eq_true hpq, ep, eq, ?_, hsp, halt, fun i o ho he Ti hTi hw h1 h2 => ?_⟩
    ·split at hst
     ·rename_i b c hb hcc
      simp only [Bool.and_eq_true, Bool.not_eq_true'] at hst
      obtain ⟨⟨hne, hbl⟩, hcl⟩ := hst
      exact ⟨b, c, hb, hcc, (fun e => by rw [e, nbt] at hne; cases hne), Nat.le_of_ble_eq_true hbl, Nat.le_of_ble_eq_true hcl⟩
     ·cases hst
    ·rw [List.all_eq_true] at hrest
     have := hrest (o, i) (by rw [List.mk_mem_zipIdx_iff_getElem?, Array.getElem?_toList]; exact ho)
     simp only [hTi, he, hw, h1, h2, Bool.not_true, Bool.false_or] at this
     split at this
     ·rename_i y1 s1 hy
      rw [Bool.and_eq_true] at this
      refine ⟨y1, s1, hy, by simpa using this.1, fun d hd => ?_⟩
      have this := this.2
      rw [hd] at this
      exact aEq_eq this
     ·cases this
   ·cases hrest
  ·cases hrest
 ·cases h
def Beh (P : Program) (G : Nat -> Option (List AV)) (call : Ab.Call) (ops : Array Oper) (Ts : List Tm) (sts : List St) (pr : Option (Nat × Nat)) (D : List Nat) (s : St) : Prop :=
 (∀ p q, pr = some (p, q) -> q ∈ D -> p ∉ D -> ∀ oq Tq sp y alt, ops[q]? = some oq -> Ts[q]? = some Tq -> sts[cnt P ops (fun _ => true) p]? = some sp -> evOp P G call oq Tq sp = some (y, alt) -> s = alt) /\
 ((∀ p q, pr = some (p, q) -> q ∈ D -> p ∉ D -> False) -> sts[cnt P ops (fun j => decide (j ∈ D)) ops.size]? = some s)
theorem any_order {pr : Option (Nat × Nat)} (hst : Static P pr ops) {T0 Tf : Tm} {s0 sf : St} {Ts : List Tm} {ss : List St} (hrec : evRec P G call ops (List.range ops.size) T0 s0 = some (Ts, Tf, ss, sf)) (hdyn : dynOk P G call ops Ts Tf (s0 :: ss) = true) (hpk : pairOk P G call ops Ts Tf (s0 :: ss) pr = true) (hfg : Fg.fg = true -> ∃ c0, call = fgCall c0) (hpu : T0.mu.2 = true) :
  ∀ {L D : List Nat} {T : Tm} {s : St}, Valid ops D L -> (∀ i ∈ D, i < ops.size /\ ∀ o, ops[i]? = some o -> ∀ e, e ∈ o.after.toList -> Region.binds .any e = true -> e.on ∈ D) -> T.n = T0.n -> T.mu = T0.mu ->
   (∀ t, ((∃ j q, j ∈ D /\ ops[j]? = some q /\ q.dst = some t) /\ gt T t = gt Tf t) \/ (gt T t = gt T0 t /\ ∀ i ∈ D, ∀ o, ops[i]? = some o -> o.dst ≠ some t)) -> Beh P G call ops Ts (s0 :: ss) pr D s ->
   ∃ T', evOps0 P G call ops L T s = some (T', sf) /\ T'.n = T0.n /\ ∀ t, gt T' t = gt Tf t := by
 rw [List.range_eq_range'] at hrec
 obtain ⟨c1, c2, c3⟩ := rec_cert hst hfg ops.size 0 hpu (by omega) hrec
 have cg := rec_gk ops.size 0 hrec
 obtain ⟨fr1, fr2⟩ := rec_frame hrec
 have hz : cnt P ops (fun _ => true) 0 = 0 := rfl
 simp only [hz, Nat.sub_zero] at c1 c2 c3
 intro L
 induction L with
 | nil =>
  intro D T s hv hD hn hmu hg hs
  refine ⟨T, ?_, hn, fun t => ?_⟩
  ·have e1 : cnt P ops (fun j => decide (j ∈ D)) ops.size = cnt P ops (fun _ => true) ops.size := cnt_congr _ fun j hj _ => by simpa using hv j hj
   have hs := hs.2 (fun p q e hq hp => by
    obtain ⟨op, oq, Tp, Tq, sp, y, alt, f1, _⟩ := pair_facts (e ▸ hpk)
    exact hp (hv p (Array.getElem?_eq_some_iff.1 f1).1))
   rw [e1, c1] at hs
   cases hs
   rfl
  ·rcases hg t with ⟨_, h⟩ | ⟨h, hno⟩
   ·exact h
   ·rw [h]
    exact (fr2 t fun i hi o ho => hno i (hv i (by rw [List.mem_range'_1] at hi; omega)) o ho).symm
 | cons i rest ih =>
  intro D T s hv hD hn hmu hg hs
  obtain ⟨hi, hnD, hdep, hv'⟩ := hv
  obtain ⟨o, x, sk, sk', Ti, ho, e1, em, e3, e4, k1, k2, k3, kp, k4, k5⟩ := c3 i (Nat.zero_le _) hi
  -- who stands ahead of it is done
  have hdone : ∀ j, bitOf (masks ops) i j = true -> j ∈ D := fun j hb =>
   bit_lt_dep (fun k => k ∈ D) hst.back (fun k q hq hk e he hb => (hD k hk).2 q hq e he hb) i j hi hb (fun q hq e he hb => hdep q hq e he hb)
  have hnot : ∀ j, j ∈ D -> bitOf (masks ops) j i = false := fun j hj => by
   cases hb : bitOf (masks ops) j i with
   | false => rfl
   | true => exact absurd (bit_lt_dep (fun k => k ∈ D) hst.back (fun k q hq hk e he hb => (hD k hk).2 q hq e he hb) j i (hD j hj).1 hb (fun q hq e he hb => (hD j hj).2 q hq e he hb)) hnD
  have hread : ∀ t, t ∈ readsOf ops o -> gt T t = gt Ti t := fun t ht => by
   rcases hg t with ⟨⟨j, q, hj, hq, hd⟩, h⟩ | ⟨h, hno⟩
   ·rw [h]
    refine e3 t fun j' q' hj' hq' he => ?_
    have : j = j' := hst.dst j q t hq hd j' q' hq' (dstIs_iff.2 he)
    subst this
    rcases hst.read i o ho t ht j q hq (dstIs_iff.2 hd) with hb | hb | hb
    ·have := bit_lt' hst ho hb; omega
    ·rw [hnot j hj] at hb; cases hb
    ·subst hb; exact hnD hj
   ·rw [h]
    refine (e4 t fun j q _ hj hq he => ?_).symm
    rcases hst.read i o ho t ht j q hq (dstIs_iff.2 he) with hb | hb | hb
    ·exact hno j (hdone j hb) q hq he
    ·have := bit_lt' hst hq hb; omega
    ·omega
  obtain ⟨r1, r2, r3⟩ := reads_agree (P := P) (G := G) (call := call) (s := s) (hmu.trans em.symm) hread
  have hgT : gk ops T o = true := by rw [r3]; exact cg i o Ti (Nat.zero_le _) (by omega) ho (by simpa using e1)
  have heffi : effAt P ops i = eff P o := by simp [effAt, ho]
  have hcnt : cnt P ops (fun j => decide (j ∈ i :: D)) ops.size = cnt P ops (fun j => decide (j ∈ D)) ops.size + if eff P o then 1 else 0 := by
   rw [<- heffi]
   exact cnt_add hi (by simpa using hnD) (by simp) fun j hj => by simp [hj]
  have hD' : ∀ j ∈ i :: D, j < ops.size /\ ∀ q, ops[j]? = some q -> ∀ e, e ∈ q.after.toList -> Region.binds .any e = true -> e.on ∈ i :: D := fun j hj => by
   rw [List.mem_cons] at hj
   rcases hj with rfl | hj
   ·exact ⟨hi, fun q hq e he hb => List.mem_cons_of_mem _ (hdep q hq e he hb)⟩
   ·exact ⟨(hD j hj).1, fun q hq e he hb => List.mem_cons_of_mem _ ((hD j hj).2 q hq e he hb)⟩
  have hput : ∀ y, (∀ d, o.dst = some d -> y = gt Tf d) -> ∃ T1, putT T o.dst y = some T1 /\ T1.n = T0.n /\ T1.mu = T0.mu /\ ∀ t, ((∃ j q, j ∈ i :: D /\ ops[j]? = some q /\ q.dst = some t) /\ gt T1 t = gt Tf t) \/ (gt T1 t = gt T0 t /\ ∀ j ∈ i :: D, ∀ q, ops[j]? = some q -> q.dst ≠ some t) := fun y hy => by
   obtain ⟨T1, hp⟩ := putT_of (T := T) (d := o.dst) y fun q hq => by
    have := (k5 q hq).2
    rw [fr1] at this
    rw [hn]; exact this
   obtain ⟨p1, p2, _⟩ := putT_some hp
   refine ⟨T1, hp, p1.trans hn, (putT_rest hp).2.2.trans hmu, fun t => ?_⟩
   rw [p2 t]
   by_cases e : o.dst = some t
   ·rw [if_pos e]; exact .inl ⟨⟨i, o, by simp, ho, e⟩, hy t e⟩
   ·rw [if_neg e]
    rcases hg t with ⟨⟨j, q, hj, hq, hd⟩, h⟩ | ⟨h, hno⟩
    ·exact .inl ⟨⟨j, q, List.mem_cons_of_mem _ hj, hq, hd⟩, h⟩
    ·refine .inr ⟨h, fun j hj q hq => ?_⟩
     rw [List.mem_cons] at hj
     rcases hj with rfl | hj
     ·rw [ho] at hq; cases hq; exact e
     ·exact hno j hj q hq
  have hsucc : cnt P ops (fun _ => true) (i + 1) = cnt P ops (fun _ => true) i + if eff P o then 1 else 0 := by rw [cnt_succ, heffi]; simp
  have hclosed : ∀ k, k ∈ D -> ∀ j, bitOf (masks ops) k j = true -> j ∈ D := fun k hk j hb =>
   bit_lt_dep (fun k => k ∈ D) hst.back (fun k q hq hk e he hb => (hD k hk).2 q hq e he hb) k j (hD k hk).1 hb (fun q hq e he hb => (hD k hk).2 q hq e he hb)
  have opAt : ∀ {j : Nat}, j < ops.size -> effAt P ops j = true -> ∃ oj, ops[j]? = some oj /\ eff P oj = true := fun {j} hj he => by
   refine ⟨ops[j], Array.getElem?_eq_getElem hj, ?_⟩
   simpa [effAt, Array.getElem?_eq_getElem hj] using he
  -- one step
  have stepU : Region.wanted o (yieldedA ops Ti) = false -> Beh P G call ops Ts (s0 :: ss) pr (i :: D) s -> ∃ T', evOps0 P G call ops (i :: rest) T s = some (T', sf) /\ T'.n = T0.n /\ ∀ t, gt T' t = gt Tf t := fun hw hat => by
   obtain ⟨hxu, _⟩ := k4 hw
   obtain ⟨T1, hp, n1, m1, g1⟩ := hput und fun d hd => by rw [<- hxu]; exact ((k5 d hd).1).symm
   unfold evOps0
   rw [fetch_of ho hgT]
   simp only
   rw [r2, hw]
   simp only [Bool.false_eq_true, if_false]
   rw [hp]
   exact ih hv' hD' n1 m1 g1 hat
  have stepW : ∀ (y : AV) (s1 : St), Region.wanted o (yieldedA ops Ti) = true -> evOp P G call o Ti s = some (y, s1) -> isPan y = none -> (∀ d, o.dst = some d -> y = gt Tf d) -> Beh P G call ops Ts (s0 :: ss) pr (i :: D) s1 ->
    ∃ T', evOps0 P G call ops (i :: rest) T s = some (T', sf) /\ T'.n = T0.n /\ ∀ t, gt T' t = gt Tf t := fun y s1 hw hy hyp hyd hat => by
   obtain ⟨T1, hp, n1, m1, g1⟩ := hput y hyd
   unfold evOps0
   rw [fetch_of ho hgT]
   simp only
   rw [r2, hw]
   simp only [if_true]
   rw [r1, hy]
   simp only
   rw [put_pan_of hyp, hp]
   exact ih hv' hD' n1 m1 g1 hat
  -- the pair's two stores, in the other order
  have swap : ∀ p q, pr = some (p, q) -> ∃ op oq Tp Tq sp alt s2 xp xq, ops[p]? = some op /\ ops[q]? = some oq /\ Ts[p]? = some Tp /\ Ts[q]? = some Tq /\ Region.wanted op (yieldedA ops Tp) = true /\ Region.wanted oq (yieldedA ops Tq) = true /\ p < q /\ eff P op = true /\ eff P oq = true /\
    (∀ j, p < j -> j < q -> effAt P ops j = false) /\ (s0 :: ss)[cnt P ops (fun _ => true) p]? = some sp /\ evOp P G call oq Tq sp = some (xq, alt) /\ evOp P G call op Tp alt = some (xp, s2) /\ (s0 :: ss)[cnt P ops (fun _ => true) (q + 1)]? = some s2 /\ isPan xp = none /\ isPan xq = none /\
    (∀ d, op.dst = some d -> xp = gt Tf d) /\ (∀ d, oq.dst = some d -> xq = gt Tf d) /\
    (∀ i o, ops[i]? = some o -> eff P o = false -> ∀ Ti, Ts[i]? = some Ti -> Region.wanted o (yieldedA ops Ti) = true -> bitOf (masks ops) i p = false -> bitOf (masks ops) q i = false -> ∃ y s1, evOp P G call o Ti alt = some (y, s1) /\ isPan y = none /\ ∀ d, o.dst = some d -> y = gt Tf d) := by
   intro p q hpr
   obtain ⟨op, oq, Tp, Tq, sp, y, alt, f1, f2, f3, f4, w1, w2, hcq, hpq, ep, eq, hkind, hsp, halt, hoth⟩ := pair_facts (hpr ▸ hpk)
   have hp1 : cnt P ops (fun _ => true) (p + 1) = cnt P ops (fun _ => true) p + 1 := by rw [cnt_succ]; simp [effAt, f1, ep]
   obtain ⟨o1, x1, a1, a1', T1, u1, u2, _, _, _, u6, u7, u8, u9, _, u11⟩ := c3 p (Nat.zero_le _) (Array.getElem?_eq_some_iff.1 f1).1
   rw [f1] at u1; cases u1
   rw [f3] at u2; cases u2
   rw [hsp] at u6; cases u6
   obtain ⟨o2, x2, a2, a2', T2, v1, v2, _, _, _, v6, v7, v8, v9, _, v11⟩ := c3 q (Nat.zero_le _) (Array.getElem?_eq_some_iff.1 f2).1
   rw [f2] at v1; cases v1
   rw [f4] at v2; cases v2
   rw [hcq, <- hp1, u7] at v6; cases v6
   have hcomm : ∃ xp xq, evOp P G call oq Tq sp = some (xq, alt) /\ evOp P G call op Tp alt = some (xp, a2') /\ isPan xp = none /\ isPan xq = none /\ (∀ d, op.dst = some d -> xp = gt Tf d) /\ (∀ d, oq.dst = some d -> xq = gt Tf d) := by
    obtain ⟨b, c, hb, hc, hbc, hbl, hcl⟩ := hkind
    obtain ⟨rfl, rfl, alt', g1, g2⟩ := stores_comm hbl hcl hb hc hbc (u8 w1) (v8 w2)
    rw [halt] at g1
    simp only [Option.some.injEq, Prod.mk.injEq] at g1
    obtain ⟨rfl, rfl⟩ := g1
    exact ⟨und, und, halt, g2, rfl, rfl, fun d hd => ((u11 d hd).1).symm, fun d hd => ((v11 d hd).1).symm⟩
   obtain ⟨xp, xq, g0, g2, g3, g4, g5, g6⟩ := hcomm
   refine ⟨op, oq, Tp, Tq, sp, alt, a2', xp, xq, f1, f2, f3, f4, w1, w2, hpq, ep, eq, fun j h1 h2 => ?_, hsp, g0, g2, v7, g3, g4, g5, g6, hoth⟩
   cases hej : effAt P ops j with
   | false => rfl
   | true =>
    have e1 : cnt P ops (fun _ => true) (j + 1) = cnt P ops (fun _ => true) j + 1 := by rw [cnt_succ, hej]; rfl
    have e2 : cnt P ops (fun _ => true) (p + 1) <= cnt P ops (fun _ => true) j := cnt_le (by omega)
    have e3 : cnt P ops (fun _ => true) (j + 1) <= cnt P ops (fun _ => true) q := cnt_le (by omega)
    omega
  by_cases hB : ∃ p q, pr = some (p, q) /\ q ∈ D /\ p ∉ D
  ·-- the later one of the pair is done, the first one is not
   obtain ⟨p, q, hpr, hqD, hpD⟩ := hB
   obtain ⟨op, oq, Tp, Tq, sp, alt, s2, xp, xq, f1, f2, f3, f4, w1, w2, hpq, ep, eq, hmid, hsp, halt, hlast, hs2, hpp, hpq', hdp, hdq, hoth⟩ := swap p q hpr
   have hsa : s = alt := hs.1 p q hpr hqD hpD oq Tq sp xq alt f2 f4 hsp halt
   subst hsa
   by_cases hip : i = p
   ·subst hip
    rw [f1] at ho; cases ho
    rw [f3] at e1; cases e1
    refine stepW xp s2 w1 hlast hpp hdp ⟨fun p' q' e hq' hp' => ?_, fun _ => ?_⟩
    ·rw [hpr] at e; cases e
     exact absurd (by simp) hp'
    ·have hc1 : cnt P ops (fun j => decide (j ∈ i :: D)) ops.size = cnt P ops (fun _ => true) (q + 1) := by
      rw [cnt_stop (i := q + 1) (by have := (Array.getElem?_eq_some_iff.1 f2).1; omega) fun j h1 h2 h3 => ?_]
      ·refine cnt_congr (q + 1) fun j hj hej => ?_
       simp only [decide_eq_true_eq, List.mem_cons]
       by_cases ejp : j = i
       ·exact .inl ejp
       ·by_cases ejq : j = q
        ·rw [ejq]; exact .inr hqD
        ·by_cases hjp : j < i
         ·obtain ⟨oj, hoj, hejo⟩ := opAt (by have := (Array.getElem?_eq_some_iff.1 f2).1; omega) hej
          rcases hst.eff q oq f2 eq j oj hoj hejo with h | h | h
          ·omega
          ·exact .inr (hclosed q hqD j h)
          ·rw [hpr] at h; cases h; exact absurd rfl ejp
         ·have := hmid j (by omega) (by omega)
          rw [this] at hej; cases hej
      ·simp only [decide_eq_false_iff_not, List.mem_cons, not_or]
       refine ⟨by omega, fun hjD => ?_⟩
       obtain ⟨oj, hoj, hejo⟩ := opAt h2 h3
       rcases hst.eff j oj hoj hejo i _ f1 ep with h | h | h
       ·omega
       ·exact hpD (hclosed j hjD i h)
       ·rw [hpr] at h; cases h; omega
     rw [hc1]; exact hs2
   ·-- nothing else that acts
    have hne : eff P o = false := by
     cases he : eff P o with
     | false => rfl
     | true =>
      exfalso
      rcases hst.eff i o ho he p op f1 ep with h | h | h
      ·rcases hst.eff q oq f2 eq i o ho he with h' | h' | h'
       ·omega
       ·rw [hnot q hqD] at h'; cases h'
       ·rw [hpr] at h'; cases h'; exact hip rfl
      ·exact hpD (hdone p h)
      ·rw [hpr] at h; cases h; exact hnD hqD
    have hat : Beh P G call ops Ts (s0 :: ss) pr (i :: D) s := by
     refine ⟨fun p' q' e hq' hp' oq' Tq' sp' y' alt' g1 g2 g3 g4 => ?_, fun h => ?_⟩
     ·rw [hpr] at e; cases e
      rw [f2] at g1; cases g1
      rw [f4] at g2; cases g2
      rw [hsp] at g3; cases g3
      rw [halt] at g4; cases g4
      rfl
     ·exact (h p q hpr (List.mem_cons_of_mem _ hqD) (by rw [List.mem_cons, not_or]; exact ⟨fun e => hip e.symm, hpD⟩)).elim
    cases hw : Region.wanted o (yieldedA ops Ti) with
    | false => exact stepU hw hat
    | true =>
     obtain ⟨y, s1, g1, g2, g3⟩ := hoth i o ho hne Ti (by simpa using e1) hw (by
      cases hb : bitOf (masks ops) i p with
      | false => rfl
      | true => exact absurd (hdone p hb) hpD) (hnot q hqD)
     have := noneff_state hfg (by rw [em]; exact hpu) hne g1
     subst this
     exact stepW y s1 hw g1 g2 g3 hat
  ·have hnorm := hs.2 (fun p q e hq hp => hB ⟨p, q, e, hq, hp⟩)
   by_cases hA : ∃ p, pr = some (p, i) /\ p ∉ D
   ·-- the later one of the pair comes ahead of the first one
    obtain ⟨p, hpr, hpD⟩ := hA
    obtain ⟨op, oq, Tp, Tq, sp, alt, s2, xp, xq, f1, f2, f3, f4, w1, w2, hpq, ep, eq, hmid, hsp, halt, hlast, hs2, hpp, hpq', hdp, hdq, hoth⟩ := swap p i hpr
    rw [f2] at ho; cases ho
    rw [f4] at e1; cases e1
    have hc1 : cnt P ops (fun j => decide (j ∈ D)) ops.size = cnt P ops (fun _ => true) p := by
     rw [cnt_stop (i := p) (by omega) fun j h1 h2 h3 => ?_]
     ·refine cnt_congr p fun j hj hej => ?_
      simp only [decide_eq_true_eq]
      obtain ⟨oj, hoj, hejo⟩ := opAt (by omega) hej
      rcases hst.eff i o f2 eq j oj hoj hejo with h | h | h
      ·omega
      ·exact hdone j h
      ·rw [hpr] at h; cases h; omega
     ·simp only [decide_eq_false_iff_not]
      intro hjD
      by_cases ejp : j = p
      ·subst ejp; exact hpD hjD
      ·by_cases ejq : j = i
       ·subst ejq; exact hnD hjD
       ·by_cases hjq : j < i
        ·have := hmid j (by omega) hjq
         rw [this] at h3; cases h3
        ·obtain ⟨oj, hoj, hejo⟩ := opAt h2 h3
         rcases hst.eff j oj hoj hejo p op f1 ep with h | h | h
         ·omega
         ·exact hpD (hclosed j hjD p h)
         ·rw [hpr] at h; cases h; exact ejq rfl
    rw [hc1, hsp] at hnorm
    cases hnorm
    refine stepW xq alt w2 halt hpq' hdq ⟨fun p' q' e hq' hp' oq' Tq' sp' y' alt' g1 g2 g3 g4 => ?_, fun h => ?_⟩
    ·rw [hpr] at e; cases e
     rw [f2] at g1; cases g1
     rw [f4] at g2; cases g2
     rw [hsp] at g3; cases g3
     rw [halt] at g4; cases g4
     rfl
    ·exact (h p i hpr (by simp) (by rw [List.mem_cons, not_or]; exact ⟨by omega, hpD⟩)).elim
   ·-- as the text has it
    have hfar : ∀ p q, pr = some (p, q) -> q ∈ i :: D -> p ∉ i :: D -> False := fun p q e hq hp => by
     rw [List.mem_cons, not_or] at hp
     rw [List.mem_cons] at hq
     rcases hq with rfl | hq
     ·exact hA ⟨p, e, hp.2⟩
     ·exact hB ⟨p, q, e, hq, hp.2⟩
    have hat : ∀ s1, (s0 :: ss)[cnt P ops (fun j => decide (j ∈ i :: D)) ops.size]? = some s1 -> Beh P G call ops Ts (s0 :: ss) pr (i :: D) s1 := fun s1 h => ⟨fun p q e hq hp => (hfar p q e hq hp).elim, fun _ => h⟩
    have heffp : eff P o = true -> cnt P ops (fun j => decide (j ∈ D)) ops.size = cnt P ops (fun _ => true) i := fun he => by
     rw [cnt_stop (i := i) (Nat.le_of_lt hi) fun j h1 h2 h3 => ?_]
     ·refine cnt_congr i fun j hj hej => ?_
      obtain ⟨oj, hoj, hejo⟩ := opAt (by omega) hej
      rcases hst.eff i o ho he j oj hoj hejo with h | h | h
      ·omega
      ·simpa using hdone j h
      ·by_cases hjD : j ∈ D
       ·simpa using hjD
       ·exact (hA ⟨j, h, hjD⟩).elim
     ·by_cases hjD : j ∈ D
      ·exfalso
       obtain ⟨oj, hoj, hejo⟩ := opAt h2 h3
       rcases hst.eff j oj hoj hejo i o ho he with h | h | h
       ·have : j = i := by omega
        subst this; exact hnD hjD
       ·rw [hnot j hjD] at h; cases h
       ·exact hB ⟨i, j, h, hjD, hnD⟩
      ·simpa using hjD
    cases hw : Region.wanted o (yieldedA ops Ti) with
    | false =>
     obtain ⟨hxu, hsk⟩ := k4 hw
     refine stepU hw (hat s ?_)
     rw [hcnt]
     cases he : eff P o with
     | false => simpa using hnorm
     | true =>
      rw [heffp he] at hnorm ⊢
      rw [k1] at hnorm; cases hnorm
      rw [he] at hsucc; simp only [if_true] at hsucc ⊢
      rw [<- hsucc, <- hsk]; exact k2
    | true =>
     cases he : eff P o with
     | true =>
      have hp0 := heffp he
      rw [hp0, k1] at hnorm; cases hnorm
      refine stepW x sk' hw (k3 hw) kp (fun d hd => ((k5 d hd).1).symm) (hat sk' ?_)
      rw [hcnt, hp0, he]
      rw [he] at hsucc; simp only [if_true] at hsucc ⊢
      rw [<- hsucc]; exact k2
     | false =>
      have hstep : ∃ y, evOp P G call o Ti s = some (y, s) /\ isPan y = none /\ ∀ d, o.dst = some d -> y = gt Tf d := by
       unfold dynOk at hdyn
       simp only [Bool.or_eq_true] at hdyn
       rcases hdyn with hd | hd
       ·-- nothing acts
        have hd := Nat.le_of_ble_eq_true hd
        have hone : ∀ p q, (s0 :: ss)[p]? = some q -> q = s0 := fun p q hq => by
         have := (List.getElem?_eq_some_iff.1 hq).1
         have : p = 0 := by omega
         subst this; simpa using hq.symm
        have e1 := hone _ _ hnorm
        have e2 := hone _ _ k1
        have h3 := k3 hw
        rw [e2, <- e1] at h3
        have := noneff_state hfg (by rw [em]; exact hpu) he h3
        subst this
        exact ⟨x, h3, kp, fun d hd => ((k5 d hd).1).symm⟩
       ·rw [List.all_eq_true] at hd
        have := hd (o, i) (by rw [List.mk_mem_zipIdx_iff_getElem?, Array.getElem?_toList]; exact ho)
        simp only [e1, he, hw, Bool.not_true, Bool.false_or, List.all_eq_true, List.mem_range] at this
        have hlt := (List.getElem?_eq_some_iff.1 hnorm).1
        have := this _ hlt
        have hlo : Nat.ble (cnt P ops (fun j => bitOf (masks ops) i j) ops.size) (cnt P ops (fun j => decide (j ∈ D)) ops.size) = true :=
         Nat.ble_eq_true_of_le (cnt_mono _ fun j _ _ hb => by simpa using hdone j hb)
        have hhi : Nat.ble (cnt P ops (fun j => decide (j ∈ D)) ops.size) (cnt P ops (fun j => !bitOf (masks ops) j i) ops.size) = true :=
         Nat.ble_eq_true_of_le (cnt_mono _ fun j _ _ hb => by rw [hnot j (by simpa using hb)]; rfl)
        rw [hlo, hhi, hnorm] at this
        simp only [Bool.not_true, Bool.false_or] at this
        split at this
        ·rename_i y s1 hy
         have := noneff_state hfg (by rw [em]; exact hpu) he hy
         subst this
         rw [Bool.and_eq_true] at this
         refine ⟨y, hy, by simpa using this.1, fun d hd => ?_⟩
         have this := this.2
         rw [hd] at this
         exact aEq_eq this
        ·cases this
      obtain ⟨y, hy, hyp, hyd⟩ := hstep
      refine stepW y s hw hy hyp hyd (hat s ?_)
      rw [hcnt, he]
      simpa using hnorm

theorem drawnG_sound (hfg : Fg.fg = true -> ∃ c0, call = fgCall c0) {B0 : Nat} {w0 : World} (hP : NoNum P) (hmix : P.follows .mixedOrders = true) (hcall : CallOk P G B0 w0 call) :
  ∀ ops T s T' s', evDrawnG P G call ops T s = some (T', s') -> ∀ (w : World) (M : Mp) (a : Act) (Q : Exit -> Act -> World -> Prop), Sim G B0 w0 w s M -> TmR w s M T a ->
  (∀ a' w' M', TmR w' s' M' T' a' -> Sim G B0 w0 w' s' M' -> Ext w s M w' s' M' -> Q .normal a' w') -> ∀ (ro : Option Nat) t, wpOpsIn (FW ro) 0 P ops Q (Region.schedule (P.follows .mixedOrders) ops t) a w.drew := by
 intro ops T s T' s' h w M a Q hs hT hq ro t
 unfold evDrawnG at h
 dsimp only at h
 split at h
 ·rename_i hst
  have hst := static_of hst
  split at h
  ·rename_i Ts Tf ss sf hrec
   split at h
   ·rename_i hdyn
    rw [Bool.and_eq_true] at hdyn
    obtain ⟨hdyn, hpk⟩ := hdyn
    cases h
    rw [hmix]
    obtain ⟨T1, e1, e2, e3⟩ := any_order hst hrec hdyn hpk hfg rfl (schedule_valid hst.back t) (by simp) rfl rfl (fun t => .inr ⟨rfl, fun i hi => by cases hi⟩) (s := s) ⟨(fun p q _ hq => by cases hq), fun _ => by
     have : cnt P ops (fun j => decide (j ∈ ([] : List Nat))) ops.size = 0 := by
      unfold cnt; rw [List.countP_eq_zero]; simp
     rw [this]; rfl⟩
    refine ops_sound hP hcall (fun h => by cases h) (ops0_ops e1) (sim_drew hs) (T := { T with mu := (T.mu.1, true) }) (a := a) ⟨(hT.ext ext_drew).size, (hT.ext ext_drew).get, (hT.ext ext_drew).defers, (hT.ext ext_drew).dlt⟩ fun e a' w' M' k0 k1 k2 k3 => ?_
    obtain rfl : e = .normal := k0
    have hds := (ops0_rest e1).1.trans (rec_rest hrec).1.symm
    have hdl := (ops0_rest e1).2.1.trans (rec_rest hrec).2.1.symm
    refine hq a' w' M' ⟨?_, fun t => ?_, by rw [<- hds, <- hdl]; exact k1.defers, by rw [<- hds]; exact k1.dlt⟩ k2 (ext_drew.trans k3)
    ·rw [k1.size, e2]; rw [List.range_eq_range'] at hrec; exact (rec_frame hrec).1.symm
    ·show VR w' _ M' (gt Tf t) _
     rw [<- e3 t]; exact k1.get t
   ·cases h
  ·cases h
 ·cases h
end
section
variable [Interp] {P : Program} {G : Nat -> Option (List AV)} {call : Ab.Call}
theorem drawn_sound {B0 : Nat} {w0 : World} (hP : NoNum P) (hmix : P.follows .mixedOrders = true) (hcall : CallOk P G B0 w0 call) :
  ∀ ops T s T' s', evDrawn P G call ops T s = some (T', s') -> ∀ (w : World) (M : Mp) (a : Act) (Q : Exit -> Act -> World -> Prop), Sim G B0 w0 w s M -> TmR w s M T a ->
  (∀ a' w' M', TmR w' s' M' T' a' -> Sim G B0 w0 w' s' M' -> Ext w s M w' s' M' -> Q .normal a' w') -> ∀ (ro : Option Nat) t, wpOpsIn (FW ro) 0 P ops Q (Region.schedule (P.follows .mixedOrders) ops t) a w.drew := by
 intro ops T s T' s' h
 unfold evDrawn at h
 split at h
 ·exact drawnG_sound (fgI := ⟨true⟩) (fun _ => ⟨call, rfl⟩) hP hmix (fgCall_ok hcall) ops T s T' s' h
 ·exact drawnG_sound (fun h => by cases h) hP hmix hcall ops T s T' s' h
end
end Go.Ab
/- A new variable that stands in no order beside calls. -/
namespace Go.Ab
open Go Go.RowKit

structure Tx [Interp] (w : World) (s : St) (M : Mp) (w' : World) (s' : St) (M' : Mp) : Prop where
 cells : ∀ b off v, w.cell? ⟨b, off, none⟩ = some v -> Imm s M b off -> w'.cell? ⟨b, off, none⟩ = some v /\ Imm s' M' b off
 n : s.n <= s'.n
 map : ∀ i, i < s.n -> M'.blk i = M.blk i /\ M'.cap i = M.cap i
 rows : ∀ i tip e, i < s.n -> s'.get i = some (.row tip e) -> s.get i = some (.row tip e)
 env : M'.env = M.env
 k : s'.k = s.k
section
variable [Interp] {w w' : World} {s s' : St} {M M' : Mp}
theorem TokOk.tx (h : Tx w s M w' s' M') {tok : Option Nat} {b off cap : Nat} (k : TokOk s M tok b off cap) : TokOk s' M' tok b off cap := by
 intro t ht
 obtain ⟨hn, hr⟩ := k t ht
 refine ⟨Nat.lt_of_lt_of_le hn h.n, fun tip e hg => ?_⟩
 obtain ⟨h1, h2, h3⟩ := hr tip e (h.rows t tip e hn hg)
 exact ⟨h1.trans (h.map t hn).1.symm, h2, h3.trans (h.map t hn).2.symm⟩
theorem TokD.tx (h : Tx w s M w' s' M') {tok : Option Nat} {y : Value} (k : TokD s M tok y) : TokD s' M' tok y := by
 intro t ht
 obtain ⟨hn, hr⟩ := k t ht
 refine ⟨Nat.lt_of_lt_of_le hn h.n, fun tip e hg => ?_⟩
 obtain ⟨l, h1⟩ := hr tip e (h.rows t tip e hn hg)
 exact ⟨l, by rw [h1, (h.map t hn).1, (h.map t hn).2]⟩
theorem renFn.tx (h : Tx w s M w' s' M') {f f' : Fn} (k : renFn s M f = some f') : renFn s' M' f = some f' := by
 cases f <;> simp only [renFn, reduceCtorEq] at k ⊢
 ·exact k
 ·split at k
  ·rename_i l hl
   rw [if_pos (Nat.lt_of_lt_of_le hl h.n), (h.map _ hl).1]; exact k
  ·cases k
mutual
theorem VR.tx (h : Tx w s M w' s' M') : ∀ {c : AV} {v : Value}, VR w s M c v -> VR w' s' M' c v
 | .v x, y, k => by unfold VR at k ⊢; exact k
 | .ref cs, y, k => by unfold VR at k ⊢; obtain ⟨b, off, e, k⟩ := k; exact ⟨b, off, e, VRs.tx h k⟩
 | .box i off, y, k => by unfold VR at k ⊢; exact ⟨Nat.lt_of_lt_of_le k.1 h.n, by rw [(h.map i k.1).1]; exact k.2⟩
 | .sl cs len tok, y, k => by unfold VR at k ⊢; obtain ⟨b, off, cap, e, hl, k, ht⟩ := k; exact ⟨b, off, cap, e, hl, VRs.tx h k, ht.tx h⟩
 | .ms i off len, y, k => by unfold VR at k ⊢; refine ⟨Nat.lt_of_lt_of_le k.1 h.n, ?_⟩; rw [(h.map i k.1).1]; exact k.2
 | .mg i len, y, k => by unfold VR at k ⊢; rw [(h.map i k.1).1, (h.map i k.1).2]; exact ⟨Nat.lt_of_lt_of_le k.1 h.n, k.2⟩
 | .e0, y, k => by unfold VR at k ⊢; exact k
 | .mp i, y, k => by unfold VR at k ⊢; exact ⟨Nat.lt_of_lt_of_le k.1 h.n, by rw [(h.map i k.1).1]; exact k.2⟩
 | .fn f a b, y, k => by unfold VR at k ⊢; obtain ⟨f', a', b', e, k0, k1, k2⟩ := k; exact ⟨f', a', b', e, renFn.tx h k0, VRl.tx h k1, VRl.tx h k2⟩
 | .agg cs, y, k => by unfold VR at k ⊢; obtain ⟨vs, e, k⟩ := k; exact ⟨vs, e, VRl.tx h k⟩
 | .tup cs, y, k => by unfold VR at k ⊢; obtain ⟨vs, e, k⟩ := k; exact ⟨vs, e, VRl.tx h k⟩
 | .iface t x, y, k => by unfold VR at k ⊢; obtain ⟨v, e, k⟩ := k; exact ⟨v, e, VR.tx h k⟩
 | .pan x, y, k => by unfold VR at k; exact k.elim
 | .any, y, k => by unfold VR at k ⊢; exact k
 | .sy _ _, y, k => by unfold VR at k ⊢; exact k
 | .x _ _, y, k => by unfold VR at k ⊢; rw [h.env]; exact k
 | .d _ _ _, y, k => by unfold VR at k ⊢; rw [h.env, h.k]; exact ⟨k.1.mono h.cells, k.2.1, k.2.2.tx h⟩
 | .so _ _ _ _ _, y, k => by unfold VR at k ⊢; rw [h.env, (h.map _ k.1).1, (h.map _ k.1).2]; exact ⟨Nat.lt_of_lt_of_le k.1 h.n, k.2⟩
 | .po _ _ _, y, k => by unfold VR at k ⊢; rw [h.env, (h.map _ k.1).1]; exact ⟨Nat.lt_of_lt_of_le k.1 h.n, k.2⟩
 | .rd _ _ _, y, k => by unfold VR at k ⊢; rw [h.env, h.k]; obtain ⟨b, off, cs, e, e2, k, k2⟩ := k; exact ⟨b, off, cs, e, e2, DVs.mono h.cells k, k2⟩
theorem VRs.tx (h : Tx w s M w' s' M') : ∀ {cs : List AV} {b off : Nat}, VRs w s M cs b off -> VRs w' s' M' cs b off
 | [], _, _, _ => by unfold VRs; trivial
 | c :: r, b, off, k => by
  unfold VRs at k ⊢
  obtain ⟨⟨v, hv, k1⟩, k2, k3, k4⟩ := k
  obtain ⟨hc, hi⟩ := h.cells b off v hv k3
  exact ⟨⟨v, hc, VR.tx h k1⟩, k2, hi, VRs.tx h k4⟩
theorem VRl.tx (h : Tx w s M w' s' M') : ∀ {cs : List AV} {vs : List Value}, VRl w s M cs vs -> VRl w' s' M' cs vs
 | [], _, k => by unfold VRl at k ⊢; exact k
 | c :: r, vs, k => by
  unfold VRl at k ⊢
  obtain ⟨v, t, e, k1, k2⟩ := k
  exact ⟨v, t, e, VR.tx h k1, VRl.tx h k2⟩
end
theorem MR.tx (h : Tx w s M w' s' M') : ∀ {es : List (Value × AV)} {vs : List MapEntry}, MR w s M es vs -> MR w' s' M' es vs
 | [], _, k => k
 | (_, _) :: _, _, ⟨e, t, e1, e2, k1, k2⟩ => ⟨e, t, e1, e2, k1.tx h, MR.tx h k2⟩
theorem DLr.tx (e : Tx w s M w' s' M') : ∀ {l : List (Nat × List AV × List AV)} {dv : List Deferred}, DLr w s M l dv -> DLr w' s' M' l dv
 | [], _, h => h
 | (_, _, _) :: _, _, ⟨args, cap, t, e1, h1, h2, h3⟩ => ⟨args, cap, t, e1, h1.tx e, h2.tx e, DLr.tx e h3⟩
theorem TmR.tx {T : Tm} {a : Act} (h : TmR w s M T a) (e : Tx w s M w' s' M') : TmR w' s' M' T a :=
 ⟨h.size, fun t => (h.get t).tx e, by
  obtain ⟨dv, h1, h2⟩ := h.defers
  refine ⟨dv, h1.tx e, ?_⟩
  rw [h2]
  congr 1
  exact List.map_congr_left fun d hd => by rw [(e.map d (h.dlt d hd)).1], fun d hd => Nat.lt_of_lt_of_le (h.dlt d hd) e.n⟩
theorem ObjR.tx (h : Tx w s M w' s' M') {b cap : Nat} {o : AObj} (hk : w'.heap[b]? = w.heap[b]?) (ho : ObjR w s M b cap o) : ObjR w' s' M' b cap o := by
 cases o with
 | box cs esz => obtain ⟨c, e', fr, a1, a2, a3⟩ := ho; exact ⟨c, e', fr, hk.trans a1, a2.tx h, a3⟩
 | fz cs esz => obtain ⟨c, e', fr, a1, a2, a3⟩ := ho; exact ⟨c, e', fr, hk.trans a1, a2.tx h, a3⟩
 | row tip esz => obtain ⟨c, e', fr, a1, a2, a3, a4⟩ := ho; exact ⟨c, e', fr, hk.trans a1, a2, by rw [h.env]; exact a3, a4⟩
 | map es => obtain ⟨c, k, a1, a2⟩ := ho; exact ⟨c, k, hk.trans a1, a2.tx h⟩
 | dead => trivial
 | loop T ps asg body st pend => obtain ⟨rc, a1, a2, a3, a4, a5, a6, a7, a8⟩ := ho; exact ⟨rc, hk.trans a1, a2, a3, a4, a5, a6, a7, fun t => (a8 t).tx h⟩
 | defs => exact hk.trans ho
 | sym k => show SymR _ _ _ _; rw [hk, h.env]; exact ho
 | ar t e z => exact arR_same h.cells h.env h.k hk ho
end

section
variable [Interp] {P : Program} {G : Nat -> Option (List AV)} {call : Ab.Call}
theorem drawnG_any [Fg] (hfg : Fg.fg = true -> ∃ c0, call = fgCall c0) {ops : Array Oper} {T Tf : Tm} {s sf : St} (h : evDrawnG P G call ops T s = some (Tf, sf)) :
  Static P (loosePair P ops) ops /\ Tf.n = T.n /\ Tf.ds = T.ds /\ Tf.dl = T.dl /\ ∀ L, Valid ops [] L -> ∃ T', evOps0 P G call ops L { T with mu := (T.mu.1, true) } s = some (T', sf) /\ T'.n = T.n /\ ∀ t, gt T' t = gt Tf t := by
 unfold evDrawnG at h
 dsimp only at h
 split at h
 ·rename_i hst
  have hst := static_of hst
  split at h
  ·rename_i Ts Tf ss sf hrec
   split at h
   ·rename_i hdyn
    rw [Bool.and_eq_true] at hdyn
    obtain ⟨hdyn, hpk⟩ := hdyn
    cases h
    refine ⟨hst, ?_, (rec_rest hrec).1, (rec_rest hrec).2.1, fun L hL => ?_⟩
    ·rw [List.range_eq_range'] at hrec; exact (rec_frame hrec).1
    ·obtain ⟨T1, e1, e2, e3⟩ := any_order hst hrec hdyn hpk hfg rfl hL (by simp) rfl rfl (fun t => .inr ⟨rfl, fun i hi => by cases hi⟩) (s := s) ⟨(fun p q _ hq => by cases hq), fun _ => by
      have : cnt P ops (fun j => decide (j ∈ ([] : List Nat))) ops.size = 0 := by
       unfold cnt; rw [List.countP_eq_zero]; simp
      rw [this]; rfl⟩
     exact ⟨T1, e1, e2, e3⟩
   ·cases h
  ·cases h
 ·cases h
theorem ops0_append {ops : Array Oper} {l2 : List Nat} : ∀ {l1 : List Nat} {T T' : Tm} {s s' : St}, evOps0 P G call ops (l1 ++ l2) T s = some (T', s') -> ∃ T1 s1, evOps0 P G call ops l1 T s = some (T1, s1) /\ evOps0 P G call ops l2 T1 s1 = some (T', s')
 | [], T, T', s, s', h => ⟨T, s, rfl, h⟩
 | i :: rest, T, T', s, s', h => by
  rw [List.cons_append] at h
  simp only [evOps0] at h ⊢
  cases hfo : fetch ops T i with
  | none => rw [hfo] at h; cases h
  | some o =>
   rw [hfo] at h
   simp only at h ⊢
   split at h
   ·rename_i hw
    rw [if_pos hw]
    cases hx : evOp P G call o T s with
    | none => rw [hx] at h; cases h
    | some r =>
     obtain ⟨x, s1⟩ := r
     rw [hx] at h
     simp only at h ⊢
     cases hp : (if (isPan x).isNone then putT T o.dst x else none) with
     | none => rw [hp] at h; cases h
     | some T1 => rw [hp] at h; exact ops0_append h
   ·rename_i hw
    rw [if_neg hw]
    cases hp : putT T o.dst und with
    | none => rw [hp] at h; cases h
    | some T1 => rw [hp] at h; exact ops0_append h
theorem gk_none {ops : Array Oper} {T : Tm} {o : Oper} (h : o.guard = none) : gk ops T o = true := by unfold gk; rw [h]
theorem wanted_none {o : Oper} {f : Nat -> Option Bool} (h : o.guard = none) : Region.wanted o f = true := by unfold Region.wanted; rw [h]
theorem ops0_congr {ops ops1 : Array Oper} : ∀ {l : List Nat} {T : Tm} {s : St}, (∀ i, i ∈ l -> ∃ o, ops[i]? = some o /\ ops1[i]? = some o /\ o.guard = none) -> evOps0 P G call ops l T s = evOps0 P G call ops1 l T s
 | [], T, s, h => rfl
 | i :: rest, T, s, h => by
  obtain ⟨o, h1, h2, hg⟩ := h i (by simp)
  unfold evOps0
  rw [fetch_of h1 (gk_none hg), fetch_of h2 (gk_none hg)]
  simp only [wanted_none hg, if_true]
  cases evOp P G call o T s with
  | none => rfl
  | some r =>
   obtain ⟨x, s1⟩ := r
   simp only
   cases (if (isPan x).isNone then putT T o.dst x else none) with
   | none => rfl
   | some T1 => exact ops0_congr fun j hj => h j (by simp [hj])
structure But (d : Nat) (T T2 : Tm) : Prop where
 n : T2.n = T.n
 ds : T2.ds = T.ds
 dl : T2.dl = T.dl
 mu : T2.mu = T.mu
 get : ∀ t, t ≠ d -> gt T2 t = gt T t
theorem ops0_upd {ops : Array Oper} {d : Nat} : ∀ {l : List Nat} {T T' T2 : Tm} {s s' : St}, (∀ i, i ∈ l -> ∀ o, ops[i]? = some o -> d ∉ readsOf ops o /\ o.dst ≠ some d) -> evOps0 P G call ops l T s = some (T', s') -> But d T T2 ->
  ∃ T2', evOps0 P G call ops l T2 s = some (T2', s') /\ But d T' T2' /\ gt T2' d = gt T2 d
 | [], T, T', T2, s, s', _, h, hb => by
  simp only [evOps0, Option.some.injEq, Prod.mk.injEq] at h
  obtain ⟨rfl, rfl⟩ := h
  exact ⟨T2, rfl, hb, rfl⟩
 | i :: rest, T, T', T2, s, s', hr, h, hb => by
  unfold evOps0 at h
  cases hfo : fetch ops T i with
  | none => rw [hfo] at h; cases h
  | some o =>
   rw [hfo] at h
   obtain ⟨ho, hgk⟩ := fetch_some hfo
   obtain ⟨hd, hdst⟩ := hr i (by simp) o ho
   obtain ⟨r1, r2, r3⟩ := reads_agree (P := P) (G := G) (call := call) (s := s) (T := T2) (T' := T) hb.mu fun t ht => hb.get t (fun e => hd (e ▸ ht))
   have hput : ∀ {x : AV} {T1 : Tm}, putT T o.dst x = some T1 -> ∃ T21, putT T2 o.dst x = some T21 /\ But d T1 T21 /\ gt T21 d = gt T2 d := fun {x T1} hp => by
    obtain ⟨p1, p2, p3⟩ := putT_some hp
    obtain ⟨T21, hq⟩ := putT_of (T := T2) (d := o.dst) x fun q hq => by rw [hb.n]; exact p3 q hq
    obtain ⟨q1, q2, q3⟩ := putT_some hq
    obtain ⟨a1, a2, a3⟩ := putT_rest hp
    obtain ⟨b1, b2, b3⟩ := putT_rest hq
    refine ⟨T21, hq, ⟨by rw [q1, p1, hb.n], by rw [b1, a1, hb.ds], by rw [b2, a2, hb.dl], by rw [b3, a3, hb.mu], fun t ht => ?_⟩, by rw [q2 d, if_neg hdst]⟩
    rw [q2 t, p2 t, hb.get t ht]
   unfold evOps0
   rw [fetch_of ho (by rw [r3]; exact hgk)]
   simp only at h ⊢
   rw [r2, r1]
   split at h
   ·rename_i hw
    rw [if_pos hw]
    cases hx : evOp P G call o T s with
    | none => rw [hx] at h; cases h
    | some r =>
     obtain ⟨x, s1⟩ := r
     rw [hx] at h
     simp only at h ⊢
     split at h
     ·rename_i T1 hp
      obtain ⟨hpan, hp⟩ := put_pan hp
      obtain ⟨T21, hq, hb1, hd1⟩ := hput hp
      rw [put_pan_of hpan, hq]
      obtain ⟨T2', g1, g2, g3⟩ := ops0_upd (fun j hj => hr j (by simp [hj])) h hb1
      exact ⟨T2', g1, g2, g3.trans hd1⟩
     ·cases h
   ·rename_i hw
    rw [if_neg hw]
    split at h
    ·rename_i T1 hp
     obtain ⟨T21, hq, hb1, hd1⟩ := hput hp
     rw [hq]
     obtain ⟨T2', g1, g2, g3⟩ := ops0_upd (fun j hj => hr j (by simp [hj])) h hb1
     exact ⟨T2', g1, g2, g3.trans hd1⟩
    ·cases h
theorem put_getD {a : Act} {d : Option Nat} {v : Value} {t : Nat} (h : d ≠ some t) : (a.put d v).tmps.getD t undef = a.tmps.getD t undef := by
 cases d with
 | none => rfl
 | some d =>
  simp only [Act.put]
  rw [Array.getD_eq_getD_getElem?, Array.getD_eq_getD_getElem?, Array.getElem?_setIfInBounds_ne (fun e => h (by rw [e]))]
theorem ops0_cont {B0 : Nat} {w0 : World} (hP : NoNum P) (hcall : CallOk P G B0 w0 call) {ops : Array Oper} {ro : Option Nat} {Q : Exit -> Act -> World -> Prop} {l2 : List Nat} : ∀ {l1 : List Nat} {T T' : Tm} {s s' : St} {w : World} {M : Mp} {a : Act}, evOps0 P G call ops l1 T s = some (T', s') ->
  Sim G B0 w0 w s M -> TmR w s M T a -> (∀ a' w' M', TmR w' s' M' T' a' -> Sim G B0 w0 w' s' M' -> Ext w s M w' s' M' -> (∀ t, (∀ i, i ∈ l1 -> ∀ o, ops[i]? = some o -> o.dst ≠ some t) -> a'.tmps.getD t undef = a.tmps.getD t undef) -> wpOpsIn (FW ro) 0 P ops Q l2 a' w') -> wpOpsIn (FW ro) 0 P ops Q (l1 ++ l2) a w
 | [], T, T', s, s', w, M, a, h, hs, hT, hq => by
  simp only [evOps0, Option.some.injEq, Prod.mk.injEq] at h
  obtain ⟨rfl, rfl⟩ := h
  exact hq a w M hT hs (Ext.refl _ _ _) fun _ _ => rfl
 | i :: rest, T, T', s, s', w, M, a, h, hs, hT, hq => by
  unfold evOps0 at h
  rw [List.cons_append]
  unfold wpOpsIn
  cases hfo : fetch ops T i with
  | none => rw [hfo] at h; cases h
  | some o =>
   obtain ⟨ho, hgk⟩ := fetch_some hfo
   rw [hfo] at h
   rw [ho]
   simp only at h ⊢
   have hy : Region.wanted o (yielded ops a.tmps) = Region.wanted o (yieldedA ops T) := yielded_eq hT hgk
   rw [hy]
   split at h
   ·rename_i hw
    rw [if_pos hw]
    split at h
    ·rename_i x s1 hx
     split at h
     ·rename_i T1 hp
      obtain ⟨hpan, hp⟩ := put_pan hp
      have hnd : ∀ c, o.op ≠ .defer c := fun c hop => by simp only [evOp, evOp1, evSym, evSym0, evArr, evMore, hop, reduceCtorEq] at hx
      refine ⟨fun _ _ => trivial, ?_⟩
      rw [Oper.semAt_eq _ _ _ hnd]
      refine op_sound hP hcall hs hT hx ro _ _ (fun v w1 M1 hv hs1 hE => ?_) fun y' v w1 M1 hy' hv hs1 hE => by rw [hpan] at hy'; cases hy'
      refine ops0_cont hP hcall h hs1 ((hT.ext hE).put hp hv) fun a' w' M' k1 k2 k3 k4 => hq a' w' M' k1 k2 (hE.trans k3) fun t ht => ?_
      rw [k4 t fun j hj => ht j (by simp [hj]), put_getD (ht i (by simp) o ho)]
     ·cases h
    ·cases h
   ·rename_i hw
    rw [if_neg hw]
    split at h
    ·rename_i T1 hp
     refine ⟨fun _ _ => trivial, ops0_cont hP hcall h hs (hT.put hp VR_und) fun a' w' M' k1 k2 k3 k4 => hq a' w' M' k1 k2 k3 fun t ht => ?_⟩
     rw [k4 t fun j hj => ht j (by simp [hj]), put_getD (ht i (by simp) o ho)]
    ·cases h
end

theorem valid_mem {ops : Array Oper} : ∀ {L D : List Nat}, Valid ops D L -> (∀ i, i ∈ L -> i ∉ D /\ i < ops.size) /\ L.Nodup /\ ∀ i, i < ops.size -> i ∈ D \/ i ∈ L
 | [], D, h => ⟨fun i hi => by (cases hi), List.nodup_nil, fun i hi => .inl (h i hi)⟩
 | x :: r, D, ⟨h1, h2, h3, h4⟩ => by
  obtain ⟨k1, k2, k3⟩ := valid_mem h4
  refine ⟨fun i hi => ?_, List.nodup_cons.2 ⟨fun hx => (k1 x hx).1 (by simp), k2⟩, fun i hi => ?_⟩
  ·rcases List.mem_cons.1 hi with rfl | hi
   ·exact ⟨h2, h1⟩
   ·exact ⟨fun hd => (k1 i hi).1 (by simp [hd]), (k1 i hi).2⟩
  ·rcases k3 i hi with h | h
   ·rcases List.mem_cons.1 h with rfl | h
    ·exact .inr (by simp)
    ·exact .inl h
   ·exact .inr (by simp [h])
def Closed (ops : Array Oper) (D : List Nat) : Prop := ∀ k, k ∈ D -> ∀ (q : Oper), ops[k]? = some q -> ∀ e, e ∈ q.after.toList -> Region.binds .any e = true -> e.on ∈ D
theorem ahead {ops : Array Oper} (hb : Back ops) {D : List Nat} (hc : Closed ops D) {i j : Nat} (hi : i < ops.size) (hd : ∀ (o : Oper), ops[i]? = some o -> ∀ (e : Edge), e ∈ o.after.toList -> Region.binds .any e = true -> e.on ∈ D) (h : bitOf (masks ops) i j = true) : j ∈ D :=
 bit_lt_dep (fun k => k ∈ D) hb (fun k q hq hk e he hbe => hc k hk q hq e he hbe) i j hi h hd
theorem valid_tail {ops : Array Oper} (hb : Back ops) {m : Nat} (hm : ∀ i, m <= i -> i < ops.size -> ∀ j, j < i -> bitOf (masks ops) i j = true) : ∀ {L D : List Nat} {k : Nat}, m <= k -> k <= ops.size -> (∀ j, j ∈ D ↔ j < k) -> Valid ops D L -> L = List.range' k (ops.size - k)
 | [], D, k, hk, hks, hD, h => by
  have : ops.size = k := by
   by_cases c : k < ops.size
   ·have := (hD k).1 (h k c); omega
   ·omega
  rw [this, Nat.sub_self]; rfl
 | i :: r, D, k, hk, hks, hD, ⟨h1, h2, h3, h4⟩ => by
  have hc : Closed ops D := fun j hj q hq e he hbe => (hD _).2 (Nat.lt_trans (hb j q hq e he hbe) ((hD j).1 hj))
  have hik : k <= i := Nat.le_of_not_lt fun h => h2 ((hD i).2 h)
  have hki : i = k := by
   by_cases c : k < i
   ·have := ahead hb hc h1 h3 (hm i (by omega) h1 k c)
    have := (hD k).1 this
    omega
   ·omega
  subst hki
  rw [show ops.size - i = (ops.size - (i + 1)) + 1 by omega, List.range'_succ]
  congr 1
  exact valid_tail hb hm (by omega) (by omega) (fun j => by rw [List.mem_cons, hD j]; omega) h4
theorem valid_split {ops ops1 : Array Oper} (hb : Back ops) {m : Nat} (hms : m <= ops.size) (hm : ∀ i, m <= i -> i < ops.size -> ∀ j, j < i -> bitOf (masks ops) i j = true) (hs1 : ops1.size = m) (ha : ∀ (i : Nat) (o1 : Oper), ops1[i]? = some o1 -> ∃ o : Oper, ops[i]? = some o /\ o1.after = o.after) :
  ∀ {L D : List Nat}, (∀ j, j ∈ D -> j < m) -> Closed ops D -> Valid ops D L -> ∃ L1, L = L1 ++ List.range' m (ops.size - m) /\ Valid ops1 D L1
 | [], D, hD, hc, h => by
  have : ops.size = m := by
   by_cases c : m < ops.size
   ·have := hD m (h m c); omega
   ·omega
  refine ⟨[], by rw [this, Nat.sub_self]; rfl, fun i hi => h i (by omega)⟩
 | i :: r, D, hD, hc, ⟨h1, h2, h3, h4⟩ => by
  by_cases him : i < m
  ·obtain ⟨L1, e, hv⟩ := valid_split hb hms hm hs1 ha (L := r) (D := i :: D) (fun j hj => by
    rcases List.mem_cons.1 hj with rfl | hj
    ·exact him
    ·exact hD j hj) (fun k hk q hq e he hbe => by
    rcases List.mem_cons.1 hk with rfl | hk
    ·exact List.mem_cons_of_mem _ (h3 q hq e he hbe)
    ·exact List.mem_cons_of_mem _ (hc k hk q hq e he hbe)) h4
   refine ⟨i :: L1, by rw [e]; rfl, by omega, h2, fun o1 ho1 e he hbe => ?_, hv⟩
   obtain ⟨o, ho, hae⟩ := ha i o1 ho1
   exact h3 o ho e (by rw [<- hae]; exact he) hbe
  ·have hall : ∀ j, j < i -> j ∈ D := fun j hj => ahead hb hc h1 h3 (hm i (by omega) h1 j hj)
   have hi : i = m := by
    by_cases c : m < i
    ·have := hD m (hall m c); omega
    ·omega
   subst hi
   refine ⟨[], ?_, fun j hj => hall j (by omega)⟩
   rw [List.nil_append]
   have hv : Valid ops D (i :: r) := ⟨h1, h2, h3, h4⟩
   exact valid_tail hb hm (Nat.le_refl _) (by omega) (fun j => ⟨hD j, hall j⟩) hv

section
variable [Interp] {P : Program} {G : Nat -> Option (List AV)} {call : Ab.Call} {B0 : Nat} {w0 w : World} {s : St} {M : Mp}
def Mp.shy (M : Mp) (b : Nat) : Mp := { M with out := fun c off => M.out c off \/ c = b }
theorem shy_tx (ob : Obj) : Tx w s M (w.alloc ob) s (M.shy w.heap.size) := by
 refine ⟨fun c off v hc hi => ?_, Nat.le_refl _, fun _ _ => ⟨rfl, rfl⟩, fun _ _ _ _ h => h, rfl, rfl⟩
 have hl := cell?_lt hc
 refine ⟨(World.cell?_alloc_lt w ob ⟨c, off, none⟩ hl).trans hc, hi.1, fun h => ?_⟩
 rcases h with h | h
 ·exact hi.2 h
 ·omega
theorem shy_sim (h : Sim G B0 w0 w s M) (ob : Obj) : Sim G B0 w0 (w.alloc ob) s (M.shy w.heap.size) := by
 have hE := shy_tx (w := w) (s := s) (M := M) ob
 have hB : B0 <= w.heap.size := Nat.le_trans h.size h.below.size
 refine ⟨h.below.alloc hB ob, h.size, h.bound, fun i hi => ⟨(h.blk i hi).1, ?_⟩, h.inj, fun i o hi hg => (h.obj i o hi hg).tx hE (Below.heap_alloc w ob _ (h.blk i hi).2), fun g cs hg => (h.glob g cs hg).tx hE, h.fx, fun c off ho => ?_⟩
 ·rw [World.size_alloc]; exact Nat.lt_succ_of_lt (h.blk i hi).2
 ·rw [World.size_alloc]
  rcases ho with ho | rfl
  ·exact ⟨Nat.lt_succ_of_lt (h.out c off ho).1, (h.out c off ho).2⟩
  ·exact ⟨Nat.lt_succ_self _, fun i hi e => by have := (h.blk i hi).2; have e : M.blk i = w.heap.size := e; omega⟩
variable {O : Nat -> Nat -> Prop} {b : Nat}
def Mp.told (M : Mp) (O : Nat -> Nat -> Prop) (i b : Nat) : Mp := ({ M with out := O } : Mp).add i b 0
theorem told_tx (hr : s.room = true) (x : AObj) (hO : M.out = fun c off => O c off \/ c = b) : Tx w s M w (s.new x) (M.told O s.n b) := by
 have hb := room_lt hr
 refine ⟨fun c off v hc hi => ⟨hc, fun i o hin hg hbk => ?_, fun h => hi.2 (by rw [hO]; exact .inl h)⟩, Nat.le_succ _, fun i hi => ?_, fun i tip e hi hg => ?_, rfl, rfl⟩
 ·rw [St.get_new _ _ _ hb] at hg
  simp only [Mp.told, Mp.add] at hbk
  by_cases e : i = s.n
  ·rw [if_pos e] at hbk
   exact absurd (by rw [hO]; exact .inr hbk.symm) hi.2
  ·rw [if_neg e] at hg hbk
   exact hi.1 i o (by simp only [St.new] at hin; omega) hg hbk
 ·simp only [Mp.told, Mp.add, if_neg (Nat.ne_of_lt hi), and_self]
 ·rw [St.get_new _ _ _ hb, if_neg (Nat.ne_of_lt hi)] at hg; exact hg
theorem told_sim (h : Sim G B0 w0 w s M) (hr : s.room = true) (hO : M.out = fun c off => O c off \/ c = b) (hOb : ∀ off, ¬ O b off) (hB : B0 <= b) {z : List AV} {vs : Array Value} {t : TypeId} (hw : w.heap[b]? = some (.cells vs t))
  (hv : VRl w (s.new (.box z (codeOf t 0))) (M.told O s.n b) z vs.toList) (hc : z.all isCell = true) : Sim G B0 w0 w (s.new (.box z (codeOf t 0))) (M.told O s.n b) := by
 have hE := told_tx (w := w) hr (.box z (codeOf t 0)) hO
 have hb := room_lt hr
 have hbw : b < w.heap.size := (Array.getElem?_eq_some_iff.1 hw).1
 have hne : ∀ i, i < s.n -> M.blk i ≠ b := (h.out b 0 (by rw [hO]; exact .inr rfl)).2
 refine ⟨h.below, h.size, by simp only [St.new]; omega, fun i hi => ?_, fun i j oi oj hi hj gi gj li lj e => ?_, fun i o hi hg => ?_, fun g cs hg => (h.glob g cs hg).tx hE, h.fx, fun c off ho => ?_⟩
 ·simp only [Mp.told, Mp.add]
  by_cases e : i = s.n
  ·rw [if_pos e]; exact ⟨hB, hbw⟩
  ·rw [if_neg e]; exact h.blk i (by simp only [St.new] at hi; omega)
 ·rw [St.get_new _ _ _ hb] at gi gj
  simp only [St.new] at hi hj
  simp only [Mp.told, Mp.add] at e
  by_cases ei : i = s.n <;> by_cases ej : j = s.n
  ·omega
  ·rw [if_pos ei, if_neg ej] at e; exact absurd e.symm (hne j (by omega))
  ·rw [if_neg ei, if_pos ej] at e; exact absurd e (hne i (by omega))
  ·rw [if_neg ei] at gi; rw [if_neg ej] at gj; rw [if_neg ei, if_neg ej] at e
   exact h.inj i j oi oj (by omega) (by omega) gi gj li lj e
 ·rw [St.get_new _ _ _ hb] at hg
  simp only [St.new] at hi
  by_cases e : i = s.n
  ·rw [if_pos e] at hg; cases hg; subst e
   simp only [Mp.told, Mp.add, if_true]
   refine ⟨vs, t, (0, 0), hw, ?_, hc, .inl rfl, fun h => absurd (codeOf_mod (by decide)) h, fun _ => ⟨(codeOf_div (by decide)).symm, fun _ => by rw [hv.length]; simp⟩⟩
   rw [List.take_of_length_le (by rw [hv.length]; exact Nat.le_refl _)]
   exact hv
  ·rw [if_neg e] at hg
   have := (h.obj i o (by omega) hg).tx hE (b := M.blk i) (cap := M.cap i) rfl
   simpa only [Mp.told, Mp.add, if_neg e] using this
 ·have ho : O c off := ho
  have k := h.out c off (by rw [hO]; exact .inl ho)
  refine ⟨k.1, fun i hi => ?_⟩
  simp only [Mp.told, Mp.add]
  by_cases e : i = s.n
  ·rw [if_pos e]; intro e2; subst e2; exact hOb off ho
  ·rw [if_neg e]; exact k.2 i (by simp only [St.new] at hi; omega)
end

theorem allocAt_some {ops : Array Oper} {ia : Nat} {oa : Oper} {t : TypeId} {d : Nat} (h : allocAt ops = some (ia, oa, t, d)) : ops[ia]? = some oa /\ oa.op = .alloc t /\ oa.dst = some d := by
 unfold allocAt at h
 obtain ⟨⟨o, i⟩, hm, h⟩ := List.exists_of_findSome?_eq_some h
 rw [List.mk_mem_zipIdx_iff_getElem?, Array.getElem?_toList] at hm
 dsimp only at h
 split at h
 ·rename_i t' d' h1 h2
  simp only [Option.some.injEq, Prod.mk.injEq] at h
  obtain ⟨rfl, rfl, rfl, rfl⟩ := h
  exact ⟨hm, h1, h2⟩
 ·cases h
theorem staticA_iff {ops : Array Oper} {ia m d : Nat} (h : staticA ops ia m d = true) : ia < m /\ m <= ops.size /\ ∀ (i : Nat) (o : Oper), ops[i]? = some o -> o.guard = none /\ (∀ e, e ∈ o.after.toList -> Region.binds .any e = true -> e.on < i) /\ (i < m -> d ∉ readsOf ops o) /\ (m <= i -> ∀ j, j < i -> bitOf (masks ops) i j = true) := by
 unfold staticA at h
 rw [Bool.and_eq_true, Bool.and_eq_true, List.all_eq_true] at h
 obtain ⟨⟨h1, h2⟩, h3⟩ := h
 refine ⟨Nat.le_of_ble_eq_true h1, Nat.le_of_ble_eq_true h2, fun i o ho => ?_⟩
 have k := h3 (o, i) (by rw [List.mk_mem_zipIdx_iff_getElem?, Array.getElem?_toList]; exact ho)
 simp only [Bool.and_eq_true] at k
 obtain ⟨⟨⟨k1, k2⟩, k3⟩, k4⟩ := k
 refine ⟨by simpa using k1, fun e he hb => ?_, fun hi hd => ?_, fun hi j hj => ?_⟩
 ·have := List.all_eq_true.1 k2 e he
  rw [hb] at this
  exact Nat.le_of_ble_eq_true (by simpa using this)
 ·rcases Bool.or_eq_true _ _ ▸ k3 with k | k
  ·have := Nat.le_of_ble_eq_true k; omega
  ·have : (readsOf ops o).any (Nat.beq d) = true := List.any_eq_true.2 ⟨d, hd, nbt d⟩
   rw [this] at k; cases k
 ·rcases Bool.or_eq_true _ _ ▸ k4 with k | k
  ·have := Nat.le_of_ble_eq_true k; omega
  ·exact List.all_eq_true.1 k j (List.mem_range.2 hj)
theorem stub_size {ops : Array Oper} {ia m : Nat} {oa : Oper} (hm : m <= ops.size) : (stubOps ops ia m oa).size = m := by
 unfold stubOps
 rw [List.size_toArray, List.length_set, List.length_take, Array.length_toList]; omega
theorem stub_get {ops : Array Oper} {ia m i : Nat} {oa : Oper} (hm : m <= ops.size) (hi : i < m) (hne : i ≠ ia) : (stubOps ops ia m oa)[i]? = ops[i]? := by
 unfold stubOps
 rw [List.getElem?_toArray, List.getElem?_set_ne (Ne.symm hne), List.getElem?_take, if_pos hi, Array.getElem?_toList]
theorem stub_at {ops : Array Oper} {ia m : Nat} {oa : Oper} (hm : m <= ops.size) (hi : ia < m) : (stubOps ops ia m oa)[ia]? = some (stubOp oa) := by
 unfold stubOps
 rw [List.getElem?_toArray, List.getElem?_set_self (by rw [List.length_take, Array.length_toList]; omega)]
theorem readsOf_none {ops ops1 : Array Oper} {o : Oper} (h : o.guard = none) : readsOf ops1 o = readsOf ops o := by
 unfold readsOf; rw [h]
section
variable [Interp] {P : Program} {G : Nat -> Option (List AV)} {call : Ab.Call}
theorem ev_stub {oa : Oper} {T : Tm} {s : St} : evOp P G call (stubOp oa) T s = some (.v (.int .i64 0), s) := rfl
theorem drawnA_sound {B0 : Nat} {w0 : World} (hP : NoNum P) (hmix : P.follows .mixedOrders = true) (hcall : CallOk P G B0 w0 call) :
  ∀ ops T s T' s', evDrawnA P G call ops T s = some (T', s') -> ∀ (w : World) (M : Mp) (a : Act) (Q : Exit -> Act -> World -> Prop), Sim G B0 w0 w s M -> TmR w s M T a ->
  (∀ a' w' M', TmR w' s' M' T' a' -> Sim G B0 w0 w' s' M' -> Ext w s M w' s' M' -> Q .normal a' w') -> ∀ (ro : Option Nat) t, wpOpsIn (FW ro) 0 P ops Q (Region.schedule (P.follows .mixedOrders) ops t) a w.drew := by
 intro ops T s T' s' h w M a Q hs hT hq ro tape
 unfold evDrawnA at h
 split at h
 ·cases h
 ·rename_i ia oa ty d hal
  obtain ⟨hoa, hop, hdst⟩ := allocAt_some hal
  dsimp only at h
  generalize firstRead ops d = m at h
  split at h
  case isFalse => cases h
  rename_i hst
  obtain ⟨him, hms, hst⟩ := staticA_iff hst
  split at h
  case h_2 => cases h
  rename_i Tf sf z hG hz
  split at h
  case isFalse => cases h
  rename_i hroom
  split at h
  case h_2 => cases h
  rename_i Tb hTb
  obtain ⟨hstat, gn, gds, gdl, hany⟩ := drawnG_any (fun h => by cases h) hG
  have hback : Back ops := fun i o ho e he hb => (hst i o ho).2.1 e he hb
  have hL := schedule_valid hback tape
  rw [hmix]
  generalize Region.schedule true ops tape = L at hL
  have hga := (hst ia oa hoa).1
  have hs1sz : (stubOps ops ia m oa).size = m := stub_size hms
  have hget1 : ∀ i, i < m -> i ≠ ia -> (stubOps ops ia m oa)[i]? = ops[i]? := fun i hi hne => stub_get hms hi hne
  have hat1 : (stubOps ops ia m oa)[ia]? = some (stubOp oa) := stub_at hms him
  generalize stubOps ops ia m oa = ops1 at hG hstat hany hs1sz hget1 hat1
  obtain ⟨L1, rfl, hv1⟩ := valid_split hback hms (fun i h1 h2 => (hst i ops[i] (Array.getElem?_eq_getElem h2)).2.2.2 h1) hs1sz (fun i o1 ho1 => by
   have hi : i < m := by rw [<- hs1sz]; exact (Array.getElem?_eq_some_iff.1 ho1).1
   by_cases e : i = ia
   ·subst e; rw [hat1] at ho1; cases ho1; exact ⟨oa, hoa, rfl⟩
   ·rw [hget1 i hi e] at ho1; exact ⟨o1, ho1, rfl⟩) (D := []) (fun j hj => by cases hj) (fun k hk => by cases hk) hL
  obtain ⟨Tx, hrun, hTxn, hTx⟩ := hany L1 hv1
  obtain ⟨v1, v2, v3⟩ := valid_mem hv1
  have hmem : ia ∈ L1 := (v3 ia (by omega)).resolve_left (by simp)
  obtain ⟨L11, L12, rfl⟩ := List.append_of_mem hmem
  have hn1 : ia ∉ L11 /\ ia ∉ L12 := by
   rw [List.nodup_append] at v2
   obtain ⟨_, n2, n3⟩ := v2
   exact ⟨fun hx => n3 ia hx ia (by simp) rfl, (List.nodup_cons.1 n2).1⟩
  have hin : ∀ i, i ∈ L11 \/ i ∈ L12 -> i < m /\ i ≠ ia := fun i hi => by
   refine ⟨?_, fun e => ?_⟩
   ·rw [<- hs1sz]; exact (v1 i (by rcases hi with hi | hi <;> simp [hi])).2
   ·subst e; rcases hi with hi | hi
    ·exact hn1.1 hi
    ·exact hn1.2 hi
  have hcong : ∀ i, i ∈ L11 \/ i ∈ L12 -> ∃ o, ops[i]? = some o /\ ops1[i]? = some o /\ o.guard = none := fun i hi => by
   obtain ⟨h1, h2⟩ := hin i hi
   have ho : ops[i]? = some ops[i] := Array.getElem?_eq_getElem (by omega)
   exact ⟨_, ho, by rw [hget1 i h1 h2]; exact ho, (hst i _ ho).1⟩
  obtain ⟨T1, s1, hr1, hr2⟩ := ops0_append hrun
  simp only [evOps0] at hr2
  rw [fetch_of hat1 (gk_none hga)] at hr2
  simp only [wanted_none (o := stubOp oa) hga, if_true, ev_stub] at hr2
  rw [put_pan_of rfl, show (stubOp oa).dst = some d from hdst] at hr2
  cases hp2 : putT T1 (some d) (.v (.int .i64 0)) with
  | none => rw [hp2] at hr2; cases hr2
  | some T2 =>
  rw [hp2] at hr2
  dsimp only at hr2
  obtain ⟨p1, p2, p3⟩ := putT_some hp2
  obtain ⟨T2', hp2'⟩ := putT_of (T := T1) (d := some d) .any p3
  obtain ⟨p1', p2', _⟩ := putT_some hp2'
  have hbut : But d T2 T2' := by
   obtain ⟨a1, a2, a3⟩ := putT_rest hp2
   obtain ⟨b1, b2, b3⟩ := putT_rest hp2'
   exact ⟨by rw [p1', p1], by rw [b1, a1], by rw [b2, a2], by rw [b3, a3], fun t ht => by rw [p2' t, p2 t, if_neg (by simp; exact Ne.symm ht), if_neg (by simp; exact Ne.symm ht)]⟩
  have hnod : ∀ i, i ∈ L11 \/ i ∈ L12 -> ∀ o, ops[i]? = some o -> d ∉ readsOf ops o /\ o.dst ≠ some d := fun i hi o ho => by
   obtain ⟨h1, h2⟩ := hin i hi
   refine ⟨(hst i o ho).2.2.1 h1, fun hd => h2 ?_⟩
   exact (hstat.dst ia (stubOp oa) d hat1 hdst i o (by rw [hget1 i h1 h2]; exact ho) (dstIs_iff.2 hd)).symm
  obtain ⟨T3, hr3, hbut3, _⟩ := ops0_upd (fun i hi o ho => by
   obtain ⟨o', h1, h2, h3⟩ := hcong i (.inr hi)
   rw [h2] at ho; cases ho
   rw [readsOf_none (ops := ops) h3]
   exact hnod i (.inr hi) o h1) hr2 hbut
  have hr1' : evOps0 P G call ops L11 { T with mu := (T.mu.1, true) } s = some (T1, s1) := by rw [ops0_congr (ops1 := ops1) fun i hi => hcong i (.inl hi)]; exact hr1
  have hr3' : evOps0 P G call ops L12 T2' s1 = some (T3, sf) := by rw [ops0_congr (ops1 := ops1) fun i hi => hcong i (.inr hi)]; exact hr3
  rw [List.append_assoc, List.cons_append]
  refine ops0_cont hP hcall hr1' (sim_drew hs) (a := a) ⟨(hT.ext ext_drew).size, (hT.ext ext_drew).get, (hT.ext ext_drew).defers, (hT.ext ext_drew).dlt⟩ fun a1 w1 M1 hT1 hs1 hE1 _ => ?_
  obtain ⟨zv, hz1, hz2⟩ := zeroCells_some hz
  unfold wpOpsIn
  rw [hoa]
  simp only
  rw [if_pos (wanted_none hga)]
  refine ⟨fun _ _ => trivial, ?_⟩
  rw [Oper.semAt_eq _ _ _ (fun c hc => by rw [hop] at hc; cases hc)]
  have hex : (execOp a1.eval oa).run P w1 = .ok (.value (.pointer (some ⟨w1.heap.size, 0, none⟩))) (w1.alloc (.cells zv.cells ty)) := by
   simp [execOp, hop, Instr.alloc, run_zeroValue hz1, newVar, newRow]
  rw [hex, Oper.uponIn_value, hdst]
  have hs1' := shy_sim hs1 (.cells zv.cells ty)
  have hT1' := (hT1.tx (shy_tx (.cells zv.cells ty))).put hp2' (v := .pointer (some ⟨w1.heap.size, 0, none⟩)) (by unfold VR; trivial)
  refine ops0_cont hP hcall hr3' hs1' hT1' fun a3 w3 M3 hT3 hs3 hE3 hk3 => ?_
  have hout : M3.out = fun c off => M1.out c off \/ c = w1.heap.size := hE3.keep.2.1
  have hb1 : w1.heap.size < (w1.alloc (.cells zv.cells ty)).heap.size := by rw [World.size_alloc]; exact Nat.lt_succ_self _
  have hheap : w3.heap[w1.heap.size]? = some (.cells zv.cells ty) := by
   rw [hE3.frm.blocks w1.heap.size hb1 fun i o hi hg hl e => by have := (hs1.blk i hi).2; have e : M1.blk i = w1.heap.size := e; omega]
   exact heap_new _ _
  have hB : B0 <= w1.heap.size := Nat.le_trans hs1.size hs1.below.size
  have hOb : ∀ off, ¬ M1.out w1.heap.size off := fun off => out_new hs1 (Nat.le_refl _)
  have htx := told_tx (w := w3) hroom (.box z (codeOf ty 0)) hout
  have hs4 := told_sim hs3 hroom hout hOb hB hheap (VRl_scAll hz2) (scAll_cells hz2)
  have hT3' := hT3.tx htx
  obtain ⟨q1, q2, q3⟩ := putT_some hTb
  obtain ⟨r1, r2, r3⟩ := putT_rest hTb
  have x1 := (ops0_rest hrun).1
  have x2 := (ops0_rest hrun).2.1
  have hval : a3.tmps.getD d undef = .pointer (some ⟨w1.heap.size, 0, none⟩) := by
   rw [hk3 d fun i hi o ho => (hnod i (.inr hi) o ho).2]
   have := (p3 d rfl).1
   have := hT1.size
   simp only [Act.put]
   rw [Array.getD_eq_getD_getElem?, Array.getElem?_setIfInBounds_self, if_pos (by omega)]; rfl
  have hTb' : TmR w3 (sf.new (.box z (codeOf ty 0))) (M3.told M1.out sf.n w1.heap.size) Tb a3 := by
   refine ⟨?_, fun t => ?_, ?_, ?_⟩
   ·rw [hT3.size, hbut3.n, q1, gn, hTxn]
   ·rw [q2 t]
    by_cases e : t = d
    ·subst e
     rw [if_pos rfl, hval]
     unfold VR
     exact ⟨by simp only [St.new]; omega, by simp [Mp.told, Mp.add]⟩
    ·rw [if_neg (by simp; exact Ne.symm e), <- hTx t, <- hbut3.get t e]
     exact hT3'.get t
   ·have := hT3'.defers
    rw [hbut3.ds, hbut3.dl, x1, x2] at this
    rw [r1, r2, gds, gdl]
    exact this
   ·have := hT3'.dlt
    rw [hbut3.ds, x1] at this
    rw [r1, gds]
    exact this
  have hEmid : Ext w1 s1 M1 w3 (sf.new (.box z (codeOf ty 0))) (M3.told M1.out sf.n w1.heap.size) := by
   refine ⟨fun c off v hc hi => ?_, Nat.le_trans hE3.n htx.n, fun i hi => ?_, fun i tip e hi hg => hE3.rows i tip e hi (htx.rows i tip e (Nat.lt_of_lt_of_le hi hE3.n) hg), ⟨?_, fun c hc hno => ?_, fun i o hi hg hl hlt => ?_⟩, ?_, rfl, ?_⟩
   ·obtain ⟨k1, k2⟩ := (shy_tx (w := w1) (s := s1) (M := M1) (.cells zv.cells ty)).cells c off v hc hi
    obtain ⟨k3, k4⟩ := hE3.cells c off v k1 k2
    exact htx.cells c off v k3 k4
   ·have k1 := htx.map i (Nat.lt_of_lt_of_le hi hE3.n)
    have k2 := hE3.map i hi
    exact ⟨k1.1.trans k2.1, k1.2.trans k2.2⟩
   ·exact Nat.le_trans (Nat.le_of_lt hb1) hE3.frm.size
   ·exact (hE3.frm.blocks c (Nat.lt_trans hc hb1) hno).trans (Below.heap_alloc w1 _ c hc)
   ·rw [St.get_new _ _ _ (room_lt hroom)] at hg
    simp only [Mp.told, Mp.add] at hlt ⊢
    by_cases e : i = sf.n
    ·rw [if_pos e] at hlt; omega
    ·rw [if_neg e] at hlt hg
     rw [if_neg e]
     exact hE3.frm.old i o (by simp only [St.new] at hi; omega) hg hl (Nat.lt_trans hlt hb1)
   ·exact hE3.keep.1
   ·exact hE3.keep.2.2
  have hfin := ops0_cont (l2 := []) hP hcall (ro := ro) (Q := Q) h hs4 hTb' fun a4 w4 M4 hT4 hs5 hE4 _ => by
   show Q .normal a4 w4
   exact hq a4 w4 M4 hT4 hs5 (ext_drew.trans (hE1.trans (hEmid.trans hE4)))
  rwa [List.append_nil] at hfin
theorem drawnB_sound {B0 : Nat} {w0 : World} (hP : NoNum P) (hmix : P.follows .mixedOrders = true) (hcall : CallOk P G B0 w0 call) :
  ∀ ops T s T' s', evDrawnB P G call ops T s = some (T', s') -> ∀ (w : World) (M : Mp) (a : Act) (Q : Exit -> Act -> World -> Prop), Sim G B0 w0 w s M -> TmR w s M T a ->
  (∀ a' w' M', TmR w' s' M' T' a' -> Sim G B0 w0 w' s' M' -> Ext w s M w' s' M' -> Q .normal a' w') -> ∀ (ro : Option Nat) t, wpOpsIn (FW ro) 0 P ops Q (Region.schedule (P.follows .mixedOrders) ops t) a w.drew := by
 intro ops T s T' s' h
 unfold evDrawnB at h
 split at h
 ·split at h
  ·rename_i r hr
   obtain ⟨T2, s2⟩ := r
   cases h
   exact drawnA_sound hP hmix hcall ops T s T' s' hr
  ·exact drawn_sound hP hmix hcall ops T s T' s' h
 ·exact drawn_sound hP hmix hcall ops T s T' s' h
end
end Go.Ab
/- Regions whose order is drawn, and that panic: whichever order is drawn, the first operation that acts panics. -/
namespace Go.Ab
open Go Go.RowKit

section
variable [Interp] {P : Program} {G : Nat -> Option (List AV)} {call : Ab.Call} {ops : Array Oper}

theorem pure_cert {pr : Option (Nat × Nat)} (hst : Static P pr ops) {s : St} : ∀ {l : List Nat} {T Tf : Tm}, l.Pairwise (· < ·) -> evPure P G call ops l T s = some Tf ->
  Tf.n = T.n /\ Tf.mu = T.mu /\ (∀ t, (∀ j, j ∈ l -> ∀ q, ops[j]? = some q -> q.dst ≠ some t) -> gt Tf t = gt T t) /\
  ∀ k, k ∈ l -> ∃ o x Tk, ops[k]? = some o /\ (eff P o = false /\ gk ops Tk o = true) /\ Tk.mu = T.mu /\ (Region.wanted o (yieldedA ops Tk) = true -> evOp P G call o Tk s = some (x, s) /\ isPan x = none) /\ (Region.wanted o (yieldedA ops Tk) = false -> x = und) /\
   (∀ d, o.dst = some d -> gt Tf d = x /\ d + 1 <= T.n /\ T.n <= Tr.lid) /\ (∀ t, (∀ j, j ∈ l -> k <= j -> ∀ q, ops[j]? = some q -> q.dst ≠ some t) -> gt Tf t = gt Tk t) /\ (∀ t, (∀ j, j ∈ l -> j < k -> ∀ q, ops[j]? = some q -> q.dst ≠ some t) -> gt Tk t = gt T t)
 | [], T, Tf, _, h => by
  simp only [evPure, Option.some.injEq] at h
  subst h
  exact ⟨rfl, rfl, fun _ _ => rfl, fun k hk => by cases hk⟩
 | i :: rest, T, Tf, hp, h => by
  rw [List.pairwise_cons] at hp
  unfold evPure at h
  split at h
  ·cases h
  ·rename_i o hfo
   obtain ⟨ho, hgk⟩ := fetch_some hfo
   split at h
   ·cases h
   ·rename_i he
    have he : eff P o = false := by simpa using he
    -- what the operation comes to
    have hx : ∃ x T1, (Region.wanted o (yieldedA ops T) = true -> evOp P G call o T s = some (x, s) /\ isPan x = none) /\ (Region.wanted o (yieldedA ops T) = false -> x = und) /\ putT T o.dst x = some T1 /\ evPure P G call ops rest T1 s = some Tf := by
     split at h
     ·rename_i hw
      split at h
      ·rename_i x s1 hx
       split at h
       ·rename_i hc
        simp only [Bool.and_eq_true] at hc
        split at h
        ·rename_i T1 hT1
         have hs1 : s1 = s := by
          have := hc.2
          exact noneff_state (fun h => by cases h) hc.2 he hx
         subst hs1
         exact ⟨x, T1, fun _ => ⟨hx, by simpa using hc.1⟩, (fun h' => by rw [hw] at h'; cases h'), hT1, h⟩
        ·cases h
       ·cases h
      ·cases h
     ·rename_i hw
      split at h
      ·rename_i T1 hT1
       exact ⟨und, T1, (fun h' => absurd h' hw), fun _ => rfl, hT1, h⟩
      ·cases h
    obtain ⟨x, T1, hx1, hx2, hT1, hr⟩ := hx
    obtain ⟨p1, p2, p3⟩ := putT_some hT1
    obtain ⟨q1, q2, q3, q4⟩ := pure_cert hst hp.2 hr
    have hmu := (putT_rest hT1).2.2
    refine ⟨q1.trans p1, q2.trans hmu, fun t ht => ?_, fun k hk => ?_⟩
    ·rw [q3 t fun j hj => ht j (List.mem_cons_of_mem _ hj), p2 t, if_neg (ht i (by simp) o ho)]
    ·rw [List.mem_cons] at hk
     rcases hk with rfl | hk
     ·refine ⟨o, x, T, ho, ⟨he, hgk⟩, rfl, hx1, hx2, fun d hd => ⟨?_, p3 d hd⟩, fun t ht => ?_, fun t _ => rfl⟩
      ·rw [q3 d fun j hj q hq hd' => ?_, p2 d, if_pos hd]
       have := hst.dst k o d ho hd j q hq (dstIs_iff.2 hd')
       have := hp.1 j hj
       omega
      ·rw [q3 t fun j hj => ht j (List.mem_cons_of_mem _ hj) (Nat.le_of_lt (hp.1 j hj)), p2 t, if_neg (ht k (by simp) (Nat.le_refl _) o ho)]
     ·obtain ⟨o', x', Tk, c1, c2, c3, c4, c5, c6, c7, c8⟩ := q4 k hk
      have hik := hp.1 k hk
      refine ⟨o', x', Tk, c1, c2, c3.trans hmu, c4, c5, fun d hd => by rw [<- p1]; exact c6 d hd, fun t ht => c7 t fun j hj hjk => ht j (List.mem_cons_of_mem _ hj) hjk, fun t ht => ?_⟩
      rw [c8 t fun j hj hjk => ht j (List.mem_cons_of_mem _ hj) hjk, p2 t, if_neg (ht i (by simp) hik o ho)]

theorem pan_order {pr : Option (Nat × Nat)} (hst : Static P pr ops) {i : Nat} {oi : Oper} (hi : ops[i]? = some oi) (hei : eff P oi = true) (hfirst : ∀ k o, ops[k]? = some o -> eff P o = true -> k ≠ i -> bitOf (masks ops) k i = true)
  {l : List Nat} (hl : l.Pairwise (· < ·)) (hmem : ∀ k, k < ops.size -> k ≠ i -> bitOf (masks ops) k i = false -> k ∈ l) (hmem' : ∀ k, k ∈ l -> k ≠ i /\ bitOf (masks ops) k i = false) {T0 Tf : Tm} {s s' : St} {x y : AV} (hrun : evPure P G call ops l T0 s = some Tf)
  (hw : Region.wanted oi (yieldedA ops Tf) = true) (hgi : gk ops Tf oi = true) (hev : evOp P G call oi Tf s = some (x, s')) (hx : isPan x = some y) :
  ∀ {L D : List Nat} {T : Tm}, Valid ops D L -> (∀ i ∈ D, i < ops.size /\ ∀ o, ops[i]? = some o -> ∀ e, e ∈ o.after.toList -> Region.binds .any e = true -> e.on ∈ D) -> i ∉ D -> T.n = T0.n -> T.mu = T0.mu -> T.ds = T0.ds -> T.dl = T0.dl ->
   (∀ t, ((∃ j q, j ∈ D /\ ops[j]? = some q /\ q.dst = some t) /\ gt T t = gt Tf t) \/ (gt T t = gt T0 t /\ ∀ i ∈ D, ∀ o, ops[i]? = some o -> o.dst ≠ some t)) ->
   ∃ T', evOps P G call false ops L T s = some (some y, T', s') /\ T'.n = T0.n /\ T'.ds = T0.ds /\ T'.dl = T0.dl /\ ∀ t, (∃ j q, j ∈ l /\ ops[j]? = some q /\ q.dst = some t /\ gt T' t = gt Tf t) \/ gt T' t = gt T0 t := by
 obtain ⟨f1, f2, f3, f4⟩ := pure_cert hst hl hrun
 have hisz : i < ops.size := (Array.getElem?_eq_some_iff.1 hi).1
 intro L
 induction L with
 | nil => intro D T hv _ hiD; exact absurd (hv i hisz) hiD
 | cons k rest ih =>
  intro D T hv hD hiD hn hmu hds hdl hg
  obtain ⟨hk, hnD, hdep, hv'⟩ := hv
  have ho : ops[k]? = some ops[k] := Array.getElem?_eq_getElem hk
  generalize hok : ops[k] = o at ho
  have hdone : ∀ j, bitOf (masks ops) k j = true -> j ∈ D := fun j hb =>
   bit_lt_dep (fun k => k ∈ D) hst.back (fun k q hq hk e he hb => (hD k hk).2 q hq e he hb) k j hk hb (fun q hq e he hb => hdep q hq e he hb)
  have hnot : ∀ j, j ∈ D -> bitOf (masks ops) j k = false := fun j hj => by
   cases hb : bitOf (masks ops) j k with
   | false => rfl
   | true => exact absurd (bit_lt_dep (fun k => k ∈ D) hst.back (fun k q hq hk e he hb => (hD k hk).2 q hq e he hb) j k (hD j hj).1 hb (fun q hq e he hb => (hD j hj).2 q hq e he hb)) hnD
  have hDl : ∀ j, j ∈ D -> j ∈ l := fun j hj => hmem j (hD j hj).1 (fun e => hiD (e ▸ hj)) (by
   cases hb : bitOf (masks ops) j i with
   | false => rfl
   | true => exact absurd (bit_lt_dep (fun k => k ∈ D) hst.back (fun k q hq hk e he hb => (hD k hk).2 q hq e he hb) j i (hD j hj).1 hb (fun q hq e he hb => (hD j hj).2 q hq e he hb)) hiD)
  by_cases hki : k = i
  ·subst hki
   rw [hi] at ho; cases ho
   have hread : ∀ t, t ∈ readsOf ops oi -> gt T t = gt Tf t := fun t ht => by
    rcases hg t with ⟨_, h⟩ | ⟨h, hno⟩
    ·exact h
    ·rw [h]
     refine (f3 t fun j hj q hq he => ?_).symm
     rcases hst.read k oi hi t ht j q hq (dstIs_iff.2 he) with hb | hb | hb
     ·exact hno j (hdone j hb) q hq he
     ·rw [(hmem' j hj).2] at hb; cases hb
     ·exact (hmem' j hj).1 hb.symm
   obtain ⟨r1, r2, r3⟩ := reads_agree (P := P) (G := G) (call := call) (s := s) (hmu.trans f2.symm) hread
   refine ⟨T, ?_, hn, hds, hdl, fun t => ?_⟩
   ·unfold evOps
    rw [fetch_of hi (by rw [r3]; exact hgi)]
    simp only
    rw [r2, hw]
    simp only [if_true]
    split
    ·rename_i c hop
     simp only [evOp, evOp1, evSym, evSym0, evArr, evMore, hop, reduceCtorEq] at hev
    ·rw [r1, hev]
     simp only [hx]
   ·rcases hg t with ⟨⟨j, q, hj, hq, hd⟩, h⟩ | ⟨h, _⟩
    ·exact .inl ⟨j, q, hDl j hj, hq, hd, h⟩
    ·exact .inr h
  ·have hbk : bitOf (masks ops) k i = false := by
    cases hb : bitOf (masks ops) k i with
    | false => rfl
    | true => exact absurd (hdone i hb) hiD
   have hkl : k ∈ l := hmem k hk hki hbk
   obtain ⟨o', xk, Tk, c1, c2, c3, c4, c5, c6, c7, c8⟩ := f4 k hkl
   rw [ho] at c1; cases c1
   have hread : ∀ t, t ∈ readsOf ops o -> gt T t = gt Tk t := fun t ht => by
    rcases hg t with ⟨⟨j, q, hj, hq, hd⟩, h⟩ | ⟨h, hno⟩
    ·rw [h]
     refine c7 t fun j' hj' hkj q' hq' hd' => ?_
     have : j = j' := hst.dst j q t hq hd j' q' hq' (dstIs_iff.2 hd')
     subst this
     rcases hst.read k o ho t ht j q hq (dstIs_iff.2 hd) with hb | hb | hb
     ·have := bit_lt' hst ho hb; omega
     ·rw [hnot j hj] at hb; cases hb
     ·subst hb; exact hnD hj
    ·rw [h]
     refine (c8 t fun j hj hjk q hq hd => ?_).symm
     rcases hst.read k o ho t ht j q hq (dstIs_iff.2 hd) with hb | hb | hb
     ·exact hno j (hdone j hb) q hq hd
     ·have := bit_lt' hst hq hb; omega
     ·omega
   obtain ⟨r1, r2, r3⟩ := reads_agree (P := P) (G := G) (call := call) (s := s) (hmu.trans c3.symm) hread
   obtain ⟨T1, hp⟩ := putT_of (T := T) (d := o.dst) xk fun q hq => by
    have := (c6 q hq).2
    rw [hn]; exact this
   obtain ⟨p1, p2, _⟩ := putT_some hp
   obtain ⟨p4, p5, p6⟩ := putT_rest hp
   have hD' : ∀ j ∈ k :: D, j < ops.size /\ ∀ q, ops[j]? = some q -> ∀ e, e ∈ q.after.toList -> Region.binds .any e = true -> e.on ∈ k :: D := fun j hj => by
    rw [List.mem_cons] at hj
    rcases hj with rfl | hj
    ·exact ⟨hk, fun q hq e he hb => List.mem_cons_of_mem _ (hdep q hq e he hb)⟩
    ·exact ⟨(hD j hj).1, fun q hq e he hb => List.mem_cons_of_mem _ ((hD j hj).2 q hq e he hb)⟩
   have hg' : ∀ t, ((∃ j q, j ∈ k :: D /\ ops[j]? = some q /\ q.dst = some t) /\ gt T1 t = gt Tf t) \/ (gt T1 t = gt T0 t /\ ∀ j ∈ k :: D, ∀ q, ops[j]? = some q -> q.dst ≠ some t) := fun t => by
    rw [p2 t]
    by_cases e : o.dst = some t
    ·rw [if_pos e]; exact .inl ⟨⟨k, o, by simp, ho, e⟩, ((c6 t e).1).symm⟩
    ·rw [if_neg e]
     rcases hg t with ⟨⟨j, q, hj, hq, hd⟩, h⟩ | ⟨h, hno⟩
     ·exact .inl ⟨⟨j, q, List.mem_cons_of_mem _ hj, hq, hd⟩, h⟩
     ·refine .inr ⟨h, fun j hj q hq => ?_⟩
      rw [List.mem_cons] at hj
      rcases hj with rfl | hj
      ·rw [ho] at hq; cases hq; exact e
      ·exact hno j hj q hq
   obtain ⟨T', e1, e2, e3, e4, e5⟩ := ih hv' hD' (by rw [List.mem_cons, not_or]; exact ⟨fun e => hki e.symm, hiD⟩) (p1.trans hn) (p6.trans hmu) (p4.trans hds) (p5.trans hdl) hg'
   refine ⟨T', ?_, e2, e3, e4, e5⟩
   unfold evOps
   rw [fetch_of ho (by rw [r3]; exact c2.2)]
   simp only
   rw [r2]
   cases hwk : Region.wanted o (yieldedA ops Tk) with
   | true =>
    obtain ⟨g1, g2⟩ := c4 hwk
    simp only [if_true]
    split
    ·rename_i c hop
     simp only [evOp, evOp1, evSym, evSym0, evArr, evMore, hop, reduceCtorEq] at g1
    ·rw [r1, g1]
     simp only [g2, hp]
     exact e1
   | false =>
    have := c5 hwk
    subst this
    simp only [Bool.false_eq_true, if_false, hp]
    exact e1

theorem clearT_some : ∀ {l : List Oper} {T T' : Tm}, clearT l T = some T' -> T'.n = T.n /\ T'.ds = T.ds /\ T'.dl = T.dl /\ T'.mu = T.mu /\ ∀ t, (gt T' t = .any /\ ∃ o, o ∈ l /\ o.dst = some t) \/ (gt T' t = gt T t /\ ∀ o ∈ l, o.dst ≠ some t)
 | [], T, T', h => by
  simp only [clearT, Option.some.injEq] at h
  subst h
  exact ⟨rfl, rfl, rfl, rfl, fun t => .inr ⟨rfl, fun o ho => by cases ho⟩⟩
 | o :: r, T, T', h => by
  unfold clearT at h
  split at h
  ·rename_i T1 h1
   obtain ⟨p1, p2, _⟩ := putT_some h1
   obtain ⟨p4, p5, p6⟩ := putT_rest h1
   obtain ⟨q1, q2, q3, q4, q5⟩ := clearT_some h
   refine ⟨q1.trans p1, q2.trans p4, q3.trans p5, q4.trans p6, fun t => ?_⟩
   rcases q5 t with ⟨e, o', ho', hd'⟩ | ⟨e, hno⟩
   ·exact .inl ⟨e, o', List.mem_cons_of_mem _ ho', hd'⟩
   ·rw [p2 t] at e
    by_cases ed : o.dst = some t
    ·rw [if_pos ed] at e; exact .inl ⟨e, o, by simp, ed⟩
    ·rw [if_neg ed] at e
     refine .inr ⟨e, fun o' ho' => ?_⟩
     rw [List.mem_cons] at ho'
     rcases ho' with rfl | ho'
     ·exact ed
     ·exact hno o' ho'
  ·cases h

theorem drawnX_sound {B0 : Nat} {w0 : World} (hP : NoNum P) (hmix : P.follows .mixedOrders = true) (hcall : CallOk P G B0 w0 call) : DrawnOk P G B0 w0 (evDrawnX P G call) := by
 intro ops T s p T' s' h w M a Q hs hT hq ro t
 unfold evDrawnX at h
 split at h
 ·rename_i T1 s1 h1
  simp only [Option.some.injEq, Prod.mk.injEq] at h
  obtain ⟨rfl, rfl, rfl⟩ := h
  exact drawnB_sound hP hmix hcall ops T s T1 s1 h1 w M a Q hs hT (fun a' w' M' k1 k2 k3 => hq _ a' w' M' rfl k1 k2 k3) ro t
 ·unfold evPan at h
  split at h
  ·cases h
  ·rename_i oi i hhead
   simp only at h
   split at h
   ·rename_i hc
    rw [Bool.and_eq_true] at hc
    have hst := static_of hc.1
    have hmemz : (oi, i) ∈ ops.toList.zipIdx /\ eff P oi = true := by
     have := List.mem_of_mem_head? hhead
     rw [List.mem_filter] at this
     exact this
    have hi : ops[i]? = some oi := by
     have := hmemz.1
     rw [List.mk_mem_zipIdx_iff_getElem?, Array.getElem?_toList] at this
     exact this
    have hfirst : ∀ k o, ops[k]? = some o -> eff P o = true -> k ≠ i -> bitOf (masks ops) k i = true := fun k o ho he hne => by
     have h2 := hc.2
     rw [List.all_eq_true] at h2
     have := h2 (o, k) (by rw [List.mk_mem_zipIdx_iff_getElem?, Array.getElem?_toList]; exact ho)
     simp only [he, Bool.not_true, Bool.false_or, Bool.or_eq_true] at this
     rcases this with h3 | h3
     ·exact absurd (nbe h3) hne
     ·exact h3
    split at h
    ·rename_i Tf hrun
     split at h
     ·rename_i hw
      rw [Bool.and_eq_true] at hw
      obtain ⟨hgi, hw⟩ := hw
      split at h
      ·rename_i x s1 hev
       split at h
       ·rename_i y hx
        split at h
        ·rename_i T2 hcl
         simp only [Option.some.injEq, Prod.mk.injEq] at h
         obtain ⟨rfl, rfl, rfl⟩ := h
         rw [hmix]
         obtain ⟨T3, e1, e2, e3, e4, e5⟩ := pan_order (T0 := { T with mu := (T.mu.1, true) }) hst hi hmemz.2 hfirst (List.Pairwise.filter _ List.pairwise_lt_range) (fun k hk hne hb => by
           rw [List.mem_filter, List.mem_range]
           refine ⟨hk, ?_⟩
           rw [nbf hne, hb]; rfl) (fun k hk => by
           rw [List.mem_filter] at hk
           have := hk.2
           rw [Bool.and_eq_true, Bool.not_eq_true', Bool.not_eq_true'] at this
           exact ⟨(fun e => by rw [e, nbt] at this; cases this.1), this.2⟩) hrun hw hgi hev hx (schedule_valid hst.back t) (by simp) (by simp) rfl rfl rfl rfl (fun t => .inr ⟨rfl, fun i hi => by cases hi⟩)
         refine ops_sound hP hcall (fun h => by cases h) e1 (sim_drew hs) (T := { T with mu := (T.mu.1, true) }) (a := a) ⟨(hT.ext ext_drew).size, (hT.ext ext_drew).get, (hT.ext ext_drew).defers, (hT.ext ext_drew).dlt⟩ fun e a' w' M' k0 k1 k2 k3 => ?_
         obtain ⟨c1, c2, c3, c4, c5⟩ := clearT_some hcl
         refine hq e a' w' M' k0 ⟨?_, fun t => ?_, ?_, ?_⟩ k2 (ext_drew.trans k3)
         ·rw [k1.size, e2, c1]
         ·have hg3 := k1.get t
          rcases c5 t with ⟨e, o, ho, hd⟩ | ⟨e, hno⟩
          ·rw [e]; unfold VR; trivial
          ·rw [e]
           rcases e5 t with ⟨j, q, hj, hq, hd, _⟩ | h4
           ·exact absurd hd (hno q (List.mem_filterMap.2 ⟨j, hj, hq⟩))
           ·have h4 : gt T3 t = gt T t := h4
            rw [h4] at hg3; exact hg3
         ·have := k1.defers; rw [e3, e4] at this; rw [c2, c3]; exact this
         ·have := k1.dlt; rw [e3] at this; rw [c2]; exact this
        ·cases h
       ·cases h
      ·cases h
     ·cases h
    ·cases h
   ·cases h
end
end Go.Ab
/- A rule for loops; other variables for the same values. -/
namespace Go.Ab
open Go Go.RowKit

section
variable [Interp] {P : Program} {G : Nat -> Option (List AV)} {B0 : Nat} {w0 w : World} {s : St} {M : Mp}
theorem loop_rule {F : Fence} {b : Code} {Q : Exit -> Act -> World -> Prop} (I : Nat -> Act -> World -> Prop) (hI : ∀ n a w, I n a w -> b.wpIn F 0 P (Exit.then (fun a w => ∃ m, m < n /\ I m a w) Q) a w) :
  ∀ {n : Nat} {a : Act} {w : World}, I n a w -> (Code.loop b).wpIn F 0 P Q a w := by
 have key : ∀ (k n : Nat) (a : Act) (w : World), n < k -> I n a w -> Code.roundsIn F 0 P b Q k a w := by
  intro k
  induction k with
  | zero => intro n a w h; omega
  | succ k ih =>
   intro n a w hn hi
   rw [roundsIn_succ]
   refine wpIn_mono (hI n a w hi) fun e a' w' h => ?_
   cases e with
   | normal =>
    obtain ⟨m, hm, him⟩ := h
    exact ih m a' w' (by omega) him
   | _ => exact h
 intro n a w hi
 exact wpIn_loop_rounds (n + 1) (key (n + 1) n a w (Nat.lt_succ_self n) hi)
end
end Go.Ab
/- From a row's list of package variables, and its parameters, to the evaluator's values; and from 'nothing below has turned' to a row's last step. -/
namespace Go.Ab
open Go Go.RowKit Go.WideShapes Go.ChangeShapes
variable [Interp]

section flat
variable (P : Program)
mutual
def flatT : Nat -> TypeId -> DataW Unit -> Option (List Value)
 | 0, _, _ => none
 | n + 1, t, d => match P.underlying t, d with
  | some .bool, .lit (.bool b) => some [.bool b]
  | some (.int _), .lit (.int k z) => some [.int k z]
  | some .string, .lit (.string bs) => some [.string ⟨bs.toArray⟩]
  | some (.struct fs), .agg ds => (flatF n fs.toList ds 0).bind fun vs => bif Nat.beq vs.length (P.cellsOf t) then some vs else none
  | some (.array m e), .agg ds => (flatL n e (P.cellsOf e) ds).bind fun vs => bif Nat.beq ds.length m && Nat.beq vs.length (P.cellsOf t) then some vs else none
  | _, _ => none
def flatF : Nat -> List Field -> List (DataW Unit) -> Nat -> Option (List Value)
 | 0, _, _, _ => none
 | _, [], [], _ => some []
 | n + 1, f :: fs, d :: ds, off => (flatT n f.type d).bind fun a => bif Nat.beq f.offset off && Nat.beq a.length (P.cellsOf f.type) then (flatF n fs ds (off + a.length)).bind fun b => some (a ++ b) else none
 | _, _, _, _ => none
def flatL : Nat -> TypeId -> Nat -> List (DataW Unit) -> Option (List Value)
 | 0, _, _, _ => none
 | _, _, _, [] => some []
 | n + 1, e, k, d :: ds => (flatT n e d).bind fun a => bif Nat.beq a.length k then (flatL n e k ds).bind fun b => some (a ++ b) else none
end
end flat

variable {P : Program} {enc : TypeId × Value -> Unit} {w : World} {base : Nat} {sp : Nat -> Bool} {held : Bool}
theorem and_nbe {a b c d : Nat} (h : (Nat.beq a b && Nat.beq c d) = true) : a = b /\ c = d := by
 rw [Bool.and_eq_true] at h
 exact ⟨nbe h.1, nbe h.2⟩

mutual
theorem flatT_eq : ∀ (n : Nat) (t : TypeId) (d : DataW Unit) (vs : List Value), flatT P n t d = some vs -> ∀ (m : Nat) (cs : List Value) (p : List MemPlace), DataW.trod enc P w base sp held m t cs = some (d, p) -> cs = vs
 | 0, _, _, _, h => by simp [flatT] at h
 | n + 1, t, d, vs, h => fun m cs p hd => by
  unfold flatT at h
  split at h
  ·rename_i b ht
   cases h
   cases m with
   | zero => simp [DataW.trod] at hd
   | succ m =>
    unfold DataW.trod at hd
    rw [ht] at hd
    split at hd <;> simp_all
  ·rename_i k z ht
   cases h
   obtain ⟨z', rfl, e, _⟩ := DataW.trod_int ht hd
   cases (Prod.mk.inj e).1
   rfl
  ·rename_i bs ht
   cases h
   cases m with
   | zero => simp [DataW.trod] at hd
   | succ m =>
    unfold DataW.trod at hd
    rw [ht] at hd
    split at hd <;> simp_all
    rename_i s _
    obtain ⟨hsz, hs, hp⟩ := hd
    subst hs
    rfl
  ·rename_i fs ds ht
   rw [Option.bind_eq_some_iff] at h
   obtain ⟨us, hf, h⟩ := h
   cases hb : Nat.beq us.length (P.cellsOf t) with
   | false => rw [hb] at h; cases h
   | true =>
    rw [hb] at h
    cases h
    obtain ⟨xs, m', _, hx, hl, hlen, hel⟩ := DataW.trod_struct ht hd
    have hds : ds = xs.map (·.1) := (DataW.agg.inj (Prod.mk.inj hx).1)
    subst hds
    have := flatF_eq n fs.toList (xs.map (·.1)) 0 vs hf m' cs xs rfl (by simpa using hlen) (fun i f hi => hel i f (by simpa using hi))
    simp only [List.drop_zero] at this
    rw [<- this, List.take_of_length_le]
    rw [hl, nbe hb]
    exact Nat.le_refl _
  ·rename_i k e ds ht
   rw [Option.bind_eq_some_iff] at h
   obtain ⟨us, hf, h⟩ := h
   cases hb : Nat.beq ds.length k && Nat.beq us.length (P.cellsOf t) with
   | false => rw [hb] at h; cases h
   | true =>
    rw [hb] at h
    cases h
    obtain ⟨hk, hu⟩ := and_nbe hb
    obtain ⟨xs, m', _, hx, hl, hlen, hel⟩ := DataW.trod_array ht hd
    have hds : ds = xs.map (·.1) := (DataW.agg.inj (Prod.mk.inj hx).1)
    subst hds
    have := flatL_eq n e (xs.map (·.1)) vs hf m' cs xs 0 rfl (fun i hi => by simpa using hel i (by omega))
    simp only [Nat.zero_mul, List.drop_zero] at this
    rw [<- this, List.take_of_length_le]
    rw [hl, hu]
    exact Nat.le_refl _
  ·cases h
theorem flatF_eq : ∀ (n : Nat) (fs : List Field) (ds : List (DataW Unit)) (off : Nat) (us : List Value), flatF P n fs ds off = some us ->
  ∀ (m : Nat) (cs : List Value) (xs : List (DataW Unit × List MemPlace)), ds = xs.map (·.1) -> xs.length = fs.length ->
  (∀ (i : Nat) (f : Field), fs[i]? = some f -> DataW.trod enc P w base sp held m f.type ((cs.drop f.offset).take (P.cellsOf f.type)) = xs[i]?) -> (cs.drop off).take us.length = us
 | 0, _, _, _, _, h => by simp [flatF] at h
 | n + 1, [], [], off, us, h => fun m cs xs _ _ _ => by
  cases h
  rfl
 | n + 1, f :: fs, d :: ds, off, us, h => fun m cs xs hds hlen hel => by
  unfold flatF at h
  rw [Option.bind_eq_some_iff] at h
  obtain ⟨a, ha, h⟩ := h
  cases hb : Nat.beq f.offset off && Nat.beq a.length (P.cellsOf f.type) with
  | false => rw [hb] at h; cases h
  | true =>
   rw [hb, cond_true, Option.bind_eq_some_iff] at h
   obtain ⟨b, hb', h⟩ := h
   cases h
   obtain ⟨ho, hal⟩ := and_nbe hb
   cases xs with
   | nil => cases hds
   | cons x xs =>
    simp only [List.map_cons, List.cons.injEq] at hds
    obtain ⟨rfl, rfl⟩ := hds
    have h0 := hel 0 f rfl
    simp only [List.getElem?_cons_zero] at h0
    have e1 := flatT_eq n f.type x.1 a ha m _ x.2 h0
    have e2 := flatF_eq n fs (xs.map (·.1)) (off + a.length) b hb' m cs xs rfl (by simpa using hlen) (fun i g hi => by simpa using hel (i + 1) g (by simpa using hi))
    rw [ho, <- hal] at e1
    rw [List.length_append, List.take_add, e1, List.drop_drop, e2]
 | n + 1, [], _ :: _, _, _, h => by simp [flatF] at h
 | n + 1, _ :: _, [], _, _, h => by simp [flatF] at h
theorem flatL_eq : ∀ (n : Nat) (e : TypeId) (ds : List (DataW Unit)) (us : List Value), flatL P n e (P.cellsOf e) ds = some us ->
  ∀ (m : Nat) (cs : List Value) (xs : List (DataW Unit × List MemPlace)) (j : Nat), ds = xs.map (·.1) ->
  (∀ i, i < xs.length -> DataW.trod enc P w base sp held m e ((cs.drop ((j + i) * P.cellsOf e)).take (P.cellsOf e)) = xs[i]?) -> (cs.drop (j * P.cellsOf e)).take us.length = us
 | 0, _, _, _, h => by simp [flatL] at h
 | n + 1, e, [], us, h => fun m cs xs j _ _ => by
  cases h
  rfl
 | n + 1, e, d :: ds, us, h => fun m cs xs j hds hel => by
  unfold flatL at h
  rw [Option.bind_eq_some_iff] at h
  obtain ⟨a, ha, h⟩ := h
  cases hb : Nat.beq a.length (P.cellsOf e) with
  | false => rw [hb] at h; cases h
  | true =>
   rw [hb, cond_true, Option.bind_eq_some_iff] at h
   obtain ⟨b, hb', h⟩ := h
   cases h
   have hal := nbe hb
   cases xs with
   | nil => cases hds
   | cons x xs =>
    simp only [List.map_cons, List.cons.injEq] at hds
    obtain ⟨rfl, rfl⟩ := hds
    have h0 := hel 0 (Nat.succ_pos _)
    simp only [List.getElem?_cons_zero, Nat.add_zero] at h0
    have e1 := flatT_eq n e x.1 a ha m _ x.2 h0
    have e2 := flatL_eq n e (xs.map (·.1)) b hb' m cs xs (j + 1) rfl (fun i hi => by
     have := hel (i + 1) (Nat.succ_lt_succ hi)
     rw [List.getElem?_cons_succ] at this
     rw [<- this, Nat.add_assoc, Nat.add_comm 1 i])
    rw [<- hal] at e1
    rw [List.length_append, List.take_add, <- hal, e1, List.drop_drop]
    rw [<- hal, Nat.add_mul, Nat.one_mul] at e2
    rw [e2]
end

def leaves (vs : List Value) : List AV := vs.map .v
theorem cells_of_laid {W : World} {name : String} {d : DataW Unit} {rest : List (String × DataW Unit)} {ps : List MemPlace} {g t n : Nat} {vs : List Value} (hg : P.globalNamed name = some g) (hty : (P.globals[g]?).map (·.type) = some t)
  (hf : flatT P n t d = some vs) (h : DataW.LaidVars P W ((name, d) :: rest) ps) : (∀ (i : Nat) v, vs[i]? = some v -> W.cell? ⟨g, 0 + i, none⟩ = some v) /\ ∃ q, DataW.LaidVars P W rest q := by
 obtain ⟨g', t', cs, fuel, p, q, hg', ht', hvar, hd, hr, _⟩ := h
 obtain rfl := Option.some.inj (hg.symm.trans hg')
 obtain rfl := Option.some.inj (hty.symm.trans ht')
 refine ⟨fun i v hv => ?_, q, hr⟩
 have e := flatT_eq n t d vs hf fuel cs.toList p hd
 rw [Nat.zero_add, World.var?_cell hg hvar i, <- Array.getElem?_toList, e, hv]

/- The tables of a row's list that hold plain data: their numbers, their cells. -/
def laidTabs (P : Program) : List (String × DataW Unit) -> List (Nat × List Value)
 | [] => []
 | (name, d) :: rest =>
  match P.globalNamed name with
  | none => laidTabs P rest
  | some g =>
   match (P.globals[g]?).map (·.type) with
   | none => laidTabs P rest
   | some t =>
    match flatT P 1000 t d with
    | some vs => if vs.all scalar then (g, vs) :: laidTabs P rest else laidTabs P rest
    | none => laidTabs P rest
def tabsG : List (Nat × List Value) -> Nat -> Option (List AV)
 | [], _ => none
 | (h, vs) :: r, g => bif Nat.beq h g then some (leaves vs) else tabsG r g
def TabsMet (L : List (Nat × List Value)) (W : World) : Prop := ∀ g vs, (g, vs) ∈ L -> vs.all scalar = true /\ ∀ (i : Nat) v, vs[i]? = some v -> W.cell? ⟨g, 0 + i, none⟩ = some v
theorem tabs_of_laid {W : World} : ∀ {laid : List (String × DataW Unit)} {ps : List MemPlace}, DataW.LaidVars P W laid ps -> TabsMet (laidTabs P laid) W
 | [], ps, h => fun g vs hm => by cases hm
 | (name, d) :: rest, ps, h => by
  have hr : ∃ q, DataW.LaidVars P W rest q := by obtain ⟨_, _, _, _, _, q, _, _, _, _, hr, _⟩ := h; exact ⟨q, hr⟩
  obtain ⟨q, hr⟩ := hr
  have ih := tabs_of_laid hr
  intro g vs hm
  unfold laidTabs at hm
  split at hm
  ·exact ih g vs hm
  ·rename_i g' hg
   split at hm
   ·exact ih g vs hm
   ·rename_i t hty
    split at hm
    ·rename_i vs' hf
     split at hm
     ·rename_i hs
      rw [List.mem_cons] at hm
      rcases hm with e | hm
      ·cases e
       exact ⟨hs, (cells_of_laid hg hty hf h).1⟩
      ·exact ih g vs hm
     ·exact ih g vs hm
    ·exact ih g vs hm
def Mp.start : Mp := ⟨id, id, fun _ => .nil, fun _ _ => False⟩
theorem tabsG_mem : ∀ {L : List (Nat × List Value)} {g : Nat} {cs : List AV}, tabsG L g = some cs -> ∃ vs, (g, vs) ∈ L /\ cs = leaves vs
 | [], g, cs, h => by cases h
 | (k, vs) :: r, g, cs, h => by
  unfold tabsG at h
  cases e : Nat.beq k g with
  | true =>
   rw [e] at h
   cases h
   obtain rfl := Nat.eq_of_beq_eq_true e
   exact ⟨vs, by simp, rfl⟩
  | false =>
   rw [e] at h
   obtain ⟨us, h1, h2⟩ := tabsG_mem h
   exact ⟨us, by simp [h1], h2⟩
theorem tabsG_first {L : List (Nat × List Value)} {g : Nat} {vs : List Value} (h : (g, vs) ∈ L) (hn : (L.map (·.1)).Nodup) : tabsG L g = some (leaves vs) := by
 induction L with
 | nil => cases h
 | cons x r ih =>
  obtain ⟨k, us⟩ := x
  rw [List.map_cons, List.nodup_cons] at hn
  unfold tabsG
  rw [List.mem_cons] at h
  rcases h with e | h
  ·cases e; rw [nbt]; rfl
  ·have hne : k ≠ g := fun e => hn.1 (by subst e; exact List.mem_map.2 ⟨_, h, rfl⟩)
   rw [nbf hne]
   exact ih h hn.2
theorem leaves_cells {w : World} {s : St} {M : Mp} {g : Nat} {vs : List Value} (h : VRs w s M (leaves vs) g 0) : ∀ (i : Nat) v, vs[i]? = some v -> w.cell? ⟨g, 0 + i, none⟩ = some v := by
 intro i v hv
 obtain ⟨u, h1, h2, _⟩ := h.get i (.v v) (by simp [leaves, hv])
 rw [(VR_v.1 h2).1] at h1
 exact h1
theorem tabs_of_sim {B0 : Nat} {w0 w : World} {s : St} {M : Mp} {L : List (Nat × List Value)} (hn : (L.map (·.1)).Nodup) (hsc : (L.all fun x => x.2.all scalar) = true) (h : Sim (tabsG L) B0 w0 w s M) : TabsMet L w := by
 intro g vs hm
 exact ⟨(List.all_eq_true.1 hsc) (g, vs) hm, leaves_cells (h.glob g _ (tabsG_first hm hn))⟩

theorem Sim.start {G : Nat -> Option (List AV)} {W : World} (hG : ∀ M : Mp, (∀ b off, ¬ M.out b off) -> ∀ g cs, G g = some cs -> VRs W none0 M cs g 0) (M : Mp) (ho : ∀ b off, ¬ M.out b off) : Sim G W.heap.size W W none0 M where
 below := Below.refl _ _
 size := Nat.le_refl _
 bound := Nat.zero_le _
 blk := fun _ hi => absurd hi (Nat.not_lt_zero _)
 inj := fun _ _ _ _ hi => absurd hi (Nat.not_lt_zero _)
 obj := fun _ _ hi => absurd hi (Nat.not_lt_zero _)
 glob := hG M ho
 fx := fun _ he => by cases he
 out := fun b off h => absurd h (ho b off)

def noOrc : Call := fun _ _ _ => none
theorem noOrc_ok {G : Nat -> Option (List AV)} {B0 : Nat} {w0 : World} : CallOk P G B0 w0 noOrc := fun fr args s r s' h => by cases h
theorem trodAll_below {H : Type} {enc : TypeId × Value -> H} (hl : laidOutB P = true) {W W' : World} (hb : Below W.heap.size W W') : ∀ (ts : List TypeId) (vs : List Value) (ds : List (DataW H)) (ps : List MemPlace),
  (ts.all fun t => P.readableRec t && decide (t < P.types.size)) = true -> DataW.TrodAll enc P W 0 (fun _ => true) true ts vs ds ps -> (∀ x ∈ ps, x.block < W.heap.size) ->
  DataW.TrodAll enc P W' 0 (fun b => decide (b < W.heap.size)) true ts vs ds ps
 | [], [], [], ps, _, h, _ => h
 | t :: ts, v :: vs, d :: ds, ps, ht, h, hlt => by
  obtain ⟨p, q, h1, h2, rfl⟩ := h
  rw [List.all_cons, Bool.and_eq_true, Bool.and_eq_true, decide_eq_true_eq] at ht
  exact ⟨p, q, Below.trod hl ht.1.1 ht.1.2 h1 hb (fun x hx => hlt x (List.mem_append_left _ hx)), trodAll_below hl hb ts vs ds q ht.2 h2 (fun x hx => hlt x (List.mem_append_right _ hx)), rfl⟩

theorem post_true {H : Type} {enc : TypeId × Value -> H} {f : Func} {s : ChangeSpec} {apart fresh handsOn : Bool} {W W' : World} {args : Array Value} {ds gs : List (DataW H)} {before : List MemPlace} {t : TypeId}
  (hl : laidOutB P = true) (hts : (f.params.toList.all fun t => P.readableRec t && decide (t < P.types.size)) = true) (hrt : f.resultTypes = #[t]) (ht : P.underlying t = some .bool)
  (hW : DataW.Whole enc P f.params.toList s.vars apart W args.toList ds gs before) (hvars : s.vars = []) (hres : (s.fn H (ds ++ gs)).results = [.lit (.bool true)]) (hargs : (s.fn H (ds ++ gs)).args = ds) (hv : (s.fn H (ds ++ gs)).vars = [])
  (hb : Below W.heap.size W W') : s.post enc P f apart fresh handsOn false W args (.bool true) W' := by
 have hlt : ∀ p ∈ before, p.block < W.heap.size := fun p hp => hW.lt p hp
 have hW' := hW
 obtain ⟨p, q, hA, hV, rfl, hz, hn⟩ := hW
 refine ⟨ds, gs, p ++ q, [], p, [], hW', ?_, ?_, ?_, hb.frame _, fun h => by cases h⟩
 ·rw [hres, hrt]
  exact trodAll_mk1 (shut_bool ht true)
 ·rw [hargs]
  exact trodAll_below hl hb _ _ _ _ hts hA (fun x hx => hlt x (List.mem_append_left _ hx))
 ·rw [hvars, hv]
  rfl
end Go.Ab
/- Contracts of functions over plain data: what is handed in and comes back, as expressions. -/
namespace Go.Ab
open Go Go.RowKit

inductive Sh where
 | cell (c : CT)
 | row (t : Nat)
 | fn (f : Nat) (ts : List Nat)
 | lit (x : ByteArray)
section
variable (tb : Nat -> List CT) (C : Nat -> Nat -> Option Value) (I : Nat -> Nat -> Prop)
def CellsR : List Value -> List D -> List CT -> Prop
 | [], [], [] => True
 | v :: vs, d :: ds, c :: cs => (DV C I d v /\ fits tb d c) /\ CellsR vs ds cs
 | _, _, _ => False
def RefR (t : Nat) (v : Value) (d : D) : Prop := ∃ b off cs, v = .pointer (some ⟨b, off, none⟩) /\ d = .row cs /\ DVs C I cs b off /\ fitsC tb cs (tb t)
def RefsR : List Value -> List D -> List Nat -> Prop
 | [], [], [] => True
 | v :: vs, d :: ds, t :: ts => RefR tb C I t v d /\ RefsR vs ds ts
 | _, _, _ => False
def ArgR : Sh -> Value -> D -> Prop
 | .cell c, v, d => DV C I d v /\ fits tb d c
 | .row t, v, d => ∃ vs cs, v = .agg vs /\ d = .row cs /\ CellsR tb C I vs.toList cs (tb t)
 | .fn f ts, v, d => ∃ caps ds, v = .func (.func f) #[] caps /\ d = .row ds /\ RefsR tb C I caps.toList ds ts
 | .lit x, v, d => v = .string x /\ d = .v (.string x)
def ArgsR : List Sh -> List Value -> List D -> Prop
 | [], [], [] => True
 | h :: hs, v :: vs, d :: ds => ArgR tb C I h v d /\ ArgsR hs vs ds
 | _, _, _ => False
def ResR (hs : List Sh) (v : Value) (d : D) : Prop :=
 match hs with
 | [h] => ArgR tb C I h v d
 | hs => ∃ vs ds, v = .tuple vs /\ d = .row ds /\ ArgsR tb C I hs vs.toList ds
end

def fuelX : Nat := 100000
def refX (k : Kn) (t : Nat) : AV -> Option E
 | .rd t' e 0 => if t = t' then some e else none
 | .ref cs => (cellsX k fuelX (k.shape t) cs).map (.pr .row)
 | _ => none
def refsX (k : Kn) : List Nat -> List AV -> Option (List E)
 | [], [] => some []
 | t :: ts, a :: as =>
  match refX k t a, refsX k ts as with
  | some x, some y => some (x :: y)
  | _, _ => none
 | _, _ => none
def shE (k : Kn) : Sh -> AV -> Option E
 | .cell c, a => cellX k fuelX c a
 | .row t, .agg cs => if Nat.beq cs.length (k.shape t).length then (cellsX k fuelX (k.shape t) cs).map (.pr .row) else none
 | .fn f ts, .fn (.func g) [] caps => if Nat.beq f g then (refsX k ts caps).map (.pr .row) else none
 | .lit x, .v (.string y) => if x = y then some (.lit (.string x)) else none
 | _, _ => none
def shEs (k : Kn) : List Sh -> List AV -> Option (List E)
 | [], [] => some []
 | h :: hs, a :: as =>
  match shE k h a, shEs k hs as with
  | some x, some y => some (x :: y)
  | _, _ => none
 | _, _ => none
def refsA (e : E) : Nat -> List Nat -> List AV
 | _, [] => []
 | j, t :: ts => .rd t (cellE e j) 0 :: refsA e (j + 1) ts
def shA (k : Kn) (e : E) : Sh -> AV
 | .cell (.sc t) => .x t e
 | .cell (.sl t) => .d t e none
 | .row t => .agg (cellsA e 0 (k.shape t))
 | .fn f ts => .fn (.func f) [] (refsA e 0 ts)
 | .lit x => .v (.string x)
def resA (k : Kn) (e : E) : List Sh -> AV
 | [h] => shA k e h
 | hs => .tup (hs.zipIdx.map fun (h, i) => shA k (.pr (.cell i) [e]) h)

section
variable [Interp] {P : Program} {G : Nat -> Option (List AV)} {B0 : Nat} {w0 w : World} {s : St} {M : Mp}

theorem cellsX_VRl : ∀ (n : Nat) {ct : List CT} {cs : List AV} {l : List E} {vs : List Value}, ct.length = cs.length -> cellsX s.k n ct cs = some l -> VRl w s M cs vs -> CellsR s.k.shape (fun b off => w.cell? ⟨b, off, none⟩) (Imm s M) vs (E.denL M.env l) ct
 | 0, _, _, _, _, _, h, _ => by unfold cellsX at h; cases h
 | n + 1, ct, cs, l, vs, hlen, h, hv => by
  unfold cellsX at h
  split at h
  ·cases h
   have : cs = [] := List.length_eq_zero_iff.1 hlen.symm
   subst this
   unfold VRl at hv
   subst hv
   unfold E.denL CellsR
   trivial
  ·rename_i c r a as
   split at h
   ·rename_i x y h1 h2
    cases h
    unfold VRl at hv
    obtain ⟨v, t, rfl, g1, g4⟩ := hv
    unfold E.denL CellsR
    exact ⟨cellX_sound n h1 g1, cellsX_VRl n (by simpa using hlen) h2 g4⟩
   ·cases h
  ·cases h
theorem refX_sound {t : Nat} {a : AV} {e : E} {v : Value} (h : refX s.k t a = some e) (hv : VR w s M a v) : RefR s.k.shape (fun b off => w.cell? ⟨b, off, none⟩) (Imm s M) t v (e.den M.env) := by
 unfold refX at h
 split at h
 ·rename_i t' e'
  split at h
  ·rename_i ht
   cases h
   subst ht
   unfold VR at hv
   obtain ⟨b, off, cs, rfl, he, hd, hf⟩ := hv
   exact ⟨b, off, cs, rfl, he, hd, hf⟩
  ·cases h
 ·obtain ⟨l, hl, rfl⟩ := Option.map_eq_some_iff.1 h
  unfold VR at hv
  obtain ⟨b, off, rfl, hv⟩ := hv
  obtain ⟨k1, k2⟩ := cellsX_sound _ hl hv
  exact ⟨b, off, _, rfl, rfl, k1, k2⟩
 ·cases h
theorem refsX_sound : ∀ {ts : List Nat} {as : List AV} {es : List E} {vs : List Value}, refsX s.k ts as = some es -> VRl w s M as vs -> RefsR s.k.shape (fun b off => w.cell? ⟨b, off, none⟩) (Imm s M) vs (E.denL M.env es) ts
 | [], [], es, vs, h, hv => by
  simp only [refsX, Option.some.injEq] at h
  subst h; unfold VRl at hv; subst hv
  unfold E.denL RefsR; trivial
 | t :: ts, a :: as, es, vs, hx, hv => by
  unfold refsX at hx
  split at hx
  ·rename_i x y h1 h2
   cases hx
   unfold VRl at hv
   obtain ⟨v, r, rfl, g1, g2⟩ := hv
   unfold E.denL RefsR
   exact ⟨refX_sound h1 g1, refsX_sound h2 g2⟩
  ·cases hx
 | [], _ :: _, _, _, h, _ => by unfold refsX at h; cases h
 | _ :: _, [], _, _, h, _ => by unfold refsX at h; cases h
theorem shE_sound {h : Sh} {a : AV} {e : E} {v : Value} (hx : shE s.k h a = some e) (hv : VR w s M a v) : ArgR s.k.shape (fun b off => w.cell? ⟨b, off, none⟩) (Imm s M) h v (e.den M.env) := by
 unfold shE at hx
 split at hx
 ·exact cellX_sound _ hx hv
 ·rename_i t cs
  split at hx
  ·rename_i hlen
   obtain ⟨l, hl, rfl⟩ := Option.map_eq_some_iff.1 hx
   unfold VR at hv
   obtain ⟨vs, rfl, hv⟩ := hv
   exact ⟨vs, E.denL M.env l, rfl, rfl, cellsX_VRl _ (nbe hlen).symm hl hv⟩
  ·cases hx
 ·rename_i f ts g caps
  split at hx
  ·rename_i hf
   obtain rfl := nbe hf
   obtain ⟨l, hl, rfl⟩ := Option.map_eq_some_iff.1 hx
   unfold VR at hv
   obtain ⟨f', a', b', rfl, h0, h1, h2⟩ := hv
   simp only [renFn, Option.some.injEq] at h0
   subst h0
   unfold VRl at h1
   have ha : a' = #[] := Array.toList_inj.1 h1
   subst ha
   exact ⟨b', E.denL M.env l, rfl, rfl, refsX_sound hl h2⟩
  ·cases hx
 ·split at hx
  ·rename_i he
   cases hx
   subst he
   exact ⟨(VR_v.1 hv).1, rfl⟩
  ·cases hx
 ·cases hx
theorem shEs_sound : ∀ {hs : List Sh} {as : List AV} {es : List E} {vs : List Value}, shEs s.k hs as = some es -> VRl w s M as vs -> ArgsR s.k.shape (fun b off => w.cell? ⟨b, off, none⟩) (Imm s M) hs vs (E.denL M.env es)
 | [], [], es, vs, h, hv => by
  simp only [shEs, Option.some.injEq] at h
  subst h; unfold VRl at hv; subst hv
  unfold E.denL ArgsR; trivial
 | h :: hs, a :: as, es, vs, hx, hv => by
  unfold shEs at hx
  split at hx
  ·rename_i x y h1 h2
   cases hx
   unfold VRl at hv
   obtain ⟨v, t, rfl, g1, g2⟩ := hv
   unfold E.denL ArgsR
   exact ⟨shE_sound h1 g1, shEs_sound h2 g2⟩
  ·cases hx
 | [], _ :: _, _, _, h, _ => by unfold shEs at h; cases h
 | _ :: _, [], _, _, h, _ => by unfold shEs at h; cases h

theorem CellsR_VRl {e : E} {cs : List D} (he : e.den M.env = .row cs) : ∀ {ct : List CT} {ds : List D} {vs : List Value} {j : Nat}, ds = cs.drop j -> CellsR s.k.shape (fun b off => w.cell? ⟨b, off, none⟩) (Imm s M) vs ds ct -> VRl w s M (cellsA e j ct) vs
 | [], [], [], j, _, _ => VRl_nil
 | c :: ct, d :: ds, v :: vs, j, hds, h => by
  unfold CellsR at h
  have hj : cs[j]? = some d := by
   have := congrArg (·[0]?) hds
   simp only [List.getElem?_cons_zero, List.getElem?_drop, Nat.add_zero] at this
   exact this.symm
  unfold cellsA
  refine VRl_cons (cellA_VR he hj h.1.2 h.1.1) (CellsR_VRl he (j := j + 1) ?_ h.2)
  have := congrArg (List.drop 1) hds
  rw [List.drop_drop] at this
  simpa using this
 | [], _ :: _, vs, _, _, h => by unfold CellsR at h; cases vs <;> exact h.elim
 | [], [], _ :: _, _, _, h => by unfold CellsR at h; exact h.elim
 | _ :: _, [], vs, _, _, h => by unfold CellsR at h; cases vs <;> exact h.elim
 | _ :: _, _ :: _, [], _, _, h => by unfold CellsR at h; exact h.elim
theorem RefsR_VRl {e : E} {cs : List D} (he : e.den M.env = .row cs) : ∀ {ts : List Nat} {ds : List D} {vs : List Value} {j : Nat}, ds = cs.drop j -> RefsR s.k.shape (fun b off => w.cell? ⟨b, off, none⟩) (Imm s M) vs ds ts -> VRl w s M (refsA e j ts) vs
 | [], [], [], j, _, _ => VRl_nil
 | t :: ts, d :: ds, v :: vs, j, hds, h => by
  unfold RefsR at h
  have hj : cs[j]? = some d := by
   have := congrArg (·[0]?) hds
   simp only [List.getElem?_cons_zero, List.getElem?_drop, Nat.add_zero] at this
   exact this.symm
  unfold refsA
  obtain ⟨⟨b, off, us, rfl, rfl, h1, h2⟩, h3⟩ := h
  refine VRl_cons ?_ (RefsR_VRl he (j := j + 1) ?_ h3)
  ·unfold VR
   exact ⟨b, off, us, by rw [Nat.add_zero], cellE_den he hj, h1, h2⟩
  ·have := congrArg (List.drop 1) hds
   rw [List.drop_drop] at this
   simpa using this
 | [], _ :: _, vs, _, _, h => by unfold RefsR at h; cases vs <;> exact h.elim
 | [], [], _ :: _, _, _, h => by unfold RefsR at h; exact h.elim
 | _ :: _, [], vs, _, _, h => by unfold RefsR at h; cases vs <;> exact h.elim
 | _ :: _, _ :: _, [], _, _, h => by unfold RefsR at h; exact h.elim
theorem shA_VR {h : Sh} {e : E} {v : Value} (ha : ArgR s.k.shape (fun b off => w.cell? ⟨b, off, none⟩) (Imm s M) h v (e.den M.env)) : VR w s M (shA s.k e h) v := by
 cases h with
 | cell c =>
  unfold ArgR at ha
  cases c with
  | sc t =>
   obtain ⟨h1, h2⟩ := ha
   generalize hd : e.den M.env = d at h1 h2
   cases d with
   | v x =>
    unfold DV at h1; unfold fits at h2
    obtain ⟨rfl, _⟩ := h1
    unfold shA VR
    exact ⟨hd, h2⟩
   | nil => unfold fits at h2; exact h2.elim
   | lst _ => unfold fits at h2; exact h2.elim
   | row _ => unfold fits at h2; exact h2.elim
  | sl t => unfold shA VR; exact ⟨ha.1, ha.2, fun t ht => by cases ht⟩
 | row t =>
  obtain ⟨vs, cs, rfl, he, hc⟩ := ha
  unfold shA VR
  exact ⟨vs, rfl, CellsR_VRl he (by simp) hc⟩
 | fn f ts =>
  obtain ⟨caps, ds, rfl, he, hc⟩ := ha
  unfold shA VR
  exact ⟨.func f, #[], caps, rfl, rfl, VRl_nil, RefsR_VRl he (by simp) hc⟩
 | lit x =>
  obtain ⟨rfl, _⟩ := ha
  exact VR_v_of rfl
theorem shAs_VR {e : E} {ds0 : List D} (he : e.den M.env = .row ds0) : ∀ {hs : List Sh} {ds : List D} {vs : List Value} {j : Nat}, ds = ds0.drop j -> ArgsR s.k.shape (fun b off => w.cell? ⟨b, off, none⟩) (Imm s M) hs vs ds -> VRl w s M ((hs.zipIdx j).map fun x => shA s.k (.pr (.cell x.2) [e]) x.1) vs
 | [], [], [], j, _, _ => VRl_nil
 | h :: hs, d :: ds, v :: vs, j, hds, ha => by
  unfold ArgsR at ha
  have hj : ds0[j]? = some d := by
   have := congrArg (·[0]?) hds
   simp only [List.getElem?_cons_zero, List.getElem?_drop, Nat.add_zero] at this
   exact this.symm
  rw [List.zipIdx_cons, List.map_cons]
  refine VRl_cons (shA_VR ?_) (shAs_VR he (j := j + 1) ?_ ha.2)
  ·have : (E.pr (.cell j) [e]).den M.env = d := by
    simp only [E.den, E.denL, Prim.den, he, D.cells]
    rw [List.getD_eq_getElem?_getD, hj]; rfl
   rw [this]; exact ha.1
  ·have := congrArg (List.drop 1) hds
   rw [List.drop_drop] at this
   simpa using this
 | [], _ :: _, vs, _, _, h => by unfold ArgsR at h; cases vs <;> exact h.elim
 | [], [], _ :: _, _, _, h => by unfold ArgsR at h; exact h.elim
 | _ :: _, [], vs, _, _, h => by unfold ArgsR at h; cases vs <;> exact h.elim
 | _ :: _, _ :: _, [], _, _, h => by unfold ArgsR at h; exact h.elim
theorem resA_VR {hs : List Sh} {e : E} {v : Value} (ha : ResR s.k.shape (fun b off => w.cell? ⟨b, off, none⟩) (Imm s M) hs v (e.den M.env)) : VR w s M (resA s.k e hs) v := by
 unfold ResR at ha
 split at ha
 ·exact shA_VR ha
 ·rename_i hno
  obtain ⟨vs, ds, rfl, he, ha⟩ := ha
  have := shAs_VR he (j := 0) (by simp) ha
  unfold resA
  split
  ·rename_i h; exact absurd rfl (hno h)
  ·unfold VR; exact ⟨vs, rfl, this⟩

theorem CellsR.mono {tb : Nat -> List CT} {C C' : Nat -> Nat -> Option Value} {I I' : Nat -> Nat -> Prop} (h : ∀ b off v, C b off = some v -> I b off -> C' b off = some v /\ I' b off) : ∀ {vs : List Value} {ds : List D} {cs : List CT}, CellsR tb C I vs ds cs -> CellsR tb C' I' vs ds cs
 | [], [], [], _ => by unfold CellsR; trivial
 | v :: vs, d :: ds, c :: cs, k => by
  unfold CellsR at k ⊢
  exact ⟨⟨k.1.1.mono h, k.1.2⟩, CellsR.mono h k.2⟩
 | [], _ :: _, _, k => by unfold CellsR at k; exact k.elim
 | _ :: _, [], _, k => by unfold CellsR at k; exact k.elim
 | [], [], _ :: _, k => by unfold CellsR at k; exact k.elim
 | _ :: _, _ :: _, [], k => by unfold CellsR at k; exact k.elim
theorem RefsR.mono {tb : Nat -> List CT} {C C' : Nat -> Nat -> Option Value} {I I' : Nat -> Nat -> Prop} (h : ∀ b off v, C b off = some v -> I b off -> C' b off = some v /\ I' b off) : ∀ {vs : List Value} {ds : List D} {ts : List Nat}, RefsR tb C I vs ds ts -> RefsR tb C' I' vs ds ts
 | [], [], [], _ => by unfold RefsR; trivial
 | v :: vs, d :: ds, c :: cs, k => by
  unfold RefsR at k ⊢
  obtain ⟨⟨b, off, us, e1, e2, k1, k2⟩, k3⟩ := k
  exact ⟨⟨b, off, us, e1, e2, k1.mono h, k2⟩, RefsR.mono h k3⟩
 | [], _ :: _, _, k => by unfold RefsR at k; exact k.elim
 | _ :: _, [], _, k => by unfold RefsR at k; exact k.elim
 | [], [], _ :: _, k => by unfold RefsR at k; exact k.elim
 | _ :: _, _ :: _, [], k => by unfold RefsR at k; exact k.elim
theorem ArgR.mono {tb : Nat -> List CT} {C C' : Nat -> Nat -> Option Value} {I I' : Nat -> Nat -> Prop} (h : ∀ b off v, C b off = some v -> I b off -> C' b off = some v /\ I' b off) {sh : Sh} {v : Value} {d : D} (k : ArgR tb C I sh v d) : ArgR tb C' I' sh v d := by
 cases sh with
 | cell c => exact ⟨k.1.mono h, k.2⟩
 | row t => obtain ⟨vs, cs, e1, e2, k⟩ := k; exact ⟨vs, cs, e1, e2, k.mono h⟩
 | fn f ts => obtain ⟨vs, cs, e1, e2, k⟩ := k; exact ⟨vs, cs, e1, e2, k.mono h⟩
 | lit x => exact k
theorem ArgsR.mono {tb : Nat -> List CT} {C C' : Nat -> Nat -> Option Value} {I I' : Nat -> Nat -> Prop} (h : ∀ b off v, C b off = some v -> I b off -> C' b off = some v /\ I' b off) : ∀ {hs : List Sh} {vs : List Value} {ds : List D}, ArgsR tb C I hs vs ds -> ArgsR tb C' I' hs vs ds
 | [], [], [], _ => by unfold ArgsR; trivial
 | s :: hs, v :: vs, d :: ds, k => by
  unfold ArgsR at k ⊢
  exact ⟨k.1.mono h, ArgsR.mono h k.2⟩
 | [], _ :: _, _, k => by unfold ArgsR at k; exact k.elim
 | _ :: _, [], _, k => by unfold ArgsR at k; exact k.elim
 | [], [], _ :: _, k => by unfold ArgsR at k; exact k.elim
 | _ :: _, _ :: _, [], k => by unfold ArgsR at k; exact k.elim
theorem ResR.mono {tb : Nat -> List CT} {C C' : Nat -> Nat -> Option Value} {I I' : Nat -> Nat -> Prop} (h : ∀ b off v, C b off = some v -> I b off -> C' b off = some v /\ I' b off) {hs : List Sh} {v : Value} {d : D} (k : ResR tb C I hs v d) : ResR tb C' I' hs v d := by
 rcases hs with _ | ⟨a, _ | ⟨b, r⟩⟩
 ·obtain ⟨vs, ds, e1, e2, k⟩ := k; exact ⟨vs, ds, e1, e2, k.mono h⟩
 ·exact ArgR.mono h k
 ·obtain ⟨vs, ds, e1, e2, k⟩ := k; exact ⟨vs, ds, e1, e2, k.mono h⟩

structure Sig where
 f : FuncId
 g : Nat
 args : List Sh
 res : List Sh
def FnOk (P : Program) (L : List (Nat × List Value)) (tb : List (Nat × List CT)) (q : Sig) (pre : List D -> Prop) : Prop :=
 ∀ (W : World) (I : Nat -> Nat -> Prop) (vs : Array Value) (ds : List D), TabsMet L W -> (∀ g us, (g, us) ∈ L -> ∀ off, off < us.length -> I g off) -> ArgsR ({ tb := tb } : Kn).shape (fun b off => W.cell? ⟨b, off, none⟩) I q.args vs.toList ds -> pre ds ->
  CallsIn (FW none) 0 P q.f vs W fun e W' => ∃ v, e = .returned v /\ Below W.heap.size W W' /\ ResR ({ tb := tb } : Kn).shape (fun b off => W'.cell? ⟨b, off, none⟩) (fun b off => I b off \/ W.heap.size <= b) q.res v (Interp.phi q.g ds)
def capsOf : AV -> List Nat
 | .fn (.func _) [] caps => caps.filterMap fun c => match c with | .box b 0 => some b | _ => none
 | _ => []
def killL (s : St) : List Nat -> St
 | [] => s
 | b :: r => killL (s.put b .dead) r
def frzAll (s : St) (free : Nat -> Bool) : List AV -> Option (List AV)
 | [] => some []
 | a :: r =>
  match frzG s free 1000 a, frzAll s free r with
  | some x, some y => some (x :: y)
  | _, _ => none
def memN (b : Nat) : List Nat -> Bool
 | [] => false
 | c :: r => Nat.beq b c || memN b r
theorem memN_iff {b : Nat} : ∀ {l : List Nat}, memN b l = true ↔ b ∈ l
 | [] => by simp [memN]
 | c :: r => by
  unfold memN
  rw [Bool.or_eq_true, memN_iff, List.mem_cons]
  exact ⟨fun h => h.imp nbe id, fun h => h.imp (fun e => by subst e; exact nbt _) id⟩
theorem kill_list : ∀ {K : List Nat} {s : St}, Sim G B0 w0 w s M -> (∀ b, b ∈ K -> b < s.n) -> Sim G B0 w0 w (killL s K) M /\ Ext w s M w (killL s K) M /\ (killL s K).n = s.n /\ (killL s K).k = s.k /\ ∀ i, (killL s K).get i = if i ∈ K then some .dead else s.get i
 | [], s, hs, _ => ⟨hs, Ext.refl _ _ _, rfl, rfl, fun i => by simp [killL]⟩
 | b :: r, s, hs, hK => by
  have hb := hK b (List.mem_cons_self ..)
  have hbl : b < Tr.lid := Nat.lt_of_lt_of_le hb hs.bound
  obtain ⟨k1, k2, k3, k4, k5⟩ := kill_list (K := r) (sim_kill hs b hb) (fun c hc => hK c (List.mem_cons_of_mem _ hc))
  refine ⟨k1, (ext_kill b hbl).trans k2, k3, k4, fun i => ?_⟩
  show (killL (s.put b .dead) r).get i = _
  rw [k5, St.get_put _ _ _ _ hbl]
  by_cases h1 : i ∈ r
  ·rw [if_pos h1, if_pos (List.mem_cons_of_mem _ h1)]
  ·rw [if_neg h1]
   by_cases h2 : i = b
   ·rw [if_pos h2, if_pos (by rw [h2]; exact List.mem_cons_self ..)]
   ·rw [if_neg h2, if_neg (fun h => by rcases List.mem_cons.1 h with h | h; exact h2 h; exact h1 h)]
theorem frzAll_VRl {s' : St} {free : Nat -> Bool} (himm : ∀ b off, Imm s M b off -> Imm s' M b off) (hown : ∀ b o, b < s.n -> s.get b = some o -> o.live -> free b = true -> ∀ off, Imm s' M (M.blk b) off) (hk : s.k = s'.k) (hs : Sim G B0 w0 w s M) : ∀ {as ys : List AV} {vs : List Value}, frzAll s free as = some ys -> VRl w s M as vs -> VRl w s' M ys vs
 | [], ys, vs, h, hv => by
  simp only [frzAll, Option.some.injEq] at h
  subst h; unfold VRl at hv ⊢; exact hv
 | a :: r, ys, vs, h, hv => by
  unfold frzAll at h
  split at h
  ·rename_i x y h1 h2
   cases h
   unfold VRl at hv ⊢
   obtain ⟨v, t, e, g1, g2⟩ := hv
   exact ⟨v, t, e, frzG_VR himm hown hk hs _ h1 g1, frzAll_VRl himm hown hk hs h2 g2⟩
  ·cases h
theorem kill_own {s' : St} {K : List Nat} (hs : Sim G B0 w0 w s M) (hget : ∀ i, s'.get i = if i ∈ K then some .dead else s.get i) (hn : s'.n = s.n) : ∀ b ob, b < s.n -> s.get b = some ob -> ob.live -> memN b K = true -> ∀ off, Imm s' M (M.blk b) off := by
 intro b ob hb hgb hlv hf off
 have hbK := memN_iff.1 hf
 refine ⟨fun j o hj hgj hbk => ?_, out_own hs hb⟩
 rw [hget] at hgj
 by_cases hjK : j ∈ K
 ·rw [if_pos hjK] at hgj; cases hgj; trivial
 ·rw [if_neg hjK] at hgj
  rw [hn] at hj
  have e1 := hs.inj j b o ob hj hb hgj hgb
  cases o with
  | dead => trivial
  | _ => exact absurd (e1 trivial hlv hbk) (fun e => hjK (by rw [e]; exact hbK))
def ctrOrc (tb : List (Nat × List CT)) (q : Sig) (need : List E -> List E) : Call := fun fr args s =>
 match fr with
 | .func f =>
  if Nat.beq f q.f && decide (s.k.tb = tb) then
   let K := args.flatMap capsOf
   if K.all fun b => Nat.ble (b + 1) s.n then
    match frzAll s (fun b => memN b K) args with
    | some args' =>
     match shEs s.k q.args args' with
     | some es => if (need es).all fun e => hasE e s.k.fx then some (resA s.k (.app q.g es) q.res, killL s K) else none
     | none => none
    | none => none
   else none
  else none
 | _ => none
theorem ctrOrc_ok {L : List (Nat × List Value)} {tb : List (Nat × List CT)} {q : Sig} {pre : List D -> Prop} {need : List E -> List E} (hn : (L.map (·.1)).Nodup) (hsc : (L.all fun x => x.2.all scalar) = true) (h : FnOk P L tb q pre)
  (hpre : ∀ (env : Nat -> D) (es : List E), (∀ e ∈ need es, e.den env = .v (.bool true)) -> pre (E.denL env es)) : CallOk P (tabsG L) B0 w0 (ctrOrc tb q need) := by
 intro fr args s r s' ho w M vs hs hv
 unfold ctrOrc at ho
 split at ho
 ·rename_i f
  split at ho
  ·rename_i hf
   rw [Bool.and_eq_true, decide_eq_true_eq] at hf
   obtain ⟨hf, htb⟩ := hf
   obtain rfl := nbe hf
   simp only at ho
   split at ho
   ·rename_i hK
    have hK : ∀ b, b ∈ args.flatMap capsOf -> b < s.n := fun b hb => Nat.le_of_ble_eq_true ((List.all_eq_true.1 hK) b hb)
    split at ho
    ·rename_i args' hfr
     split at ho
     ·rename_i es hes
      split at ho
      ·rename_i hneed
       cases ho
       obtain ⟨q1, q2, q3, q4, q5⟩ := kill_list (w := w) (M := M) hs hK
       have hv2 : VRl w (killL s (args.flatMap capsOf)) M args' vs.toList := frzAll_VRl (fun b off hi => by
        refine ⟨fun i o hin hgi hbk => ?_, hi.2⟩
        rw [q5] at hgi
        split at hgi
        ·cases hgi; trivial
        ·exact hi.1 i o (by rw [<- q3]; exact hin) hgi hbk) (kill_own hs q5 q3) q4.symm hs hfr hv
       have hsh : ({ tb := tb } : Kn).shape = s.k.shape := by funext t; unfold Kn.shape; rw [htb]
       rw [<- q4] at hes
       have hargs := shEs_sound hes hv2
       have hp : pre (E.denL M.env es) := hpre _ _ fun e he => fact_of hs ((List.all_eq_true.1 hneed) e he)
       refine (h w (Imm (killL s (args.flatMap capsOf)) M) vs (E.denL M.env es) (tabs_of_sim hn hsc hs) (fun g us hm off ho => ?_) (by rw [hsh, <- q4]; exact hargs) hp).mono ?_
       ·have hg := q1.glob g _ (tabsG_first hm hn)
        obtain ⟨_, _, _, _, h4⟩ := VRs.get hg off (.v us[off]) (by simp [leaves, ho])
        simpa using h4
       ·rintro e W' ⟨v, rfl, hb, hr⟩
        obtain ⟨k1, k2⟩ := sim_frame q1 hb
        refine ⟨M, .inl ⟨v, rfl, ?_⟩, k1, q2.trans k2⟩
        rw [<- q4]
        refine resA_VR (e := .app q.g es) ?_
        rw [hsh, <- q4] at hr
        simp only [E.den]
        refine hr.mono fun b off u hu hi => ⟨hu, ?_⟩
        rcases hi with hi | hi
        ·exact hi
        ·exact ⟨fun i o hin _ hbk => absurd (hs.blk i (by rw [<- q3]; exact hin)).2 (by rw [hbk]; omega), out_new hs hi⟩
      ·cases ho
     ·cases ho
    ·cases ho
   ·cases ho
  ·cases ho
 ·cases ho
def orElse (a b : Call) : Call := fun fr args s => match a fr args s with | some r => some r | none => b fr args s
theorem orElse_ok {a b : Call} (ha : CallOk P G B0 w0 a) (hb : CallOk P G B0 w0 b) : CallOk P G B0 w0 (orElse a b) := by
 intro fr args s r s' h
 unfold orElse at h
 split at h
 ·rename_i q hq
  cases h
  exact ha fr args s r s' hq
 ·exact hb fr args s r s' h

def kn (fx : List E) (tb : List (Nat × List CT)) : Kn := { fx := fx, tb := tb }
def st0 (k : Kn) : St := { n := 0, o := .lf, k := k }
def argsA (k : Kn) : Nat -> List Sh -> List AV
 | _, [] => []
 | i, h :: hs => shA k (.var i) h :: argsA k (i + 1) hs
def envOf (ds : List D) : Nat -> D := fun i => ds.getD i .nil
def resE (k : Kn) (hs : List Sh) (r : AV) : Option E :=
 match hs, r with
 | [h], r => shE k h r
 | hs, .tup l => (shEs k hs l).map (.pr .row)
 | _, _ => none
theorem resE_sound {hs : List Sh} {r : AV} {e : E} {v : Value} (h : resE s.k hs r = some e) (hv : VR w s M r v) : ResR s.k.shape (fun b off => w.cell? ⟨b, off, none⟩) (Imm s M) hs v (e.den M.env) := by
 have key : ∀ {hs : List Sh} {l : List AV} {es : List E} {v : Value}, shEs s.k hs l = some es -> VR w s M (.tup l) v -> ∃ vs ds, v = .tuple vs /\ (E.pr .row es).den M.env = .row ds /\ ArgsR s.k.shape (fun b off => w.cell? ⟨b, off, none⟩) (Imm s M) hs vs.toList ds := by
  intro hs l es v he hv
  unfold VR at hv
  obtain ⟨vs, rfl, hv⟩ := hv
  exact ⟨vs, E.denL M.env es, rfl, rfl, shEs_sound he hv⟩
 rcases hs with _ | ⟨a, _ | ⟨b, r'⟩⟩
 ·unfold resE at h
  split at h
  ·rename_i hc; cases hc
  ·obtain ⟨es, he, rfl⟩ := Option.map_eq_some_iff.1 h
   exact key he hv
  ·cases h
 ·unfold resE at h
  exact shE_sound h hv
 ·unfold resE at h
  split at h
  ·rename_i hc; cases hc
  ·obtain ⟨es, he, rfl⟩ := Option.map_eq_some_iff.1 h
   exact key he hv
  ·cases h
def startM (W : World) (I : Nat -> Nat -> Prop) (env : Nat -> D) : Mp := ⟨id, id, env, fun b off => b < W.heap.size /\ ¬ I b off⟩
theorem start_imm {W : World} {I : Nat -> Nat -> Prop} {env : Nat -> D} {k : Kn} {b off : Nat} (h : I b off) : Imm (st0 k) (startM W I env) b off := ⟨fun _ _ hi => absurd hi (Nat.not_lt_zero _), fun ho => ho.2 h⟩
theorem argsA_VRl {W : World} {I : Nat -> Nat -> Prop} {ds0 : List D} {k : Kn} : ∀ {hs : List Sh} {vs : List Value} {ds : List D} {j : Nat}, ds = ds0.drop j -> ArgsR k.shape (fun b off => W.cell? ⟨b, off, none⟩) I hs vs ds -> VRl W (st0 k) (startM W I (envOf ds0)) (argsA k j hs) vs
 | [], [], [], j, _, _ => VRl_nil
 | h :: hs, v :: vs, d :: ds, j, hds, ha => by
  unfold ArgsR at ha
  have hj : ds0[j]? = some d := by
   have := congrArg (·[0]?) hds
   simp only [List.getElem?_cons_zero, List.getElem?_drop, Nat.add_zero] at this
   exact this.symm
  unfold argsA
  refine VRl_cons (shA_VR ?_) (argsA_VRl (j := j + 1) ?_ ha.2)
  ·have : (E.var j).den (startM W I (envOf ds0)).env = d := by
    simp only [E.den, startM, envOf]
    rw [List.getD_eq_getElem?_getD, hj]; rfl
   rw [this]
   exact ha.1.mono fun b off u hu hi => ⟨hu, start_imm hi⟩
  ·have := congrArg (List.drop 1) hds
   rw [List.drop_drop] at this
   simpa using this
 | [], _ :: _, _, _, _, h => by unfold ArgsR at h; exact h.elim
 | [], [], _ :: _, _, _, h => by unfold ArgsR at h; exact h.elim
 | _ :: _, [], vs, _, _, h => by unfold ArgsR at h; exact h.elim
 | _ :: _, _ :: _, [], _, _, h => by unfold ArgsR at h; exact h.elim
end
end Go.Ab
/- Functions with loops: cut at the heads of their loops; from head to head each way is one run of the evaluator. -/
namespace Go.Ab
open Go Go.RowKit

inductive Fr where
 | seq (c : Code) (m : Nat)
 | block (id : Nat)
 | head (j : Nat)
 | scope
inductive Rs where
 | done (ex : Ex) (T : Tm) (s : St)
 | enter (j : Nat) (T : Tm) (s : St)
 | again (j : Nat) (T : Tm) (s : St)

def countL : Code -> Nat
 | .seq a b => countL a + countL b
 | .block _ b => countL b
 | .cond _ a b => countL a + countL b
 | .loop b => countL b + 1
 | .scope b => countL b
 | _ => 0
def headsL : Code -> List Fr -> Nat -> List (Code × List Fr)
 | .seq a b, k, m => headsL a (.seq b (m + countL a) :: k) m ++ headsL b k (m + countL a)
 | .block id b, k, m => headsL b (.block id :: k) m
 | .cond _ a b, k, m => headsL a k m ++ headsL b k (m + countL a)
 | .loop b, k, m => (b, k) :: headsL b (.head m :: k) (m + 1)
 | .scope b, k, m => headsL b (.scope :: k) m
 | _, _, _ => []
theorem headsL_length : ∀ (c : Code) (k : List Fr) (m : Nat), (headsL c k m).length = countL c
 | .seq a b, k, m => by unfold headsL countL; rw [List.length_append, headsL_length, headsL_length]
 | .block id b, k, m => by unfold headsL countL; exact headsL_length _ _ _
 | .cond _ a b, k, m => by unfold headsL countL; rw [List.length_append, headsL_length, headsL_length]
 | .loop b, k, m => by unfold headsL countL; rw [List.length_cons, headsL_length]
 | .skip, _, _ => rfl
 | .region .., _, _ => rfl
 | .rangeFunc .., _, _ => rfl
 | .exit _, _, _ => rfl
 | .scope b, k, m => by unfold headsL countL; exact headsL_length _ _ _
 | .label _, _, _ => rfl
 | .goto _, _, _ => rfl
 | .ret, _, _ => rfl
 | .refuse _, _, _ => rfl

section
variable (hd : List (Code × List Fr))
def SegL (l : List (Code × List Fr)) (m : Nat) : Prop := ∀ i x, l[i]? = some x -> hd[m + i]? = some x
def FrOk : List Fr -> Prop
 | [] => True
 | .seq c m :: k => SegL hd (headsL c k m) m /\ FrOk k
 | .block _ :: k => FrOk k
 | .head _ :: k => FrOk k
 | .scope :: k => FrOk k
end
theorem SegL.left {hd a b : List (Code × List Fr)} {m : Nat} (h : SegL hd (a ++ b) m) : SegL hd a m := fun i x hi => h i x (by
 rw [List.getElem?_append_left (List.getElem?_eq_some_iff.1 hi).1]; exact hi)
theorem SegL.right {hd a b : List (Code × List Fr)} {m : Nat} (h : SegL hd (a ++ b) m) : SegL hd b (m + a.length) := fun i x hi => by
 have := h (a.length + i) x (by rw [List.getElem?_append_right (Nat.le_add_right _ _)]; rw [Nat.add_sub_cancel_left]; exact hi)
 rw [<- Nat.add_assoc] at this; exact this
theorem SegL.tail {hd b : List (Code × List Fr)} {a : Code × List Fr} {m : Nat} (h : SegL hd (a :: b) m) : hd[m]? = some a /\ SegL hd b (m + 1) :=
 ⟨h 0 a rfl, fun i x hi => by have := h (i + 1) x (by rw [List.getElem?_cons_succ]; exact hi); rw [Nat.add_assoc, Nat.add_comm 1 i]; exact this⟩
theorem heads_inv {hd : List (Code × List Fr)} : ∀ (c : Code) (k : List Fr) (m : Nat), SegL hd (headsL c k m) m -> FrOk hd k -> ∀ i b k', (headsL c k m)[i]? = some (b, k') -> SegL hd (headsL b (.head (m + i) :: k') (m + i + 1)) (m + i + 1) /\ FrOk hd k'
 | .seq a b, k, m, h, hk, i, b', k', hi => by
  unfold headsL at h hi
  have hr := h.right
  rw [headsL_length] at hr
  rw [List.getElem?_append] at hi
  split at hi
  ·exact heads_inv a _ m h.left ⟨hr, hk⟩ i b' k' hi
  ·rename_i hge
   rw [headsL_length] at hi hge
   have := heads_inv b k _ hr hk _ b' k' hi
   have e : m + countL a + (i - countL a) = m + i := by omega
   rw [e] at this; exact this
 | .block id b, k, m, h, hk, i, b', k', hi => by
  unfold headsL at h hi
  exact heads_inv b (.block id :: k) m h hk i b' k' hi
 | .cond c a b, k, m, h, hk, i, b', k', hi => by
  unfold headsL at h hi
  have hr := h.right
  rw [headsL_length] at hr
  rw [List.getElem?_append] at hi
  split at hi
  ·exact heads_inv a _ m h.left hk i b' k' hi
  ·rename_i hge
   rw [headsL_length] at hi hge
   have := heads_inv b k _ hr hk _ b' k' hi
   have e : m + countL a + (i - countL a) = m + i := by omega
   rw [e] at this; exact this
 | .loop b, k, m, h, hk, i, b', k', hi => by
  unfold headsL at h hi
  cases i with
  | zero =>
   simp only [List.getElem?_cons_zero, Option.some.injEq, Prod.mk.injEq] at hi
   obtain ⟨rfl, rfl⟩ := hi
   exact ⟨h.tail.2, hk⟩
  | succ i =>
   rw [List.getElem?_cons_succ] at hi
   have := heads_inv b (.head m :: k) (m + 1) h.tail.2 hk i b' k' hi
   have e : m + 1 + i = m + (i + 1) := by omega
   rw [e] at this; exact this
 | .skip, _, _, _, _, i, _, _, hi => by simp [headsL] at hi
 | .region .., _, _, _, _, i, _, _, hi => by simp [headsL] at hi
 | .rangeFunc .., _, _, _, _, i, _, _, hi => by simp [headsL] at hi
 | .exit _, _, _, _, _, i, _, _, hi => by simp [headsL] at hi
 | .scope b, k, m, h, hk, i, b', k', hi => by
  unfold headsL at h hi
  exact heads_inv b (.scope :: k) m h hk i b' k' hi
 | .label _, _, _, _, _, i, _, _, hi => by simp [headsL] at hi
 | .goto _, _, _, _, _, i, _, _, hi => by simp [headsL] at hi
 | .ret, _, _, _, _, i, _, _, hi => by simp [headsL] at hi
 | .refuse _, _, _, _, _, i, _, _, hi => by simp [headsL] at hi

section
variable (G : Nat -> Option (List AV)) (run : Code -> Tm -> St -> Option (Ex × Tm × St))
def evH : Nat -> Sum (Code × Nat) Ex -> Tm -> St -> List Fr -> Option Rs
 | 0, _, _, _, _ => none
 | n + 1, .inl (c, m), T, s, k =>
  match c with
  | .seq a b => evH n (.inl (a, m)) T s (.seq b (m + countL a) :: k)
  | .block id b => evH n (.inl (b, m)) T s (.block id :: k)
  | .cond c a b =>
   match cnd G T s c with
   | some true => evH n (.inl (a, m)) T s k
   | some false => evH n (.inl (b, m + countL a)) T s k
   | none => none
  | .loop b => some (.enter m T s)
  | .scope b =>
   if Nat.beq (countL b) 0 then
    match run (.scope b) T s with
    | some (ex, T, s) => evH n (.inr ex) T s k
    | none => none
   else evH n (.inl (b, m)) T s (.scope :: k)
  | c =>
   match run c T s with
   | some (ex, T, s) => evH n (.inr ex) T s k
   | none => none
 | n + 1, .inr ex, T, s, k =>
  match k with
  | [] => some (.done ex T s)
  | .seq b m :: k =>
   match ex with
   | .normal => evH n (.inl (b, m)) T s k
   | ex => evH n (.inr ex) T s k
  | .block id :: k =>
   match ex with
   | .exit i => if i = id then evH n (.inr .normal) T s k else evH n (.inr (.exit i)) T s k
   | ex => evH n (.inr ex) T s k
  | .head j :: k =>
   match ex with
   | .normal => some (.again j T s)
   | ex => evH n (.inr ex) T s k
  | .scope :: k =>
   match ex with
   | .goto _ => none
   | ex => evH n (.inr ex) T s k
end

section
variable [Interp] {P : Program} {G : Nat -> Option (List AV)} {B0 : Nat} {w0 w : World} {s : St} {M : Mp}
def wpk (F : Fence) (P : Program) (J : Nat -> Act -> World -> Prop) (Q : Exit -> Act -> World -> Prop) : List Fr -> Exit -> Act -> World -> Prop
 | [] => Q
 | .seq c _ :: k => Exit.then (c.wpIn F 0 P (wpk F P J Q k)) (wpk F P J Q k)
 | .block id :: k => Exit.inBlock id (wpk F P J Q k)
 | .head j :: k => Exit.then (J j) (wpk F P J Q k)
 | .scope :: k => fun e a w => match e with | .goto _ => False | e => wpk F P J Q k e a w
theorem then_mono {X Y : Act -> World -> Prop} {Q R : Exit -> Act -> World -> Prop} (h : ∀ a w, X a w -> Y a w) (hq : ∀ e a w, Q e a w -> R e a w) (e : Exit) (a : Act) (w : World) (k : Exit.then X Q e a w) : Exit.then Y R e a w := by
 cases e with
 | normal => exact h a w k
 | _ => exact hq _ a w k
theorem wpk_mono {F : Fence} {J J' : Nat -> Act -> World -> Prop} {Q : Exit -> Act -> World -> Prop} (h : ∀ j a w, J j a w -> J' j a w) : ∀ (k : List Fr) (e : Exit) (a : Act) (w : World), wpk F P J Q k e a w -> wpk F P J' Q k e a w
 | [], _, _, _, hk => hk
 | .seq c m :: k, e, a, w, hk => then_mono (fun a w hc => wpIn_mono hc fun e a w => wpk_mono h k e a w) (wpk_mono h k) e a w hk
 | .block id :: k, e, a, w, hk => by
  have ih := wpk_mono (F := F) (Q := Q) h k
  unfold wpk Exit.inBlock at hk ⊢
  cases e with
  | exit i =>
   simp only at hk ⊢
   split at hk <;> rename_i hi
   ·rw [if_pos hi]; exact ih _ _ _ hk
   ·rw [if_neg hi]; exact ih _ _ _ hk
  | _ => exact ih _ _ _ hk
 | .head j :: k, e, a, w, hk => then_mono (h j) (wpk_mono h k) e a w hk
 | .scope :: k, e, a, w, hk => by
  have ih := wpk_mono (F := F) (Q := Q) h k
  unfold wpk at hk ⊢
  cases e with
  | goto l => exact hk
  | _ => exact ih _ _ _ hk

theorem evH_sound {run : Code -> Tm -> St -> Option (Ex × Tm × St)} {hd : List (Code × List Fr)} {J : Nat -> Act -> World -> Prop} {Q : Exit -> Act -> World -> Prop} (hrun : Goes P G B0 w0 none run) : ∀ (n : Nat) {i : Sum (Code × Nat) Ex} {T : Tm} {s : St} {k : List Fr} {rs : Rs}, evH G run n i T s k = some rs -> FrOk hd k ->
  (∀ c m, i = .inl (c, m) -> SegL hd (headsL c k m) m) ->
  ∀ (w : World) (M : Mp) (a : Act), Sim G B0 w0 w s M -> TmR w s M T a ->
   (∀ ex T' s', rs = .done ex T' s' -> ∀ e a' w' M', ExR w' s' M' ex e -> TmR w' s' M' T' a' -> Sim G B0 w0 w' s' M' -> Ext w s M w' s' M' -> Q e a' w') ->
   (∀ j T' s' b k', rs = .enter j T' s' -> hd[j]? = some (b, k') -> ∀ a' w' M', TmR w' s' M' T' a' -> Sim G B0 w0 w' s' M' -> Ext w s M w' s' M' -> (Code.loop b).wpIn (FW none) 0 P (wpk (FW none) P J Q k') a' w') ->
   (∀ j T' s', rs = .again j T' s' -> ∀ a' w' M', TmR w' s' M' T' a' -> Sim G B0 w0 w' s' M' -> Ext w s M w' s' M' -> J j a' w') ->
   (match i with
    | .inl (c, _) => c.wpIn (FW none) 0 P (wpk (FW none) P J Q k) a w
    | .inr ex => ∀ e, ExR w s M ex e -> wpk (FW none) P J Q k e a w)
 | 0, i, T, s, k, rs, h => by cases h
 | n + 1, .inl (c, m), T, s, k, rs, h => by
  intro hk hseg w M a hs hT hdn hl hag
  have hseg := hseg c m rfl
  unfold evH at h
  have plain : (match run c T s with
    | some (ex, T, s) => evH G run n (.inr ex) T s k
    | none => none) = some rs -> c.wpIn (FW none) 0 P (wpk (FW none) P J Q k) a w := fun h => by
   split at h
   ·rename_i ex T1 s1 hr
    refine hrun c T s ex T1 s1 hr w M a _ hs hT fun e a1 w1 M1 k0 k1 k2 k3 => ?_
    exact evH_sound hrun n h hk (fun _ _ e => by cases e) _ _ _ k2 k1 (fun ex T' s' hrs e a' w' M' j0 j1 j2 j3 => hdn ex T' s' hrs e a' w' M' j0 j1 j2 (k3.trans j3)) (fun j T' s' b k' hrs hj a' w' M' j1 j2 j3 => hl j T' s' b k' hrs hj a' w' M' j1 j2 (k3.trans j3)) (fun j T' s' hrs a' w' M' j1 j2 j3 => hag j T' s' hrs a' w' M' j1 j2 (k3.trans j3)) e k0
   ·cases h
  cases c with
  | seq x y =>
   unfold headsL at hseg
   have hr := hseg.right
   rw [headsL_length] at hr
   exact wpIn_seq (evH_sound hrun n h ⟨hr, hk⟩ (fun c m e => by cases e; exact hseg.left) _ _ _ hs hT hdn hl hag)
  | block id b => exact wpIn_block (evH_sound hrun n h (k := .block id :: k) hk (fun c m e => by cases e; exact hseg) _ _ _ hs hT hdn hl hag)
  | cond c x y =>
   unfold headsL at hseg
   have hr := hseg.right
   rw [headsL_length] at hr
   simp only at h
   split at h
   ·rename_i hc
    exact wpIn_cond_true (cnd_sound hs hT hc) (evH_sound hrun n h hk (fun c m e => by cases e; exact hseg.left) _ _ _ hs hT hdn hl hag)
   ·rename_i hc
    exact wpIn_cond_false (cnd_sound hs hT hc) (evH_sound hrun n h hk (fun c m e => by cases e; exact hr) _ _ _ hs hT hdn hl hag)
   ·cases h
  | loop b =>
   simp only [Option.some.injEq] at h
   unfold headsL at hseg
   exact hl m T s b k h.symm hseg.tail.1 a w M hT hs (Ext.refl _ _ _)
  | scope b =>
   simp only at h
   split at h
   ·exact plain h
   ·have := evH_sound hrun n h (k := .scope :: k) hk (fun c m e => by cases e; exact hseg) _ _ _ hs hT hdn hl hag
    refine wp_scope_rounds 1 ?_
    unfold jumpRounds
    refine wpIn_mono this fun e a' w' hh => ?_
    unfold wpk at hh
    cases e with
    | goto l => exact hh.elim
    | _ => exact hh
  | _ => exact plain h
 | n + 1, .inr ex, T, s, k, rs, h => by
  intro hk hseg w M a hs hT hdn hl hag
  unfold evH at h
  intro e he
  cases k with
  | nil =>
   simp only [Option.some.injEq] at h
   exact hdn ex T s h.symm e a w M he hT hs (Ext.refl _ _ _)
  | cons fr k =>
   cases fr with
   | seq b m =>
    cases ex with
    | normal =>
     obtain rfl : e = .normal := he
     exact evH_sound hrun n h hk.2 (fun c m e => by cases e; exact hk.1) _ _ _ hs hT hdn hl hag
    | exit i =>
     obtain rfl : e = .exit i := he
     exact evH_sound hrun n h hk.2 (fun _ _ e => by cases e) _ _ _ hs hT hdn hl hag (.exit i) rfl
    | goto l =>
     obtain rfl : e = .goto l := he
     exact evH_sound hrun n h hk.2 (fun _ _ e => by cases e) _ _ _ hs hT hdn hl hag (.goto l) rfl
    | ret =>
     obtain rfl : e = .ret := he
     exact evH_sound hrun n h hk.2 (fun _ _ e => by cases e) _ _ _ hs hT hdn hl hag .ret rfl
    | panic y =>
     have he' := he
     obtain ⟨v, rfl, _⟩ := he
     exact evH_sound hrun n h hk.2 (fun _ _ e => by cases e) _ _ _ hs hT hdn hl hag _ he'
   | block id =>
    have hk : FrOk hd k := hk
    cases ex with
    | normal =>
     obtain rfl : e = .normal := he
     exact evH_sound hrun n h hk (fun _ _ e => by cases e) _ _ _ hs hT hdn hl hag .normal rfl
    | exit i =>
     obtain rfl : e = .exit i := he
     simp only at h
     show Exit.inBlock id (wpk (FW none) P J Q k) (.exit i) a w
     unfold Exit.inBlock
     simp only
     split at h
     ·rename_i e1
      rw [if_pos e1]
      exact evH_sound hrun n h hk (fun _ _ e => by cases e) _ _ _ hs hT hdn hl hag .normal rfl
     ·rename_i e1
      rw [if_neg e1]
      exact evH_sound hrun n h hk (fun _ _ e => by cases e) _ _ _ hs hT hdn hl hag (.exit i) rfl
    | goto l =>
     obtain rfl : e = .goto l := he
     exact evH_sound hrun n h hk (fun _ _ e => by cases e) _ _ _ hs hT hdn hl hag (.goto l) rfl
    | ret =>
     obtain rfl : e = .ret := he
     exact evH_sound hrun n h hk (fun _ _ e => by cases e) _ _ _ hs hT hdn hl hag .ret rfl
    | panic y =>
     have he' := he
     obtain ⟨v, rfl, _⟩ := he
     exact evH_sound hrun n h hk (fun _ _ e => by cases e) _ _ _ hs hT hdn hl hag _ he'
   | head j =>
    have hk : FrOk hd k := hk
    cases ex with
    | normal =>
     obtain rfl : e = .normal := he
     simp only [Option.some.injEq] at h
     exact hag j T s h.symm a w M hT hs (Ext.refl _ _ _)
    | exit i =>
     obtain rfl : e = .exit i := he
     exact evH_sound hrun n h hk (fun _ _ e => by cases e) _ _ _ hs hT hdn hl hag (.exit i) rfl
    | goto l =>
     obtain rfl : e = .goto l := he
     exact evH_sound hrun n h hk (fun _ _ e => by cases e) _ _ _ hs hT hdn hl hag (.goto l) rfl
    | ret =>
     obtain rfl : e = .ret := he
     exact evH_sound hrun n h hk (fun _ _ e => by cases e) _ _ _ hs hT hdn hl hag .ret rfl
    | panic y =>
     have he' := he
     obtain ⟨v, rfl, _⟩ := he
     exact evH_sound hrun n h hk (fun _ _ e => by cases e) _ _ _ hs hT hdn hl hag _ he'

   | scope =>
    have hk : FrOk hd k := hk
    cases ex with
    | normal =>
     obtain rfl : e = .normal := he
     exact evH_sound hrun n h hk (fun _ _ e => by cases e) _ _ _ hs hT hdn hl hag .normal rfl
    | exit i =>
     obtain rfl : e = .exit i := he
     exact evH_sound hrun n h hk (fun _ _ e => by cases e) _ _ _ hs hT hdn hl hag (.exit i) rfl
    | goto l => cases h
    | ret =>
     obtain rfl : e = .ret := he
     exact evH_sound hrun n h hk (fun _ _ e => by cases e) _ _ _ hs hT hdn hl hag .ret rfl
    | panic y =>
     have he' := he
     obtain ⟨v, rfl, _⟩ := he
     exact evH_sound hrun n h hk (fun _ _ e => by cases e) _ _ _ hs hT hdn hl hag _ he'

theorem heads_sound {run : Code -> Tm -> St -> Option (Ex × Tm × St)} {Q : Exit -> Act -> World -> Prop} (hrun : Goes P G B0 w0 none run) (c0 : Code) (HI : Nat -> Nat -> Act -> World -> Prop)
  (hround : ∀ j n a w b k, (headsL c0 [] 0)[j]? = some (b, k) -> HI j n a w -> ∃ T s M fuel rs, Sim G B0 w0 w s M /\ TmR w s M T a /\ evH G run fuel (.inl (b, j + 1)) T s (.head j :: k) = some rs /\
   (∀ ex T' s', rs = .done ex T' s' -> ∀ e a' w' M', ExR w' s' M' ex e -> TmR w' s' M' T' a' -> Sim G B0 w0 w' s' M' -> Ext w s M w' s' M' -> Q e a' w') /\
   (∀ i T' s', rs = .enter i T' s' \/ rs = .again i T' s' -> ∀ a' w' M', TmR w' s' M' T' a' -> Sim G B0 w0 w' s' M' -> Ext w s M w' s' M' -> ∃ m, m < n /\ HI i m a' w')) :
  ∀ (n N : Nat), n <= N -> ∀ j b k a w, (headsL c0 [] 0)[j]? = some (b, k) -> HI j n a w -> (Code.loop b).wpIn (FW none) 0 P (wpk (FW none) P (fun i a w => ∃ m, m < N /\ HI i m a w) Q k) a w := by
 have hseg0 : SegL (headsL c0 [] 0) (headsL c0 [] 0) 0 := fun i x h => by rw [Nat.zero_add]; exact h
 intro n
 induction n using Nat.strongRecOn with
 | _ n ih =>
  intro N hN j b k a w hj hi
  refine loop_rule (fun n' a w => n' <= n /\ HI j n' a w) (fun n' a w ⟨hn', hi⟩ => ?_) (n := n) ⟨Nat.le_refl _, hi⟩
  obtain ⟨T, s, M, fuel, rs, hs, hT, hev, h1, h2⟩ := hround j n' a w b k hj hi
  have hinv := heads_inv c0 [] 0 hseg0 trivial j b k hj
  rw [Nat.zero_add] at hinv
  have := evH_sound (hd := headsL c0 [] 0) (J := fun i a w => ∃ m, m < n' /\ HI i m a w) (Q := Q) hrun fuel hev (by exact hinv.2) (fun c m e => by cases e; exact hinv.1) w M a hs hT h1
   (fun i T' s' b' k' hrs hi' a' w' M' j1 j2 j3 => by
    obtain ⟨m, hm, hi2⟩ := h2 i T' s' (.inl hrs) a' w' M' j1 j2 j3
    exact ih m (by omega) n' (by omega) i b' k' a' w' hi' hi2)
   (fun i T' s' hrs a' w' M' j1 j2 j3 => h2 i T' s' (.inr hrs) a' w' M' j1 j2 j3)
  refine wpIn_mono this fun e a1 w1 hq => ?_
  refine then_mono (fun a2 w2 ⟨m, hm, hh⟩ => ⟨m, hm, by omega, hh⟩) (wpk_mono (fun i a2 w2 hJ => hJ.imp fun m hm => ⟨by omega, hm.2⟩) k) e a1 w1 hq
end
end Go.Ab
/- A function, proved by the trees of its ways: from its entry, and from each loop's head, to the next head or to its end. -/
namespace Go.Ab
open Go Go.RowKit

inductive Out where
 | ret (e : E)
 | go (j : Nat) (es : List E)
inductive OutD where
 | ret (d : D)
 | go (j : Nat) (ds : List D)
inductive Tree where
 | leaf (o : Out)
 | ite (c : E) (t f : Tree)
 | giv (c : E) (t : Tree)
 | dead
def outEq : Out -> Out -> Bool
 | .ret a, .ret b => eEq a b
 | .go i a, .go j b => Nat.beq i j && eEqL a b
 | _, _ => false
theorem outEq_eq {a b : Out} (h : outEq a b = true) : a = b := by
 unfold outEq at h
 split at h
 ·rw [eEq_eq h]
 ·rw [Bool.and_eq_true] at h; rw [nbe h.1, eEqL_eq h.2]
 ·cases h
def Tree.ok (run : List E -> Option Out) : List E -> Tree -> Bool
 | fx, .leaf o => match run fx with | some o' => outEq o o' | none => false
 | fx, .ite c t f => t.ok run (c :: fx) && f.ok run (.pr .not [c] :: fx)
 | fx, .giv c t => t.ok run (c :: fx)
 | _, .dead => true
section
variable [Interp]
def Out.den (env : Nat -> D) : Out -> OutD
 | .ret e => .ret (e.den env)
 | .go j es => .go j (E.denL env es)
def Tree.holds (good : OutD -> Prop) (env : Nat -> D) : Tree -> Prop
 | .leaf o => good (o.den env)
 | .ite c t f => c.den env = .ofBool (c.den env).bool /\ ((c.den env).bool = true -> t.holds good env) /\ ((c.den env).bool = false -> f.holds good env)
 | .giv c t => c.den env = .v (.bool true) /\ t.holds good env
 | .dead => False
theorem tree_sound {run : List E -> Option Out} {good : OutD -> Prop} {env : Nat -> D} : ∀ {t : Tree} {fx : List E}, t.ok run fx = true -> (∀ e, e ∈ fx -> e.den env = .v (.bool true)) -> t.holds good env ->
  ∃ fx' o, (∀ e, e ∈ fx' -> e.den env = .v (.bool true)) /\ run fx' = some o /\ good (o.den env)
 | .leaf o, fx, h, hfx, hg => by
  unfold Tree.ok at h
  split at h
  ·rename_i o' ho
   obtain rfl := outEq_eq h
   exact ⟨fx, o, hfx, ho, hg⟩
  ·cases h
 | .ite c t f, fx, h, hfx, hg => by
  unfold Tree.ok at h
  rw [Bool.and_eq_true] at h
  obtain ⟨h1, h2, h3⟩ := hg
  cases hb : (c.den env).bool with
  | true =>
   refine tree_sound h.1 (fun e he => ?_) (h2 hb)
   rcases List.mem_cons.1 he with rfl | he
   ·rw [h1, hb]; rfl
   ·exact hfx e he
  | false =>
   refine tree_sound h.2 (fun e he => ?_) (h3 hb)
   rcases List.mem_cons.1 he with rfl | he
   ·simp only [E.den, E.denL, Prim.den, hb]; rfl
   ·exact hfx e he
 | .giv c t, fx, h, hfx, hg => by
  unfold Tree.ok at h
  refine tree_sound h (fun e he => ?_) hg.2
  rcases List.mem_cons.1 he with rfl | he
  ·exact hg.1
  ·exact hfx e he
 | .dead, fx, h, hfx, hg => hg.elim
end

inductive Ent where
 | any
 | con (a : AV)
 | sh (h : Sh)
 | rf (t : Nat)
 | own (t : Nat)
 | mp (kt ct : Ty)
 | bx (t esz : Nat)
 | ar (t : Nat)
 | ap (t n z : Nat)
structure Hd where
 loop : Nat
 ents : List Ent
def conOk : AV -> Bool
 | .v _ => true
 | .fn (.func _) [] [] => true
 | _ => false
def headA (k : Kn) : Nat -> Nat -> List Ent -> List AV
 | _, _, [] => []
 | i, o, .any :: r => .any :: headA k i o r
 | i, o, .con a :: r => a :: headA k i o r
 | i, o, .sh h :: r => shA k (.var i) h :: headA k (i + 1) o r
 | i, o, .rf t :: r => .rd t (.var i) 0 :: headA k (i + 1) o r
 | i, o, .own t :: r => .d t (.var i) (some o) :: headA k (i + 1) (o + 1) r
 | i, o, .mp _ _ :: r => .mp o :: headA k (i + 1) (o + 1) r
 | i, o, .bx _ _ :: r => .box o 0 :: headA k (i + 1) (o + 1) r
 | i, o, .ar t :: r => .so o (eInt 0) (lenE (.var i)) true (k.shape t).length :: headA k (i + 1) (o + 1) r
 | i, o, .ap _ _ _ :: r => .box o 0 :: headA k (i + 1) (o + 1) r
def headO (k : Kn) : Nat -> List Ent -> List AObj
 | _, [] => []
 | i, .any :: r => headO k i r
 | i, .con _ :: r => headO k i r
 | i, .sh _ :: r => headO k (i + 1) r
 | i, .rf _ :: r => headO k (i + 1) r
 | i, .own t :: r => .row (.e (.var i) (k.shape t).length) (k.shape t).length :: headO k (i + 1) r
 | i, .mp kt ct :: r => .sym (.map kt ct (.var i)) :: headO k (i + 1) r
 | i, .bx t z :: r => .box (cellsA (.var i) 0 (k.shape t)) z :: headO k (i + 1) r
 | i, .ar t :: r => .ar t (.var i) (codeOf t (k.shape t).length) :: headO k (i + 1) r
 | i, .ap t _ z :: r => .ar t (.var i) z :: headO k (i + 1) r
def newL (s : St) : List AObj -> St
 | [] => s
 | o :: r => newL (s.new o) r
def headS (k : Kn) (ents : List Ent) : St := newL (st0 k) (headO k 0 ents)
def keptL : List Ent -> List AV -> List Nat
 | .own _ :: r, .d _ _ (some tk) :: t => tk :: keptL r t
 | .own _ :: r, .sl _ _ (some tk) :: t => tk :: keptL r t
 | .mp _ _ :: r, .mp m :: t => m :: keptL r t
 | .bx _ _ :: r, .box b _ :: t => b :: keptL r t
 | .ar _ :: r, .so b _ _ _ _ :: t => b :: keptL r t
 | .ar _ :: r, .mg b _ :: t => b :: keptL r t
 | .ap _ _ _ :: r, .box b _ :: t => b :: keptL r t
 | _ :: r, _ :: t => keptL r t
 | _, _ => []
def nodupN : List Nat -> Bool
 | [] => true
 | a :: r => !memN a r && nodupN r
def bxE (s : St) (free : Nat -> Bool) (h z b off : Nat) : Option E :=
 match s.get b with
 | some (.box cs z') =>
  if Nat.beq off 0 && Nat.beq z' z && Nat.beq (s.k.shape h).length cs.length then
   match frzAll s free cs with
   | some ys => (cellsX s.k fuelX (s.k.shape h) ys).map (.pr .row)
   | none => none
  else none
 | _ => none
def repE (l : List E) : E :=
 match l with
 | [] => .pr .lst []
 | r :: rest => if Nat.ble 8 rest.length && rest.all (eEq r) then .pr .rep [eInt (.ofNat (rest.length + 1)), r] else .pr .lst (r :: rest)
def arrX (s : St) (t z b : Nat) : Option E :=
 match s.get b with
 | some (.ar t' e z') => if Nat.beq t t' && Nat.beq z z' then some e else none
 | some (.box cs z') => if Nat.beq z z' && Nat.beq cs.length (cs.length / (s.k.shape t).length * (s.k.shape t).length) then (rowsX s.k 100000 t (cs.length / (s.k.shape t).length) cs).map repE else none
 | _ => none
def arV (s : St) (t : Nat) (a : AV) : Option (E × Nat) :=
 match a with
 | .so b off en true wd =>
  match arrX s t (codeOf t (s.k.shape t).length) b with
  | some e => if isLit0 off && enOk s.k en e && Nat.beq wd (s.k.shape t).length then some (e, b) else none
  | none => none
 | .mg b len =>
  match arrX s t (codeOf t (s.k.shape t).length) b with
  | some e => if eEq (eInt len) (lenN e) then some (e, b) else none
  | none => none
 | _ => none
def apV (s : St) (t n z : Nat) (b off : Nat) : Option E :=
 match arrX s t z b with
 | some e => if Nat.beq off 0 && (eEq (lenN e) (eInt n) || hasE (.pr (.icmp .eql) [lenN e, eInt n]) s.k.fx) then some e else none
 | none => none
def arrE (s : St) (free : Nat -> Bool) : List Ent -> List AV -> Option (List E)
 | [], [] => some []
 | .any :: r, _ :: t => arrE s free r t
 | .con c :: r, a :: t => if conOk c && aEq c a then arrE s free r t else none
 | .sh h :: r, a :: t =>
  match frzG s free 1000 a with
  | some y =>
   match shE s.k h y, arrE s free r t with
   | some e, some es => some (e :: es)
   | _, _ => none
  | none => none
 | .rf h :: r, a :: t =>
  match frzG s free 1000 a with
  | some y =>
   match refX s.k h y, arrE s free r t with
   | some e, some es => some (e :: es)
   | _, _ => none
  | none => none
 | .own h :: r, a :: t =>
  match ownE s h (s.k.shape h).length a, arrE s free r t with
  | some (e, _), some es => some (e :: es)
  | _, _ => none
 | .mp kt ct :: r, .mp m :: t =>
  match mapE kt ct (s.get m), arrE s free r t with
  | some e, some es => some (e :: es)
  | _, _ => none
 | .bx h z :: r, .box b off :: t =>
  match bxE s free h z b off, arrE s free r t with
  | some e, some es => some (e :: es)
  | _, _ => none
 | .ar h :: r, a :: t =>
  match arV s h a, arrE s free r t with
  | some (e, _), some es => some (e :: es)
  | _, _ => none
 | .ap h n z :: r, .box b off :: t =>
  match apV s h n z b off, arrE s free r t with
  | some e, some es => some (e :: es)
  | _, _ => none
 | _, _ => none
def arrH (h : Hd) (T : Tm) (s : St) : Option (List E) :=
 if T.ds.isEmpty && T.dl.isEmpty && Nat.beq T.n h.ents.length && nodupN (keptL h.ents ((List.range T.n).map (gt T))) then
  arrE s (fun b => !memN b (keptL h.ents ((List.range T.n).map (gt T)))) h.ents ((List.range T.n).map (gt T))
 else none
def arriveF (j : Nat) (T : Tm) (s : St) : List Hd -> Nat -> Option Out
 | [], _ => none
 | h :: r, i =>
  match (if Nat.beq h.loop j then arrH h T s else none) with
  | some es => some (.go i es)
  | none => arriveF j T s r (i + 1)
def arrive (heads : List Hd) (j : Nat) (T : Tm) (s : St) : Option Out := arriveF j T s heads 0
def outRet (P : Program) (G : Nat -> Option (List AV)) (run : Code -> Tm -> St -> Option (Ex × Tm × St)) (q : Sig) (fn : Func) (ex : Ex) (T : Tm) (s : St) : Option E :=
 match ex with
 | .normal | .ret =>
  match killAll s T.ds with
  | some s =>
   match finA P G run fn T none s with
   | some (r, s') =>
    match frz s' 0 1000 r with
    | some y => resE s'.k q.res y
    | none => none
   | none => none
  | none => none
 | _ => none
def outOf (P : Program) (G : Nat -> Option (List AV)) (run : Code -> Tm -> St -> Option (Ex × Tm × St)) (q : Sig) (fn : Func) (heads : List Hd) : Option Rs -> Option Out
 | some (.done ex T s) => (outRet P G run q fn ex T s).map .ret
 | some (.enter j T s) => arrive heads j T s
 | some (.again j T s) => arrive heads j T s
 | none => none
def runEntry (P : Program) (G : Nat -> Option (List AV)) (mu : Nat -> Bool) (run : Code -> Tm -> St -> Option (Ex × Tm × St)) (tb : List (Nat × List CT)) (q : Sig) (fn : Func) (c : Code) (heads : List Hd) (fuel : Nat) (fx : List E) : Option Out :=
 outOf P G run q fn heads (evH G run fuel (.inl (c, 0)) { initT (argsA (kn fx tb) 0 q.args) fn.ntmps with mu := (mu q.f, false) } (st0 (kn fx tb)) [])
def runHead (P : Program) (G : Nat -> Option (List AV)) (mu : Nat -> Bool) (run : Code -> Tm -> St -> Option (Ex × Tm × St)) (tb : List (Nat × List CT)) (q : Sig) (fn : Func) (c : Code) (heads : List Hd) (fuel : Nat) (j : Nat) (fx : List E) : Option Out :=
 match heads[j]? with
 | some h =>
  match (headsL c [] 0)[h.loop]? with
  | some (b, k) => outOf P G run q fn heads (evH G run fuel (.inl (b, h.loop + 1)) { initT (headA (kn fx tb) 0 0 h.ents) 0 with mu := (mu q.f, false) } (headS (kn fx tb) h.ents) (.head h.loop :: k))
  | none => none
 | none => none

section
variable [Interp] {P : Program} {G : Nat -> Option (List AV)} {B0 : Nat} {w0 w : World} {s : St} {M : Mp}
variable (tb : List (Nat × List CT))
def FitW (t : Nat) (d : D) : Prop := ∃ cs, d = .row cs /\ fitsC (kn [] tb).shape cs ((kn [] tb).shape t)
def FitWs : List D -> List Nat -> Prop
 | [], [] => True
 | d :: ds, t :: ts => FitW tb t d /\ FitWs ds ts
 | _, _ => False
def FitS : Sh -> D -> Prop
 | .cell c, d => fits (kn [] tb).shape d c
 | .row t, d => FitW tb t d
 | .fn _ ts, d => ∃ ds, d = .row ds /\ FitWs tb ds ts
 | .lit x, d => d = .v (.string x)
def FitL : List Sh -> List D -> Prop
 | [], [] => True
 | h :: hs, d :: ds => FitS tb h d /\ FitL hs ds
 | _, _ => False
def FitM (kt ct : Ty) (d : D) : Prop := ∃ rows, d = .lst rows /\ ∀ r, r ∈ rows -> ∃ k v, r = .row [.v k, .v v] /\ tyV kt k = true /\ tyV ct v = true
def FitE : List Ent -> List D -> Prop
 | [], ds => ds = []
 | .any :: r, ds => FitE r ds
 | .con _ :: r, ds => FitE r ds
 | .sh h :: r, d :: ds => FitS tb h d /\ FitE r ds
 | .rf t :: r, d :: ds => FitW tb t d /\ FitE r ds
 | .own t :: r, d :: ds => fits (kn [] tb).shape d (.sl t) /\ FitE r ds
 | .mp kt ct :: r, d :: ds => FitM kt ct d /\ FitE r ds
 | .bx t _ :: r, d :: ds => FitW tb t d /\ FitE r ds
 | .ar t :: r, d :: ds => fits (kn [] tb).shape d (.sl t) /\ FitE r ds
 | .ap t n _ :: r, d :: ds => (fits (kn [] tb).shape d (.sl t) /\ d.rows.length = n) /\ FitE r ds
 | _, _ => False
variable {tb}
theorem CellsR.fitsC {tb : Nat -> List CT} {C : Nat -> Nat -> Option Value} {I : Nat -> Nat -> Prop} : ∀ {vs : List Value} {ds : List D} {cs : List CT}, CellsR tb C I vs ds cs -> fitsC tb ds cs
 | [], [], [], _ => by unfold Go.Ab.fitsC; trivial
 | v :: vs, d :: ds, c :: cs, k => by
  unfold CellsR at k; unfold Go.Ab.fitsC
  exact ⟨k.1.2, CellsR.fitsC k.2⟩
 | [], _ :: _, _, k => by unfold CellsR at k; exact k.elim
 | _ :: _, [], _, k => by unfold CellsR at k; exact k.elim
 | [], [], _ :: _, k => by unfold CellsR at k; exact k.elim
 | _ :: _, _ :: _, [], k => by unfold CellsR at k; exact k.elim
theorem RefsR.fit {C : Nat -> Nat -> Option Value} {I : Nat -> Nat -> Prop} : ∀ {vs : List Value} {ds : List D} {ts : List Nat}, RefsR (kn [] tb).shape C I vs ds ts -> FitWs tb ds ts
 | [], [], [], _ => trivial
 | v :: vs, d :: ds, c :: cs, k => by
  unfold RefsR at k
  obtain ⟨⟨b, off, us, e1, e2, k1, k2⟩, k3⟩ := k
  exact ⟨⟨us, e2, k2⟩, RefsR.fit k3⟩
 | [], _ :: _, _, k => by unfold RefsR at k; exact k.elim
 | _ :: _, [], _, k => by unfold RefsR at k; exact k.elim
 | [], [], _ :: _, k => by unfold RefsR at k; exact k.elim
 | _ :: _, _ :: _, [], k => by unfold RefsR at k; exact k.elim
theorem ArgR.fit {C : Nat -> Nat -> Option Value} {I : Nat -> Nat -> Prop} {h : Sh} {v : Value} {d : D} (k : ArgR (kn [] tb).shape C I h v d) : FitS tb h d := by
 cases h with
 | cell c => exact k.2
 | row t => obtain ⟨vs, cs, _, e, k⟩ := k; exact ⟨cs, e, k.fitsC⟩
 | fn f ts => obtain ⟨vs, cs, _, e, k⟩ := k; exact ⟨cs, e, k.fit⟩
 | lit x => exact k.2
theorem ArgsR.fit {C : Nat -> Nat -> Option Value} {I : Nat -> Nat -> Prop} : ∀ {hs : List Sh} {vs : List Value} {ds : List D}, ArgsR (kn [] tb).shape C I hs vs ds -> FitL tb hs ds
 | [], [], [], _ => trivial
 | h :: hs, v :: vs, d :: ds, k => by unfold ArgsR at k; exact ⟨k.1.fit, ArgsR.fit k.2⟩
 | [], _ :: _, _, k => by unfold ArgsR at k; exact k.elim
 | [], [], _ :: _, k => by unfold ArgsR at k; exact k.elim
 | _ :: _, [], vs, k => by unfold ArgsR at k; exact k.elim
 | _ :: _, _ :: _, [], k => by unfold ArgsR at k; exact k.elim
theorem MDr.fit {kt ct : Ty} : ∀ {rows : List D} {es : List MapEntry}, MDr kt ct rows es -> ∀ r, r ∈ rows -> ∃ k v, r = .row [.v k, .v v] /\ tyV kt k = true /\ tyV ct v = true
 | [], _, _, r, hr => by cases hr
 | _ :: _, _, ⟨e, t, rfl, rfl, h1, h2, h3⟩, r, hr => by
  rcases List.mem_cons.1 hr with rfl | hr
  ·exact ⟨_, _, rfl, h1, h2⟩
  ·exact MDr.fit h3 r hr

theorem shape_kn {k : Kn} {fx : List E} (h : k.tb = tb) : k.shape = (kn fx tb).shape := by funext t; unfold Kn.shape kn; rw [h]
theorem con_VR {a : AV} {v : Value} {w' : World} {s' : St} {M' : Mp} (h : conOk a = true) (hv : VR w s M a v) : VR w' s' M' a v := by
 unfold conOk at h
 split at h
 ·unfold VR at hv ⊢; exact hv
 ·unfold VR at hv ⊢
  obtain ⟨f', a', b', e, k0, k1, k2⟩ := hv
  unfold VRl at k1 k2 ⊢
  exact ⟨f', a', b', e, k0, k1, k2⟩
 ·cases h
theorem frz0 (hs : Sim G B0 w0 w s M) {a y : AV} {v : Value} {n : Nat} (hy : frz s 0 n a = some y) (hv : VR w s M a v) : VR w (st0 s.k) M y v :=
 frz_VR (s := st0 s.k) (s' := s) (Nat.zero_le _) (fun i hi => absurd hi (Nat.not_lt_zero _)) (Eq.refl _) hs n hy hv

theorem newL_get : ∀ {l : List AObj} {s : St}, s.n + l.length <= Tr.lid -> (newL s l).n = s.n + l.length /\ (newL s l).k = s.k /\ ∀ i, i < s.n + l.length -> (newL s l).get i = if i < s.n then s.get i else l[i - s.n]?
 | [], s, _ => ⟨rfl, rfl, fun i hi => by rw [if_pos (by simpa using hi)]; rfl⟩
 | o :: r, s, h => by
  have hn : (s.new o).n = s.n + 1 := rfl
  have hb : s.n < Tr.lid := by simp only [List.length_cons] at h; omega
  obtain ⟨k1, k2, k3⟩ := newL_get (l := r) (s := s.new o) (by rw [hn]; simp only [List.length_cons] at h; omega)
  refine ⟨by show (newL (s.new o) r).n = _; rw [k1, hn, List.length_cons]; omega, k2, fun i hi => ?_⟩
  show (newL (s.new o) r).get i = _
  rw [k3 i (by rw [hn]; simp only [List.length_cons] at hi; omega), hn, St.get_new _ _ _ hb]
  by_cases h1 : i < s.n
  ·rw [if_pos (by omega), if_pos h1, if_neg (by omega)]
  ·rw [if_neg h1]
   by_cases h2 : i = s.n
   ·rw [if_pos (by omega), if_pos h2, h2, Nat.sub_self]; rfl
   ·rw [if_neg (by omega)]
    obtain ⟨m, hm⟩ : ∃ m, i - s.n = m + 1 := ⟨i - s.n - 1, by omega⟩
    rw [hm, List.getElem?_cons_succ, show i - (s.n + 1) = m by omega]
theorem own_kept {t size tk : Nat} {a : AV} {e : E} (h : ownE s t size a = some (e, tk)) (q : Nat) (r : List Ent) (as : List AV) : keptL (.own q :: r) (a :: as) = tk :: keptL r as := by
 unfold ownE at h
 split at h
 ·split at h
  ·split at h
   ·split at h
    ·simp only [Option.some.injEq, Prod.mk.injEq] at h
     obtain ⟨_, rfl⟩ := h
     rfl
    ·cases h
   ·cases h
  ·cases h
 ·split at h
  ·split at h
   ·obtain ⟨l, _, e1⟩ := Option.map_eq_some_iff.1 h
    simp only [Prod.mk.injEq] at e1
    obtain ⟨_, rfl⟩ := e1
    rfl
   ·cases h
  ·cases h
 ·cases h
theorem denL_rep {env : Nat -> D} {r : E} : ∀ {l : List E}, l.all (eEq r) = true -> E.denL env l = List.replicate l.length (r.den env)
 | [], _ => rfl
 | x :: l, h => by
  rw [List.all_cons, Bool.and_eq_true] at h
  unfold E.denL
  rw [denL_rep h.2, <- eEq_eq h.1]; rfl
theorem repE_den {env : Nat -> D} (l : List E) : (repE l).den env = .lst (E.denL env l) := by
 unfold repE
 split
 ·rfl
 ·rename_i r rest
  split
  ·rename_i h
   rw [Bool.and_eq_true] at h
   have := denL_rep (env := env) h.2
   simp only [E.den, E.denL, Prim.den, eInt, D.int, this]
   rfl
  ·rfl
theorem arrX_sound (hs : Sim G B0 w0 w s M) {t z b : Nat} {e : E} (h : arrX s t z b = some e) (hlt : b < s.n) : ∃ ob, s.get b = some ob /\ ob.live /\ (∀ tip e, ob ≠ .row tip e) /\ ObjR w s M (M.blk b) (M.cap b) (.ar t e z) := by
 unfold arrX at h
 split at h
 ·rename_i t' e' z' hg
  split at h
  ·rename_i hc
   cases h
   rw [Bool.and_eq_true] at hc
   obtain rfl := nbe hc.1
   obtain rfl := nbe hc.2
   exact ⟨_, hg, trivial, fun _ _ => by simp, hs.obj b _ hlt hg⟩
  ·cases h
 ·rename_i cs z' hg
  split at h
  ·rename_i hc
   rw [Bool.and_eq_true] at hc
   obtain rfl := nbe hc.1
   have hc2 := nbe hc.2
   obtain ⟨l, hl, rfl⟩ := Option.map_eq_some_iff.1 h
   refine ⟨_, hg, trivial, fun _ _ => by simp, ?_⟩
   obtain ⟨c, ty, fr, a1, a2, a3, a4, a5⟩ := hs.obj b _ hlt hg
   obtain ⟨j1, j2, j3⟩ := rowsX_VRl _ hl hc2 a2
   have hfl : (flat (E.denL M.env l)).length = cs.length := by rw [<- j1.length]; exact a2.length.symm
   exact ⟨c, ty, fr, E.denL M.env l, a1, repE_den l, j2, by rw [hfl]; exact j1, a4, by rw [hfl]; exact a5⟩
  ·cases h
 ·cases h
theorem ar_kept {t b : Nat} {a : AV} {e : E} (h : arV s t a = some (e, b)) (q : Nat) (r : List Ent) (as : List AV) : keptL (.ar q :: r) (a :: as) = b :: keptL r as := by
 unfold arV at h
 split at h
 ·split at h
  ·split at h
   ·simp only [Option.some.injEq, Prod.mk.injEq] at h
    obtain ⟨_, rfl⟩ := h
    rfl
   ·cases h
  ·cases h
 ·split at h
  ·split at h
   ·simp only [Option.some.injEq, Prod.mk.injEq] at h
    obtain ⟨_, rfl⟩ := h
    rfl
   ·cases h
  ·cases h
 ·cases h
theorem arV_sound (hs : Sim G B0 w0 w s M) {t b : Nat} {a : AV} {e : E} {v : Value} (h : arV s t a = some (e, b)) (hv : VR w s M a v) : b < s.n /\ (∃ ob, s.get b = some ob /\ ob.live /\ (∀ tip e, ob ≠ .row tip e)) /\ ObjR w s M (M.blk b) (M.cap b) (.ar t e (codeOf t (s.k.shape t).length)) /\
  v = .slice (some ⟨M.blk b, 0, none⟩) (e.den M.env).rows.length (M.cap b) /\ (e.den M.env).rows.length <= M.cap b := by
 unfold arV at h
 split at h
 ·rename_i b' off en wd
  split at h
  ·rename_i e' hx
   split at h
   ·rename_i hc
    simp only [Option.some.injEq, Prod.mk.injEq] at h
    obtain ⟨rfl, rfl⟩ := h
    simp only [Bool.and_eq_true] at hc
    obtain ⟨⟨c1, c2⟩, c3⟩ := hc
    unfold VR at hv
    obtain ⟨hb, n, n', m, cap, p1, p2, rfl, hle, hn', hwh⟩ := hv
    obtain ⟨rfl, rfl, rfl⟩ := hwh rfl
    obtain ⟨ob, q1, q2, q3, q4⟩ := arrX_sound hs hx hb
    rw [Nat.zero_add] at p2
    have hm := enOk_sound hs c2 p2
    subst hm
    exact ⟨hb, ⟨ob, q1, q2, q3⟩, q4, by rw [Nat.zero_mul], hle⟩
   ·cases h
  ·cases h
 ·rename_i b' len
  split at h
  ·rename_i e' hx
   split at h
   ·rename_i hc
    simp only [Option.some.injEq, Prod.mk.injEq] at h
    obtain ⟨rfl, rfl⟩ := h
    unfold VR at hv
    obtain ⟨hb, hle, rfl⟩ := hv
    obtain ⟨ob, q1, q2, q3, q4⟩ := arrX_sound hs hx hb
    have p2 := lenN_den (env := M.env) e'
    rw [<- eEq_eq hc] at p2
    simp only [eInt, E.den] at p2
    injection p2 with p2
    injection p2 with _ p2
    have hm : len = (e'.den M.env).rows.length := by omega
    subst hm
    exact ⟨hb, ⟨ob, q1, q2, q3⟩, q4, rfl, hle⟩
   ·cases h
  ·cases h
 ·cases h
theorem apV_sound (hs : Sim G B0 w0 w s M) {t n z b off : Nat} {e : E} (h : apV s t n z b off = some e) (hlt : b < s.n) : off = 0 /\ (∃ ob, s.get b = some ob /\ ob.live /\ (∀ tip e, ob ≠ .row tip e)) /\ ObjR w s M (M.blk b) (M.cap b) (.ar t e z) /\ (e.den M.env).rows.length = n := by
 unfold apV at h
 split at h
 ·rename_i e' hx
  split at h
  ·rename_i hc
   cases h
   rw [Bool.and_eq_true, Bool.or_eq_true] at hc
   obtain ⟨ob, q1, q2, q3, q4⟩ := arrX_sound hs hx hlt
   have p2 := lenN_den (env := M.env) e
   refine ⟨nbe hc.1, ⟨ob, q1, q2, q3⟩, q4, ?_⟩
   rcases hc.2 with h1 | h1
   ·rw [eEq_eq h1] at p2
    simp only [eInt, E.den] at p2
    injection p2 with p2
    injection p2 with _ p2
    omega
   ·have h2 := fact_of hs h1
    simp only [E.den, E.denL, p2, eInt, Prim.den] at h2
    have h3 := ofBool_true h2
    have h4 : (((e.den M.env).rows.length : Nat) : Int) = (n : Int) := by simpa [cmpI, D.int] using h3
    omega
  ·cases h
 ·cases h
def below0 (env : Nat -> D) : AObj -> Nat -> Prop
 | .row tip _, off => off < tip.val env
 | .dead, _ => True
 | _, _ => False
theorem imm0_iff {s : St} {M : Mp} {b off : Nat} : Imm0 s M b off ↔ ∀ i o, i < s.n -> s.get i = some o -> M.blk i = b -> below0 M.env o off := by
 unfold Imm0
 constructor
 ·intro h i o h1 h2 h3
  have := h i o h1 h2 h3
  cases o <;> exact this
 ·intro h i o h1 h2 h3
  have := h i o h1 h2 h3
  cases o <;> exact this
theorem drop_one {α : Type} {l m : List α} {x : α} {i : Nat} (h : x :: l = m.drop i) : m[i]? = some x /\ l = m.drop (i + 1) := by
 have h1 := congrArg (·[0]?) h
 simp only [List.getElem?_cons_zero, List.getElem?_drop, Nat.add_zero] at h1
 have h2 := congrArg (List.drop 1) h
 rw [List.drop_drop] at h2
 exact ⟨h1.symm, by simpa using h2⟩
theorem env_var {ds0 : List D} {i : Nat} {d : D} (h : ds0[i]? = some d) : (E.var i).den (envOf ds0) = d := by
 simp only [E.den, envOf]
 rw [List.getD_eq_getElem?_getD, h]; rfl
theorem bxE_sound {free : Nat -> Bool} {sK : St} (hs : Sim G B0 w0 w s M) (hkK : s.k = sK.k) (himmK : ∀ b off, Imm s M b off -> Imm sK M b off) (hown : ∀ b o, b < s.n -> s.get b = some o -> o.live -> free b = true -> ∀ off, Imm sK M (M.blk b) off)
  {h z b off : Nat} {e : E} (he : bxE s free h z b off = some e) (hlt : b < s.n) : off = 0 /\ ∃ cs c ty fr ds, s.get b = some (.box cs z) /\ w.heap[M.blk b]? = some (.cells c ty fr) /\ Free fr c.size /\ BoxK z (s.k.shape h).length c.size (M.cap b) ty /\ e.den M.env = .row ds /\ CellsR s.k.shape (fun b off => w.cell? ⟨b, off, none⟩) (Imm sK M) (c.toList.take (s.k.shape h).length) ds (s.k.shape h) := by
 unfold bxE at he
 split at he
 ·rename_i cs z' hg
  split at he
  ·rename_i hc
   simp only [Bool.and_eq_true] at hc
   obtain ⟨⟨h1, h2⟩, h3⟩ := hc
   obtain rfl := nbe h2
   have h3 := nbe h3
   split at he
   ·rename_i ys hys
    obtain ⟨l, hl, rfl⟩ := Option.map_eq_some_iff.1 he
    obtain ⟨c, ty, fr, k1, k2, k3, k4, k5⟩ := hs.obj b _ hlt hg
    have hv2 : VRl w sK M ys (c.toList.take cs.length) := frzAll_VRl himmK hown hkK hs hys k2
    refine ⟨nbe h1, cs, c, ty, fr, E.denL M.env l, hg, k1, k4, by rw [h3]; exact k5, rfl, ?_⟩
    have hlen : (sK.k.shape h).length = ys.length := by rw [hv2.length, <- k2.length, <- hkK, h3]
    rw [hkK] at hl
    have := cellsX_VRl (s := sK) _ hlen hl hv2
    rw [<- h3] at this
    rw [hkK] at this ⊢
    exact this
   ·cases he
  ·cases he
 ·cases he
theorem arr_objs (hs : Sim G B0 w0 w s M) {k2 : Kn} (hk2 : k2.shape = s.k.shape) {K : List Nat} {ds0 : List D} {free : Nat -> Bool} {sK : St} (hkK : s.k = sK.k) (himmK : ∀ b off, Imm s M b off -> Imm sK M b off) (hown : ∀ b o, b < s.n -> s.get b = some o -> o.live -> free b = true -> ∀ off, Imm sK M (M.blk b) off) : ∀ {ents : List Ent} {as : List AV} {vs : List Value} {es : List E} {i o : Nat}, arrE s free ents as = some es -> VRl w s M as vs -> E.denL M.env es = ds0.drop i -> keptL ents as = K.drop o ->
  ∀ (j : Nat) (ob2 : AObj), (headO k2 i ents)[j]? = some ob2 -> ∃ tk ob, K[o + j]? = some tk /\ tk < s.n /\ s.get tk = some ob /\ ob.live /\ ob2.live /\ (∀ off, below0 M.env ob off -> below0 (envOf ds0) ob2 off) /\
   ∀ (s2 : St) (M2 : Mp), M2.env = envOf ds0 -> s2.k.shape = s.k.shape -> (∀ b off, Imm sK M b off -> Imm s2 M2 b off) -> ObjR w s2 M2 (M.blk tk) (M.cap tk) ob2
 | [], [], vs, es, i, o, h, hv, hd, hK, j, ob2, hj => by simp [headO] at hj
 | .any :: r, a :: t, vs, es, i, o, h, hv, hd, hK, j, ob2, hj => by
  unfold arrE at h
  unfold VRl at hv
  obtain ⟨v, vs, rfl, _, hv2⟩ := hv
  have hK' : keptL r t = K.drop o := by rw [<- hK]; cases a <;> rfl
  exact arr_objs hs hk2 hkK himmK hown h hv2 hd hK' j ob2 hj
 | .con c :: r, a :: t, vs, es, i, o, h, hv, hd, hK, j, ob2, hj => by
  unfold arrE at h
  split at h
  ·unfold VRl at hv
   obtain ⟨v, vs, rfl, _, hv2⟩ := hv
   have hK' : keptL r t = K.drop o := by rw [<- hK]; cases a <;> rfl
   exact arr_objs hs hk2 hkK himmK hown h hv2 hd hK' j ob2 hj
  ·cases h
 | .sh hh :: r, a :: t, vs, es, i, o, h, hv, hd, hK, j, ob2, hj => by
  unfold arrE at h
  split at h
  ·split at h
   ·rename_i e es' _ hes
    cases h
    unfold VRl at hv
    obtain ⟨v, vs, rfl, _, hv2⟩ := hv
    unfold E.denL at hd
    have hK' : keptL r t = K.drop o := by rw [<- hK]; cases a <;> rfl
    exact arr_objs hs hk2 hkK himmK hown hes hv2 (drop_one hd).2 hK' j ob2 hj
   ·cases h
  ·cases h
 | .rf hh :: r, a :: t, vs, es, i, o, h, hv, hd, hK, j, ob2, hj => by
  unfold arrE at h
  split at h
  ·split at h
   ·rename_i e es' _ hes
    cases h
    unfold VRl at hv
    obtain ⟨v, vs, rfl, _, hv2⟩ := hv
    unfold E.denL at hd
    have hK' : keptL r t = K.drop o := by rw [<- hK]; cases a <;> rfl
    exact arr_objs hs hk2 hkK himmK hown hes hv2 (drop_one hd).2 hK' j ob2 hj
   ·cases h
  ·cases h
 | .own hh :: r, a :: t, vs, es, i, o, h, hv, hd, hK, j, ob2, hj => by
  unfold arrE at h
  split at h
  ·rename_i e tk es' he hes
   cases h
   unfold VRl at hv
   obtain ⟨v, vs, rfl, hv1, hv2⟩ := hv
   unfold E.denL at hd
   obtain ⟨hd1, hd2⟩ := drop_one hd
   rw [own_kept he] at hK
   obtain ⟨hK1, hK2⟩ := drop_one hK
   obtain ⟨rows, ovs, tip, d1, f1, hlt, hg, htip, ev, g1, g2⟩ := ownE_sound hs rfl he hv1
   cases j with
   | zero =>
    simp only [headO, List.getElem?_cons_zero, Option.some.injEq] at hj
    subst hj
    have hval : (Tip.e (.var i) (k2.shape hh).length).val (envOf ds0) = tip.val M.env := by
     show ((E.var i).den (envOf ds0)).rows.length * _ = _
     rw [env_var hd1, d1, htip, hk2]; rfl
    refine ⟨tk, _, hK1, hlt, hg, trivial, trivial, fun off ho => ?_, fun s2 M2 he2 _ _ => ?_⟩
    ·show off < _
     rw [hval]; exact ho
    ·obtain ⟨c, e', fr, a1, a2, a3, a4⟩ := hs.obj tk _ hlt hg
     refine ⟨c, e', fr, a1, by rw [hk2]; exact a2, ?_, a4⟩
     rw [he2, hval]; exact a3
   | succ j =>
    simp only [headO, List.getElem?_cons_succ] at hj
    have := arr_objs hs hk2 hkK himmK hown hes hv2 hd2 hK2 j ob2 hj
    rw [show o + 1 + j = o + (j + 1) by omega] at this
    exact this
  ·cases h
 | .mp kt ct :: r, .mp m :: t, vs, es, i, o, h, hv, hd, hK, j, ob2, hj => by
  unfold arrE at h
  split at h
  ·rename_i e es' he hes
   cases h
   unfold VRl at hv
   obtain ⟨v, vs, rfl, hv1, hv2⟩ := hv
   unfold VR at hv1
   unfold E.denL at hd
   obtain ⟨hd1, hd2⟩ := drop_one hd
   obtain ⟨hK1, hK2⟩ := drop_one (show m :: keptL r t = K.drop o from hK)
   obtain ⟨ents', clock, rows, ob, q1, q2, q3, q4, q5, q6⟩ := mapE_sound hs hv1.1 he
   cases j with
   | zero =>
    simp only [headO, List.getElem?_cons_zero, Option.some.injEq] at hj
    subst hj
    refine ⟨m, ob, hK1, hv1.1, q1, q2, trivial, fun off ho => ?_, fun s2 M2 he2 _ _ => ?_⟩
    ·cases ob with
     | row tip e => exact absurd rfl (q3 tip e)
     | dead => exact q2.elim
     | _ => exact ho
    ·refine ⟨ents', clock, rows, q4, ?_, q6⟩
     rw [he2, env_var hd1, q5]
   | succ j =>
    simp only [headO, List.getElem?_cons_succ] at hj
    have := arr_objs hs hk2 hkK himmK hown hes hv2 hd2 hK2 j ob2 hj
    rw [show o + 1 + j = o + (j + 1) by omega] at this
    exact this
  ·cases h
 | .bx hh z :: r, a :: t, vs, es, i, o, h, hv, hd, hK, j, ob2, hj => by
  cases a <;> (try (unfold arrE at h; cases h; done))
  rename_i b off
  unfold arrE at h
  split at h
  ·rename_i e es' he hes
   cases h
   unfold VRl at hv
   obtain ⟨v, vs, rfl, hv1, hv2⟩ := hv
   unfold VR at hv1
   unfold E.denL at hd
   obtain ⟨hd1, hd2⟩ := drop_one hd
   obtain ⟨hK1, hK2⟩ := drop_one (show b :: keptL r t = K.drop o from hK)
   obtain ⟨_, cs, c, ty, fr, ds, q1, q2, q3, q4, q5, q6⟩ := bxE_sound hs hkK himmK hown he hv1.1
   cases j with
   | zero =>
    simp only [headO, List.getElem?_cons_zero, Option.some.injEq] at hj
    subst hj
    refine ⟨b, _, hK1, hv1.1, q1, trivial, trivial, fun off ho => ho.elim, fun s2 M2 he2 hsh himm => ?_⟩
    have hlen : (cellsA (.var i) 0 (k2.shape hh)).length = (s.k.shape hh).length := by rw [cellsA_length, hk2]
    refine ⟨c, ty, fr, q2, ?_, cellsA_isCell, q3, by rw [hlen]; exact q4⟩
    rw [hlen, hk2]
    have he' : (E.var i).den M2.env = .row ds := by rw [he2, env_var hd1, q5]
    refine CellsR_VRl (ds := ds) he' (by simp) ?_
    rw [hsh]
    exact q6.mono fun b off u hu hi => ⟨hu, himm b off hi⟩
   | succ j =>
    simp only [headO, List.getElem?_cons_succ] at hj
    have := arr_objs hs hk2 hkK himmK hown hes hv2 hd2 hK2 j ob2 hj
    rw [show o + 1 + j = o + (j + 1) by omega] at this
    exact this
  ·cases h
 | .ar hh :: r, a :: t, vs, es, i, o, h, hv, hd, hK, j, ob2, hj => by
  unfold arrE at h
  split at h
  ·rename_i e b es' he hes
   cases h
   unfold VRl at hv
   obtain ⟨v, vs, rfl, hv1, hv2⟩ := hv
   unfold E.denL at hd
   obtain ⟨hd1, hd2⟩ := drop_one hd
   rw [ar_kept he] at hK
   obtain ⟨hK1, hK2⟩ := drop_one hK
   obtain ⟨hlt, ⟨ob, q1, q2, q3⟩, ⟨c, ty, fr, rows, a1, a2, a3, a4, a5, a6⟩, _, _⟩ := arV_sound hs he hv1
   cases j with
   | zero =>
    simp only [headO, List.getElem?_cons_zero, Option.some.injEq] at hj
    subst hj
    refine ⟨b, ob, hK1, hlt, q1, q2, trivial, fun off ho => ?_, fun s2 M2 he2 hsh himm => ?_⟩
    ·cases ob with
     | row tip e => exact absurd rfl (q3 tip e)
     | dead => exact q2.elim
     | _ => exact ho
    ·exact ⟨c, ty, fr, rows, a1, by rw [he2, env_var hd1, a2], by rw [hsh]; exact a3, a4.mono fun b off v h1 h2 => ⟨h1, himm _ _ (himmK _ _ h2)⟩, a5, by rw [hk2]; exact a6⟩
   | succ j =>
    simp only [headO, List.getElem?_cons_succ] at hj
    have := arr_objs hs hk2 hkK himmK hown hes hv2 hd2 hK2 j ob2 hj
    rw [show o + 1 + j = o + (j + 1) by omega] at this
    exact this
  ·cases h
 | .ap hh n z :: r, a :: t, vs, es, i, o, h, hv, hd, hK, j, ob2, hj => by
  cases a <;> (try (unfold arrE at h; cases h; done))
  rename_i b off
  unfold arrE at h
  split at h
  ·rename_i e es' he hes
   cases h
   unfold VRl at hv
   obtain ⟨v, vs, rfl, hv1, hv2⟩ := hv
   unfold VR at hv1
   unfold E.denL at hd
   obtain ⟨hd1, hd2⟩ := drop_one hd
   obtain ⟨hK1, hK2⟩ := drop_one (show b :: keptL r t = K.drop o from hK)
   obtain ⟨_, ⟨ob, q1, q2, q3⟩, ⟨c, ty, fr, rows, a1, a2, a3, a4, a5, a6⟩, _⟩ := apV_sound hs he hv1.1
   cases j with
   | zero =>
    simp only [headO, List.getElem?_cons_zero, Option.some.injEq] at hj
    subst hj
    refine ⟨b, ob, hK1, hv1.1, q1, q2, trivial, fun off ho => ?_, fun s2 M2 he2 hsh himm => ?_⟩
    ·cases ob with
     | row tip e => exact absurd rfl (q3 tip e)
     | dead => exact q2.elim
     | _ => exact ho
    ·exact ⟨c, ty, fr, rows, a1, by rw [he2, env_var hd1, a2], by rw [hsh]; exact a3, a4.mono fun b off v h1 h2 => ⟨h1, himm _ _ (himmK _ _ h2)⟩, a5, a6⟩
   | succ j =>
    simp only [headO, List.getElem?_cons_succ] at hj
    have := arr_objs hs hk2 hkK himmK hown hes hv2 hd2 hK2 j ob2 hj
    rw [show o + 1 + j = o + (j + 1) by omega] at this
    exact this
  ·cases h
 | .ar _ :: _, [], _, _, _, _, h, _, _, _, _, _, _ => by cases h
 | .ap _ _ _ :: _, [], _, _, _, _, h, _, _, _, _, _, _ => by cases h
 | .bx _ _ :: _, [], _, _, _, _, h, _, _, _, _, _, _ => by cases h
 | [], _ :: _, _, _, _, _, h, _, _, _, _, _, _ => by cases h
 | .any :: _, [], _, _, _, _, h, _, _, _, _, _, _ => by cases h
 | .con _ :: _, [], _, _, _, _, h, _, _, _, _, _, _ => by cases h
 | .sh _ :: _, [], _, _, _, _, h, _, _, _, _, _, _ => by cases h
 | .rf _ :: _, [], _, _, _, _, h, _, _, _, _, _, _ => by cases h
 | .own _ :: _, [], _, _, _, _, h, _, _, _, _, _, _ => by cases h
 | .mp _ _ :: _, [], _, _, _, _, h, _, _, _, _, _, _ => by cases h
 | .mp _ _ :: _, .v _ :: _, _, _, _, _, h, _, _, _, _, _, _ => by cases h
 | .mp _ _ :: _, .ref _ :: _, _, _, _, _, h, _, _, _, _, _, _ => by cases h
 | .mp _ _ :: _, .box _ _ :: _, _, _, _, _, h, _, _, _, _, _, _ => by cases h
 | .mp _ _ :: _, .sl _ _ _ :: _, _, _, _, _, h, _, _, _, _, _, _ => by cases h
 | .mp _ _ :: _, .ms _ _ _ :: _, _, _, _, _, h, _, _, _, _, _, _ => by cases h
 | .mp _ _ :: _, .mg _ _ :: _, _, _, _, _, h, _, _, _, _, _, _ => by cases h
 | .mp _ _ :: _, .e0 :: _, _, _, _, _, h, _, _, _, _, _, _ => by cases h
 | .mp _ _ :: _, .fn _ _ _ :: _, _, _, _, _, h, _, _, _, _, _, _ => by cases h
 | .mp _ _ :: _, .agg _ :: _, _, _, _, _, h, _, _, _, _, _, _ => by cases h
 | .mp _ _ :: _, .tup _ :: _, _, _, _, _, h, _, _, _, _, _, _ => by cases h
 | .mp _ _ :: _, .iface _ _ :: _, _, _, _, _, h, _, _, _, _, _, _ => by cases h
 | .mp _ _ :: _, .pan _ :: _, _, _, _, _, h, _, _, _, _, _, _ => by cases h
 | .mp _ _ :: _, .any :: _, _, _, _, _, h, _, _, _, _, _, _ => by cases h
 | .mp _ _ :: _, .sy _ _ :: _, _, _, _, _, h, _, _, _, _, _, _ => by cases h
 | .mp _ _ :: _, .x _ _ :: _, _, _, _, _, h, _, _, _, _, _, _ => by cases h
 | .mp _ _ :: _, .d _ _ _ :: _, _, _, _, _, h, _, _, _, _, _, _ => by cases h
 | .mp _ _ :: _, .rd _ _ _ :: _, _, _, _, _, h, _, _, _, _, _, _ => by cases h
 | .mp _ _ :: _, .so _ _ _ _ _ :: _, _, _, _, _, h, _, _, _, _, _, _ => by cases h
 | .mp _ _ :: _, .po _ _ _ :: _, _, _, _, _, h, _, _, _, _, _, _ => by cases h
theorem arr_vals (hs : Sim G B0 w0 w s M) (htb : s.k.tb = tb) {k2 : Kn} (hk2 : k2.shape = s.k.shape) {K : List Nat} {ds0 : List D} {free : Nat -> Bool} {sK : St} (hkK : s.k = sK.k) (himmK : ∀ b off, Imm s M b off -> Imm sK M b off) (hown : ∀ b o, b < s.n -> s.get b = some o -> o.live -> free b = true -> ∀ off, Imm sK M (M.blk b) off)
  {s2 : St} {M2 : Mp} (hks2 : s2.k = k2) (himm : ∀ b off, Imm sK M b off -> Imm s2 M2 b off) (henv : M2.env = envOf ds0) (hblk : ∀ o tk, K[o]? = some tk -> M2.blk o = M.blk tk /\ M2.cap o = M.cap tk /\ o < s2.n) :
  ∀ {ents : List Ent} {as : List AV} {vs : List Value} {es : List E} {i o : Nat}, arrE s free ents as = some es -> VRl w s M as vs -> E.denL M.env es = ds0.drop i -> keptL ents as = K.drop o -> FitE tb ents (E.denL M.env es) /\ VRl w s2 M2 (headA k2 i o ents) vs
 | [], [], vs, es, i, o, h, hv, hd, hK => by
  simp only [arrE, Option.some.injEq] at h
  subst h
  unfold VRl at hv
  subst hv
  exact ⟨by unfold E.denL FitE; rfl, VRl_nil⟩
 | .any :: r, a :: t, vs, es, i, o, h, hv, hd, hK => by
  unfold arrE at h
  unfold VRl at hv
  obtain ⟨v, vs, rfl, _, hv2⟩ := hv
  have hK' : keptL r t = K.drop o := by rw [<- hK]; cases a <;> rfl
  obtain ⟨k1, k3⟩ := arr_vals hs htb hk2 hkK himmK hown hks2 himm henv hblk h hv2 hd hK'
  exact ⟨k1, by unfold headA; exact VRl_cons (by unfold VR; trivial) k3⟩
 | .con c :: r, a :: t, vs, es, i, o, h, hv, hd, hK => by
  unfold arrE at h
  split at h
  ·rename_i hc
   rw [Bool.and_eq_true] at hc
   obtain rfl := aEq_eq hc.2
   unfold VRl at hv
   obtain ⟨v, vs, rfl, hv1, hv2⟩ := hv
   have hK' : keptL r t = K.drop o := by rw [<- hK]; cases c <;> rfl
   obtain ⟨k1, k3⟩ := arr_vals hs htb hk2 hkK himmK hown hks2 himm henv hblk h hv2 hd hK'
   exact ⟨k1, by unfold headA; exact VRl_cons (con_VR hc.1 hv1) k3⟩
  ·cases h
 | .sh hh :: r, a :: t, vs, es, i, o, h, hv, hd, hK => by
  unfold arrE at h
  split at h
  ·rename_i y hy
   split at h
   ·rename_i e es' he hes
    cases h
    unfold VRl at hv
    obtain ⟨v, vs, rfl, hv1, hv2⟩ := hv
    unfold E.denL at hd
    obtain ⟨hd1, hd2⟩ := drop_one hd
    have hK' : keptL r t = K.drop o := by rw [<- hK]; cases a <;> rfl
    obtain ⟨k1, k3⟩ := arr_vals hs htb hk2 hkK himmK hown hks2 himm henv hblk hes hv2 hd2 hK'
    have q1 : VR w sK M y v := frzG_VR himmK hown hkK hs _ hy hv1
    rw [hkK] at he
    have q2 := shE_sound he q1
    rw [<- hkK] at q2
    refine ⟨by unfold E.denL FitE; exact ⟨ArgR.fit (by rw [<- shape_kn (k := s.k) htb]; exact q2), k1⟩, ?_⟩
    unfold headA
    refine VRl_cons ?_ k3
    rw [<- hks2]
    refine shA_VR ?_
    rw [henv, env_var hd1, hks2, hk2]
    exact q2.mono fun b off u hu hi => ⟨hu, himm b off hi⟩
   ·cases h
  ·cases h
 | .rf hh :: r, a :: t, vs, es, i, o, h, hv, hd, hK => by
  unfold arrE at h
  split at h
  ·rename_i y hy
   split at h
   ·rename_i e es' he hes
    cases h
    unfold VRl at hv
    obtain ⟨v, vs, rfl, hv1, hv2⟩ := hv
    unfold E.denL at hd
    obtain ⟨hd1, hd2⟩ := drop_one hd
    have hK' : keptL r t = K.drop o := by rw [<- hK]; cases a <;> rfl
    obtain ⟨k1, k3⟩ := arr_vals hs htb hk2 hkK himmK hown hks2 himm henv hblk hes hv2 hd2 hK'
    have q1 : VR w sK M y v := frzG_VR himmK hown hkK hs _ hy hv1
    rw [hkK] at he
    obtain ⟨b, off, cs, ev, ed, q2, q3⟩ := refX_sound he q1
    rw [<- hkK] at q3
    refine ⟨by unfold E.denL FitE; exact ⟨⟨cs, ed, by rw [<- shape_kn (k := s.k) htb]; exact q3⟩, k1⟩, ?_⟩
    unfold headA
    refine VRl_cons ?_ k3
    unfold VR
    refine ⟨b, off, cs, by rw [ev, Nat.add_zero], by rw [henv, env_var hd1, ed], q2.mono fun b off u hu hi => ⟨hu, himm b off hi⟩, by rw [hks2, hk2]; exact q3⟩
   ·cases h
  ·cases h
 | .own hh :: r, a :: t, vs, es, i, o, h, hv, hd, hK => by
  unfold arrE at h
  split at h
  ·rename_i e tk es' he hes
   cases h
   unfold VRl at hv
   obtain ⟨v, vs, rfl, hv1, hv2⟩ := hv
   unfold E.denL at hd
   obtain ⟨hd1, hd2⟩ := drop_one hd
   rw [own_kept he] at hK
   obtain ⟨hK1, hK2⟩ := drop_one hK
   obtain ⟨k1, k3⟩ := arr_vals hs htb hk2 hkK himmK hown hks2 himm henv hblk hes hv2 hd2 hK2
   obtain ⟨rows, ovs, tip, d1, f1, hlt, hg, htip, ev, g1, g2⟩ := ownE_sound hs rfl he hv1
   obtain ⟨b1, b2, b3⟩ := hblk o tk hK1
   refine ⟨by unfold E.denL FitE; rw [d1]; exact ⟨by unfold fits; rw [<- shape_kn (k := s.k) htb]; exact f1, k1⟩, ?_⟩
   unfold headA
   refine VRl_cons ?_ k3
   unfold VR
   rw [henv, env_var hd1, d1]
   refine ⟨?_, by unfold fits; rw [hks2, hk2]; exact f1, fun t ht => ?_⟩
   ·rw [ev]
    unfold DV
    refine .inr ⟨_, _, _, rfl, ?_, ?_⟩
    ·obtain ⟨c, e', fr, a1, a2, a3, a4⟩ := hs.obj tk _ hlt hg
     have hcell : rows.length <= M.cap tk := by
      have hvv := hv1
      rw [ev] at hvv
      cases a <;> (try (unfold ownE at he; cases he; done))
      ·unfold VR at hvv
       obtain ⟨b', off', cap', e1, hle, _⟩ := hvv
       cases e1
       exact hle
      ·rcases VR_d hvv with ⟨_, a1, c1, e1⟩ | ⟨rows', b', off', cap', _, e1, hle, _⟩
       ·injection e1 with e1 e2 e3
        omega
       ·injection e1 with e1 e2 e3
        rw [e2, e3]; exact hle
     exact hcell
    ·refine DVr_of (fun d hd => (fitsR_row f1 d hd).imp fun _ h => h.1) (g1.mono fun b off u hu hi => ⟨hu, himm _ _ (himmK _ _ hi)⟩) fun j u hj => ?_
     rw [Nat.zero_add]
     refine ⟨g2 j u hj, himm _ _ (himmK _ _ (imm_row hs hlt hg ?_))⟩
     rw [htip, <- flat_length f1, <- g1.length]
     exact (List.getElem?_eq_some_iff.1 hj).1
   ·cases ht
    exact ⟨b3, fun tip' e' hg' => ⟨rows.length, by rw [b1, b2]; exact ev⟩⟩
  ·cases h
 | .mp kt ct :: r, .mp m :: t, vs, es, i, o, h, hv, hd, hK => by
  unfold arrE at h
  split at h
  ·rename_i e es' he hes
   cases h
   unfold VRl at hv
   obtain ⟨v, vs, rfl, hv1, hv2⟩ := hv
   unfold VR at hv1
   unfold E.denL at hd
   obtain ⟨hd1, hd2⟩ := drop_one hd
   obtain ⟨hK1, hK2⟩ := drop_one (show m :: keptL r t = K.drop o from hK)
   obtain ⟨k1, k3⟩ := arr_vals hs htb hk2 hkK himmK hown hks2 himm henv hblk hes hv2 hd2 hK2
   obtain ⟨ents', clock, rows, ob, q1, q2, q3, q4, q5, q6⟩ := mapE_sound hs hv1.1 he
   obtain ⟨b1, b2, b3⟩ := hblk o m hK1
   refine ⟨by unfold E.denL FitE; rw [q5]; exact ⟨⟨rows, rfl, MDr.fit q6⟩, k1⟩, ?_⟩
   unfold headA
   refine VRl_cons ?_ k3
   unfold VR
   exact ⟨b3, by rw [b1]; exact hv1.2⟩
  ·cases h
 | .bx hh z :: r, a :: t, vs, es, i, o, h, hv, hd, hK => by
  cases a <;> (try (unfold arrE at h; cases h; done))
  rename_i b off
  unfold arrE at h
  split at h
  ·rename_i e es' he hes
   cases h
   unfold VRl at hv
   obtain ⟨v, vs, rfl, hv1, hv2⟩ := hv
   unfold VR at hv1
   unfold E.denL at hd
   obtain ⟨hd1, hd2⟩ := drop_one hd
   obtain ⟨hK1, hK2⟩ := drop_one (show b :: keptL r t = K.drop o from hK)
   obtain ⟨k1, k3⟩ := arr_vals hs htb hk2 hkK himmK hown hks2 himm henv hblk hes hv2 hd2 hK2
   obtain ⟨rfl, cs, c, ty, fr, ds, q1, q2, q3, q4, q5, q6⟩ := bxE_sound hs hkK himmK hown he hv1.1
   obtain ⟨b1, b2, b3⟩ := hblk o b hK1
   refine ⟨by unfold E.denL FitE; rw [q5]; exact ⟨⟨ds, rfl, by rw [<- shape_kn (k := s.k) htb]; exact q6.fitsC⟩, k1⟩, ?_⟩
   unfold headA
   refine VRl_cons ?_ k3
   unfold VR
   exact ⟨b3, by rw [b1]; exact hv1.2⟩
  ·cases h
 | .ar hh :: r, a :: t, vs, es, i, o, h, hv, hd, hK => by
  unfold arrE at h
  split at h
  ·rename_i e b es' he hes
   cases h
   unfold VRl at hv
   obtain ⟨v, vs, rfl, hv1, hv2⟩ := hv
   unfold E.denL at hd
   obtain ⟨hd1, hd2⟩ := drop_one hd
   rw [ar_kept he] at hK
   obtain ⟨hK1, hK2⟩ := drop_one hK
   obtain ⟨k1, k3⟩ := arr_vals hs htb hk2 hkK himmK hown hks2 himm henv hblk hes hv2 hd2 hK2
   obtain ⟨hlt, _, ⟨c, ty, fr, rows, a1, a2, a3, a4, a5, a6⟩, ev, hle⟩ := arV_sound hs he hv1
   obtain ⟨b1, b2, b3⟩ := hblk o b hK1
   refine ⟨by unfold E.denL FitE; rw [a2]; exact ⟨by unfold fits; rw [<- shape_kn (k := s.k) htb]; exact a3, k1⟩, ?_⟩
   unfold headA
   refine VRl_cons ?_ k3
   unfold VR
   refine ⟨b3, 0, 0, (e.den M.env).rows.length, M.cap b, rfl, ?_, by rw [b1, Nat.zero_mul]; exact ev, hle, fun _ => rfl, fun _ => ⟨rfl, rfl, b2.symm⟩⟩
   rw [henv]
   show D.v (.int .i64 (((E.var i).den (envOf ds0)).rows.length : Nat)) = _
   rw [env_var hd1, Nat.zero_add]
  ·cases h
 | .ap hh n z :: r, a :: t, vs, es, i, o, h, hv, hd, hK => by
  cases a <;> (try (unfold arrE at h; cases h; done))
  rename_i b off
  unfold arrE at h
  split at h
  ·rename_i e es' he hes
   cases h
   unfold VRl at hv
   obtain ⟨v, vs, rfl, hv1, hv2⟩ := hv
   unfold VR at hv1
   unfold E.denL at hd
   obtain ⟨hd1, hd2⟩ := drop_one hd
   obtain ⟨hK1, hK2⟩ := drop_one (show b :: keptL r t = K.drop o from hK)
   obtain ⟨k1, k3⟩ := arr_vals hs htb hk2 hkK himmK hown hks2 himm henv hblk hes hv2 hd2 hK2
   obtain ⟨rfl, _, ⟨c, ty, fr, rows, a1, a2, a3, a4, a5, a6⟩, hn⟩ := apV_sound hs he hv1.1
   obtain ⟨b1, b2, b3⟩ := hblk o b hK1
   refine ⟨by unfold E.denL FitE; exact ⟨⟨by rw [a2]; unfold fits; rw [<- shape_kn (k := s.k) htb]; exact a3, hn⟩, k1⟩, ?_⟩
   unfold headA
   refine VRl_cons ?_ k3
   unfold VR
   exact ⟨b3, by rw [b1]; exact hv1.2⟩
  ·cases h
 | .ar _ :: _, [], _, _, _, _, h, _, _, _ => by cases h
 | .ap _ _ _ :: _, [], _, _, _, _, h, _, _, _ => by cases h
 | .bx _ _ :: _, [], _, _, _, _, h, _, _, _ => by cases h
 | [], _ :: _, _, _, _, _, h, _, _, _ => by cases h
 | .any :: _, [], _, _, _, _, h, _, _, _ => by cases h
 | .con _ :: _, [], _, _, _, _, h, _, _, _ => by cases h
 | .sh _ :: _, [], _, _, _, _, h, _, _, _ => by cases h
 | .rf _ :: _, [], _, _, _, _, h, _, _, _ => by cases h
 | .own _ :: _, [], _, _, _, _, h, _, _, _ => by cases h
 | .mp _ _ :: _, [], _, _, _, _, h, _, _, _ => by cases h
 | .mp _ _ :: _, .v _ :: _, _, _, _, _, h, _, _, _ => by cases h
 | .mp _ _ :: _, .ref _ :: _, _, _, _, _, h, _, _, _ => by cases h
 | .mp _ _ :: _, .box _ _ :: _, _, _, _, _, h, _, _, _ => by cases h
 | .mp _ _ :: _, .sl _ _ _ :: _, _, _, _, _, h, _, _, _ => by cases h
 | .mp _ _ :: _, .ms _ _ _ :: _, _, _, _, _, h, _, _, _ => by cases h
 | .mp _ _ :: _, .mg _ _ :: _, _, _, _, _, h, _, _, _ => by cases h
 | .mp _ _ :: _, .e0 :: _, _, _, _, _, h, _, _, _ => by cases h
 | .mp _ _ :: _, .fn _ _ _ :: _, _, _, _, _, h, _, _, _ => by cases h
 | .mp _ _ :: _, .agg _ :: _, _, _, _, _, h, _, _, _ => by cases h
 | .mp _ _ :: _, .tup _ :: _, _, _, _, _, h, _, _, _ => by cases h
 | .mp _ _ :: _, .iface _ _ :: _, _, _, _, _, h, _, _, _ => by cases h
 | .mp _ _ :: _, .pan _ :: _, _, _, _, _, h, _, _, _ => by cases h
 | .mp _ _ :: _, .any :: _, _, _, _, _, h, _, _, _ => by cases h
 | .mp _ _ :: _, .sy _ _ :: _, _, _, _, _, h, _, _, _ => by cases h
 | .mp _ _ :: _, .x _ _ :: _, _, _, _, _, h, _, _, _ => by cases h
 | .mp _ _ :: _, .d _ _ _ :: _, _, _, _, _, h, _, _, _ => by cases h
 | .mp _ _ :: _, .rd _ _ _ :: _, _, _, _, _, h, _, _, _ => by cases h
 | .mp _ _ :: _, .so _ _ _ _ _ :: _, _, _, _, _, h, _, _, _ => by cases h
 | .mp _ _ :: _, .po _ _ _ :: _, _, _, _, _, h, _, _, _ => by cases h
theorem vrl_of_get : ∀ {as : List AV} {vs : List Value}, as.length = vs.length -> (∀ (i : Nat) (a : AV) (v : Value), as[i]? = some a -> vs[i]? = some v -> VR w s M a v) -> VRl w s M as vs
 | [], [], _, _ => VRl_nil
 | a :: as, v :: vs, hl, h => VRl_cons (h 0 a v rfl rfl) (vrl_of_get (by simpa using hl) fun i a v h1 h2 => h (i + 1) a v h1 h2)
 | [], _ :: _, hl, _ => by cases hl
 | _ :: _, [], hl, _ => by cases hl
theorem TmR.all {T : Tm} {a : Act} (h : TmR w s M T a) : VRl w s M ((List.range T.n).map (gt T)) a.tmps.toList := by
 refine vrl_of_get (by simp [h.size]) fun i x v h1 h2 => ?_
 rw [List.getElem?_map, Option.map_eq_some_iff] at h1
 obtain ⟨i', h1, rfl⟩ := h1
 have hi := (List.getElem?_eq_some_iff.1 h1)
 obtain ⟨hlt, hi⟩ := hi
 rw [List.getElem_range] at hi
 subst hi
 have := h.get i
 have e : a.tmps.getD i undef = v := by
  rw [Array.getD_eq_getD_getElem?, <- Array.getElem?_toList, h2]; rfl
 rw [e] at this
 exact this
theorem nodupN_get : ∀ {l : List Nat}, nodupN l = true -> ∀ (i j : Nat) (x : Nat), l[i]? = some x -> l[j]? = some x -> i = j
 | [], _, i, j, x, hi, _ => by simp at hi
 | a :: r, h, i, j, x, hi, hj => by
  unfold nodupN at h
  rw [Bool.and_eq_true, Bool.not_eq_true'] at h
  have hno : ∀ i : Nat, r[i]? = some a -> False := fun i hi => by
   have := memN_iff.2 (List.mem_of_getElem? hi)
   rw [h.1] at this; cases this
  cases i with
  | zero =>
   cases j with
   | zero => rfl
   | succ j =>
    simp only [List.getElem?_cons_zero, Option.some.injEq] at hi
    subst hi
    exact (hno j (by simpa using hj)).elim
  | succ i =>
   cases j with
   | zero =>
    simp only [List.getElem?_cons_zero, Option.some.injEq] at hj
    subst hj
    exact (hno i (by simpa using hi)).elim
   | succ j => rw [nodupN_get h.2 i j x (by simpa using hi) (by simpa using hj)]
theorem headO_len {k : Kn} : ∀ {ents : List Ent} {i : Nat}, (headO k i ents).length <= ents.length
 | [], _ => Nat.le_refl _
 | e :: r, i => by
  cases e <;> simp only [headO, List.length_cons] <;> first | exact Nat.le_succ_of_le headO_len | exact Nat.succ_le_succ headO_len
theorem headO_kn {k k' : Kn} (h : k.shape = k'.shape) : ∀ {ents : List Ent} {i : Nat}, headO k i ents = headO k' i ents
 | [], _ => rfl
 | e :: r, i => by
  cases e <;> simp only [headO, headO_kn h (ents := r), h]
theorem arrE_len {free : Nat -> Bool} : ∀ {ents : List Ent} {as : List AV} {es : List E} {k2 : Kn} {i : Nat}, arrE s free ents as = some es -> (headO k2 i ents).length = (keptL ents as).length
 | [], [], _, _, _, _ => rfl
 | .any :: r, a :: t, es, k2, i, h => by
  unfold arrE at h
  have := arrE_len (k2 := k2) (i := i) h
  cases a <;> exact this
 | .con c :: r, a :: t, es, k2, i, h => by
  unfold arrE at h
  split at h
  ·have := arrE_len (k2 := k2) (i := i) h
   cases a <;> exact this
  ·cases h
 | .sh c :: r, a :: t, es, k2, i, h => by
  unfold arrE at h
  split at h
  ·split at h
   ·rename_i hes
    have := arrE_len (k2 := k2) (i := i + 1) hes
    cases a <;> exact this
   ·cases h
  ·cases h
 | .rf c :: r, a :: t, es, k2, i, h => by
  unfold arrE at h
  split at h
  ·split at h
   ·rename_i hes
    have := arrE_len (k2 := k2) (i := i + 1) hes
    cases a <;> exact this
   ·cases h
  ·cases h
 | .own c :: r, a :: t, es, k2, i, h => by
  unfold arrE at h
  split at h
  ·rename_i e tk es' he hes
   have := arrE_len (k2 := k2) (i := i + 1) hes
   rw [own_kept he]
   simp only [headO, List.length_cons, this]
  ·cases h
 | .mp kt ct :: r, a :: t, es, k2, i, h => by
  cases a <;> (try (unfold arrE at h; cases h; done))
  unfold arrE at h
  split at h
  ·rename_i hes
   have := arrE_len (k2 := k2) (i := i + 1) hes
   simp only [headO, keptL, List.length_cons, this]
  ·cases h
 | .bx hh z :: r, a :: t, es, k2, i, h => by
  cases a <;> (try (unfold arrE at h; cases h; done))
  unfold arrE at h
  split at h
  ·rename_i hes
   have := arrE_len (k2 := k2) (i := i + 1) hes
   simp only [headO, keptL, List.length_cons, this]
  ·cases h
 | .ar c :: r, a :: t, es, k2, i, h => by
  unfold arrE at h
  split at h
  ·rename_i e tk es' he hes
   have := arrE_len (k2 := k2) (i := i + 1) hes
   rw [ar_kept he]
   simp only [headO, List.length_cons, this]
  ·cases h
 | .ap hh n z :: r, a :: t, es, k2, i, h => by
  cases a <;> (try (unfold arrE at h; cases h; done))
  unfold arrE at h
  split at h
  ·rename_i hes
   have := arrE_len (k2 := k2) (i := i + 1) hes
   simp only [headO, keptL, List.length_cons, this]
  ·cases h
 | .ar _ :: _, [], _, _, _, h => by cases h
 | .ap _ _ _ :: _, [], _, _, _, h => by cases h
 | .bx _ _ :: _, [], _, _, _, h => by cases h
 | [], _ :: _, _, _, _, h => by cases h
 | .any :: _, [], _, _, _, h => by cases h
 | .con _ :: _, [], _, _, _, h => by cases h
 | .sh _ :: _, [], _, _, _, h => by cases h
 | .rf _ :: _, [], _, _, _, h => by cases h
 | .own _ :: _, [], _, _, _, h => by cases h
def HeadAt (G : Nat -> Option (List AV)) (B0 : Nat) (w0 : World) (tb : List (Nat × List CT)) (out : Nat -> Nat -> Prop) (h : Hd) (ds : List D) (a : Act) (w : World) : Prop :=
 ∃ blk cap, ∀ fx, (∀ e, e ∈ fx -> e.den (envOf ds) = .v (.bool true)) -> Sim G B0 w0 w (headS (kn fx tb) h.ents) ⟨blk, cap, envOf ds, out⟩ /\ TmR w (headS (kn fx tb) h.ents) ⟨blk, cap, envOf ds, out⟩ (initT (headA (kn fx tb) 0 0 h.ents) 0) a
theorem others (hs : Sim G B0 w0 w s M) (K : List Nat) : ∃ sK, Sim G B0 w0 w sK M /\ sK.n = s.n /\ s.k = sK.k /\ (∀ i, i < s.n -> sK.get i = if memN i K = true then s.get i else some .dead) /\ (∀ b off, Imm s M b off -> Imm sK M b off) /\
  (∀ b o, b < s.n -> s.get b = some o -> o.live -> (!memN b K) = true -> ∀ off, Imm sK M (M.blk b) off) := by
 have hkill := kill_list (w := w) (M := M) (K := (List.range s.n).filter fun b => !memN b K) hs (fun b hb => by simpa using (List.mem_filter.1 hb).1)
 obtain ⟨q1, q2, q3, q4, q5⟩ := hkill
 generalize killL s ((List.range s.n).filter fun b => !memN b K) = sK at q1 q2 q3 q4 q5
 have hgetK : ∀ i, i < s.n -> sK.get i = if memN i K = true then s.get i else some .dead := fun i hi => by
  rw [q5]
  by_cases hm : memN i K = true
  ·rw [if_pos hm, if_neg (fun hh => by rw [List.mem_filter] at hh; rw [hm] at hh; cases hh.2)]
  ·rw [if_neg hm, if_pos (List.mem_filter.2 ⟨List.mem_range.2 hi, by simpa using hm⟩)]
 have himmK : ∀ b off, Imm s M b off -> Imm sK M b off := fun b off hi => by
  refine ⟨imm0_iff.2 fun i o hin hgi hbk => ?_, hi.2⟩
  rw [q3] at hin
  rw [hgetK i hin] at hgi
  split at hgi
  ·exact imm0_iff.1 hi.1 i o hin hgi hbk
  ·cases hgi; trivial
 have hown : ∀ b o, b < s.n -> s.get b = some o -> o.live -> (!memN b K) = true -> ∀ off, Imm sK M (M.blk b) off := by
  intro b ob hb hgb hlv hf off
  refine ⟨imm0_iff.2 fun j o hj hgj hbk => ?_, out_own hs hb⟩
  rw [q3] at hj
  rw [hgetK j hj] at hgj
  split at hgj
  ·rename_i hm
   have e1 := hs.inj j b o ob hj hb hgj hgb
   cases o with
   | dead => trivial
   | _ => exact absurd (e1 trivial hlv hbk) (fun e => by rw [e] at hm; rw [hm] at hf; cases hf)
  ·cases hgj; trivial
 exact ⟨sK, q1, q3, q4.symm, hgetK, himmK, hown⟩
theorem arrH_full (hG : ∀ g cs c, G g = some cs -> c ∈ cs -> ∃ x, c = .v x) (hs : Sim G B0 w0 w s M) (htb : s.k.tb = tb) {h : Hd} {T : Tm} {a : Act} {es : List E} (hT : TmR w s M T a) (hle : Nat.ble h.ents.length Tr.lid = true) (ha : arrH h T s = some es) :
  FitE tb h.ents (E.denL M.env es) /\ ∃ K : List Nat, K = keptL h.ents ((List.range T.n).map (gt T)) /\ (∀ (o tk : Nat), K[o]? = some tk -> tk < s.n /\ ∃ ob, s.get tk = some ob /\ ob.live) /\ ∀ fx, (headS (kn fx tb) h.ents).n = K.length /\
   (∀ b off, Imm s M b off -> Imm (headS (kn fx tb) h.ents) ⟨fun o => M.blk (K.getD o 0), fun o => M.cap (K.getD o 0), envOf (E.denL M.env es), M.out⟩ b off) /\
   ((∀ e, e ∈ fx -> e.den (envOf (E.denL M.env es)) = .v (.bool true)) -> Sim G B0 w0 w (headS (kn fx tb) h.ents) ⟨fun o => M.blk (K.getD o 0), fun o => M.cap (K.getD o 0), envOf (E.denL M.env es), M.out⟩ /\
    TmR w (headS (kn fx tb) h.ents) ⟨fun o => M.blk (K.getD o 0), fun o => M.cap (K.getD o 0), envOf (E.denL M.env es), M.out⟩ (initT (headA (kn fx tb) 0 0 h.ents) 0) a) := by
 unfold arrH at ha
 split at ha
 ·rename_i hc
  simp only [Bool.and_eq_true, List.isEmpty_iff] at hc
  obtain ⟨⟨⟨hds, hdl⟩, hn⟩, hnd⟩ := hc
  generalize hK : keptL h.ents ((List.range T.n).map (gt T)) = K at ha hnd
  have hle := Nat.le_of_ble_eq_true hle
  have hall := hT.all
  have hlen : (headO s.k 0 h.ents).length = K.length := by rw [<- hK]; exact arrE_len ha
  obtain ⟨sK, q1, q3, q4, hgetK, himmK, hown⟩ := others hs K
  have hob := fun (k2 : Kn) (hk2 : k2.shape = s.k.shape) => arr_objs hs hk2 q4 himmK hown (K := K) (ds0 := E.denL M.env es) (i := 0) (o := 0) ha hall (by simp) (by rw [hK]; simp)
  have hKlt : ∀ o tk, K[o]? = some tk -> tk < s.n /\ memN tk K = true := fun o tk ho => by
   have hlt : o < (headO s.k 0 h.ents).length := by rw [hlen]; exact (List.getElem?_eq_some_iff.1 ho).1
   obtain ⟨tk', ob, g1, g2, _⟩ := hob s.k rfl o _ (List.getElem?_eq_getElem hlt)
   rw [Nat.zero_add, ho] at g1
   cases g1
   exact ⟨g2, memN_iff.2 (List.mem_of_getElem? ho)⟩
  -- the head's state
  have key : ∀ fx, FitE tb h.ents (E.denL M.env es) /\ (headS (kn fx tb) h.ents).n = K.length /\ (∀ b off, Imm s M b off -> Imm (headS (kn fx tb) h.ents) ⟨fun o => M.blk (K.getD o 0), fun o => M.cap (K.getD o 0), envOf (E.denL M.env es), M.out⟩ b off) /\ ((∀ e, e ∈ fx -> e.den (envOf (E.denL M.env es)) = .v (.bool true)) -> Sim G B0 w0 w (headS (kn fx tb) h.ents) ⟨fun o => M.blk (K.getD o 0), fun o => M.cap (K.getD o 0), envOf (E.denL M.env es), M.out⟩ /\
    TmR w (headS (kn fx tb) h.ents) ⟨fun o => M.blk (K.getD o 0), fun o => M.cap (K.getD o 0), envOf (E.denL M.env es), M.out⟩ (initT (headA (kn fx tb) 0 0 h.ents) 0) a) := by
   intro fx
   have hk2 : (kn fx tb).shape = s.k.shape := (shape_kn htb).symm
   have hlen2 : (headO (kn fx tb) 0 h.ents).length = K.length := by rw [headO_kn hk2]; exact hlen
   obtain ⟨n1, n2, n3⟩ := newL_get (l := headO (kn fx tb) 0 h.ents) (s := st0 (kn fx tb)) (by
    have := headO_len (k := kn fx tb) (ents := h.ents) (i := 0)
    show 0 + _ <= _
    omega)
   have n0 : (st0 (kn fx tb)).n = 0 := rfl
   rw [n0, Nat.zero_add] at n1
   have n3' : ∀ o, o < K.length -> (headS (kn fx tb) h.ents).get o = (headO (kn fx tb) 0 h.ents)[o]? := fun o ho => by
    have := n3 o (by rw [n0, Nat.zero_add, hlen2]; exact ho)
    rw [n0, if_neg (Nat.not_lt_zero _)] at this
    exact this
   have hn2 : (headS (kn fx tb) h.ents).n = K.length := by rw [<- hlen2]; exact n1
   have hgd : ∀ o tk, K[o]? = some tk -> K.getD o 0 = tk := fun o tk ho => by rw [List.getD_eq_getElem?_getD, ho]; rfl
   generalize hs2 : headS (kn fx tb) h.ents = s2 at n3' hn2
   have hks2 : s2.k = kn fx tb := by rw [<- hs2]; exact n2
   let M2 : Mp := ⟨fun o => M.blk (K.getD o 0), fun o => M.cap (K.getD o 0), envOf (E.denL M.env es), M.out⟩
   have hobj : ∀ o ob2, o < s2.n -> s2.get o = some ob2 -> ∃ tk ob, K[o]? = some tk /\ tk < s.n /\ s.get tk = some ob /\ ob.live /\ ob2.live /\ (∀ off, below0 M.env ob off -> below0 (envOf (E.denL M.env es)) ob2 off) /\ ∀ (s2 : St) (M2 : Mp), M2.env = envOf (E.denL M.env es) -> s2.k.shape = s.k.shape -> (∀ b off, Imm sK M b off -> Imm s2 M2 b off) -> ObjR w s2 M2 (M.blk tk) (M.cap tk) ob2 := fun o ob2 ho hg => by
    rw [n3' o (by rw [<- hn2]; exact ho)] at hg
    have := hob (kn fx tb) hk2 o ob2 hg
    rw [Nat.zero_add] at this
    exact this
   have himm : ∀ b off, Imm sK M b off -> Imm s2 M2 b off := fun b off hi => by
    refine ⟨imm0_iff.2 fun o ob2 ho hg hbk => ?_, hi.2⟩
    obtain ⟨tk, ob, g1, g2, g3, g4, g5, g6, g7⟩ := hobj o ob2 ho hg
    have hbk : M.blk (K.getD o 0) = b := hbk
    rw [hgd o tk g1] at hbk
    refine g6 off (imm0_iff.1 hi.1 tk ob (by rw [q3]; exact g2) ?_ hbk)
    rw [hgetK tk g2, if_pos (hKlt o tk g1).2]; exact g3
   obtain ⟨v1, v2⟩ := arr_vals hs htb (k2 := kn fx tb) hk2 (K := K) (ds0 := E.denL M.env es) q4 himmK hown hks2 himm rfl (M2 := M2) (fun o tk ho => ⟨by show M.blk (K.getD o 0) = _; rw [hgd o tk ho], by show M.cap (K.getD o 0) = _; rw [hgd o tk ho], by rw [hn2]; exact (List.getElem?_eq_some_iff.1 ho).1⟩) (i := 0) (o := 0) ha hall (by simp) (by rw [hK]; simp)
   refine ⟨v1, hn2, fun b off hi => himm b off (himmK b off hi), fun hfx => ⟨?_, ?_⟩⟩
   ·refine ⟨hs.below, hs.size, ?_, fun o ho => ?_, fun o o' ob ob' ho ho' g g' l l' e => ?_, fun o ob2 ho hg => ?_, fun g cs hg => ?_, fun e he => hfx e (by rw [hks2] at he; exact he), fun b off ho => ⟨(hs.out b off ho).1, fun o ho' => ?_⟩⟩
    ·rw [hn2, <- hlen2]
     exact Nat.le_trans headO_len hle
    ·have hlt : o < K.length := by rw [<- hn2]; exact ho
     have hk := List.getElem?_eq_getElem hlt
     show B0 <= M.blk (K.getD o 0) /\ M.blk (K.getD o 0) < _
     rw [hgd o _ hk]
     exact hs.blk _ (hKlt o _ hk).1
    ·obtain ⟨tk, ob1, g1, g2, g3, g4, _⟩ := hobj o ob ho g
     obtain ⟨tk', ob1', g1', g2', g3', g4', _⟩ := hobj o' ob' ho' g'
     have e : M.blk (K.getD o 0) = M.blk (K.getD o' 0) := e
     rw [hgd o _ g1, hgd o' _ g1'] at e
     have := hs.inj tk tk' _ _ g2 g2' g3 g3' g4 g4' e
     subst this
     exact nodupN_get hnd o o' tk g1 g1'
    ·obtain ⟨tk, ob1, g1, g2, g3, g4, g5, g6, g7⟩ := hobj o ob2 ho hg
     show ObjR w s2 M2 (M.blk (K.getD o 0)) (M.cap (K.getD o 0)) ob2
     rw [hgd o _ g1]
     exact g7 s2 M2 rfl (by rw [hks2]; exact hk2) himm
    ·have := hs.glob g cs hg
     refine VRs.of_get fun i c hi => ?_
     obtain ⟨v, c1, c2, c3, c4⟩ := this.get i c hi
     refine ⟨v, c1, ?_, c3, himm _ _ (himmK _ _ c4)⟩
     obtain ⟨x, rfl⟩ := hG g cs c hg (List.mem_of_getElem? hi)
     exact VR_v.2 (VR_v.1 c2)
    ·have hlt : o < K.length := by rw [<- hn2]; exact ho'
     have hk := List.getElem?_eq_getElem hlt
     show M.blk (K.getD o 0) ≠ b
     rw [hgd o _ hk]
     exact (hs.out b off ho).2 _ (hKlt o _ hk).1
   ·have hlenA : (headA (kn fx tb) 0 0 h.ents).length = a.tmps.size := by rw [v2.length]; simp
    have hTn : T.n = h.ents.length := nbe hn
    have := initT_sound (w := w) (s := s2) (M := M2) 0 (by rw [Nat.add_zero, hlenA, hT.size, hTn]; exact hle) v2
    have hdef : a.defers = [] := by
     obtain ⟨dv, p1, p2⟩ := hT.defers
     rw [hdl] at p1
     have : dv = [] := p1
     rw [p2, hds, this]; rfl
    have ea : ({ tmps := a.tmps ++ Array.replicate (0 - a.tmps.size) undef, defers := [] } : Act) = a := by
     rw [Nat.zero_sub, <- hdef]
     cases a
     simp
    rw [ea] at this
    exact this
  refine ⟨(key []).1, K, rfl, fun o tk ho => ⟨(hKlt o tk ho).1, ?_⟩, fun fx => (key fx).2⟩
  have hlt : o < (headO s.k 0 h.ents).length := by rw [hlen]; exact (List.getElem?_eq_some_iff.1 ho).1
  obtain ⟨tk', ob, g1, g2, g3, g4, _⟩ := hob s.k rfl o _ (List.getElem?_eq_getElem hlt)
  rw [Nat.zero_add, ho] at g1
  cases g1
  exact ⟨ob, g3, g4⟩
 ·cases ha
theorem arrH_sound (hG : ∀ g cs c, G g = some cs -> c ∈ cs -> ∃ x, c = .v x) (hs : Sim G B0 w0 w s M) (htb : s.k.tb = tb) {h : Hd} {T : Tm} {a : Act} {es : List E} (hT : TmR w s M T a) (hle : Nat.ble h.ents.length Tr.lid = true) (ha : arrH h T s = some es) :
  FitE tb h.ents (E.denL M.env es) /\ HeadAt G B0 w0 tb M.out h (E.denL M.env es) a w := by
 obtain ⟨k1, K, _, _, k2⟩ := arrH_full hG hs htb hT hle ha
 exact ⟨k1, _, _, fun fx => (k2 fx).2.2⟩
theorem outRet_sound {run : Code -> Tm -> St -> Option (Ex × Tm × St)} (hP : NoNum P) (hrun : Goes P G B0 w0 none run) {q : Sig} {fn : Func} {ex : Ex} {e : Exit} {T : Tm} {r : E} {a : Act} {R : Ending -> World -> Prop} (h : outRet P G run q fn ex T s = some r)
  (hs : Sim G B0 w0 w s M) (hT : TmR w s M T a) (he : ExR w s M ex e)
  (hR : ∀ v w' s' M', Sim G B0 w0 w' s' M' -> Ext w s M w' s' M' -> ResR s.k.shape (fun b off => w'.cell? ⟨b, off, none⟩) (fun b off => ¬ M.out b off) q.res v (r.den M.env) -> R (.returned v) w') :
  bodyPostM (FW none) 0 P fn R e a w := by
 have key : (match killAll s T.ds with
   | some s =>
    match finA P G run fn T none s with
    | some (r, s') =>
     match frz s' 0 1000 r with
     | some y => resE s'.k q.res y
     | none => none
    | none => none
   | none => none) = some r -> LeavesInM (FW none) 0 P fn a.tmps R a.defers .returning w := by
  intro h
  split at h
  ·rename_i s2 hk
   obtain ⟨dv, q1, q2⟩ := hT.defers
   rw [q2]
   refine leaves_marks hk hs hT.dlt fun w2 j1 j2 => ?_
   split at h
   ·rename_i r1 s3 hf
    split at h
    ·rename_i y hy
     refine leavesInM_mono (fun e3 w3 hd => ?_) (fin_sound hP hrun hf (q1.ext j2) j1 (hT.ext j2) rfl)
     have hr : isPan r1 = none := by
      unfold isPan
      split
      ·simp [frz, frzG] at hy
      ·rfl
     obtain ⟨v, M3, rfl, hv, hs3, hE⟩ := Done.down hd hr
     have hE2 := j2.trans hE
     have hkk : s3.k = s.k := hE2.keep.2.2
     have hv2 : VR w3 (st0 s3.k) M3 y v := frz0 hs3 hy hv
     have hr2 := resE_sound (s := st0 s3.k) h hv2
     refine hR v w3 s3 M3 hs3 hE2 ?_
     rw [<- hkk, <- hE2.keep.1]
     refine hr2.mono fun b off u hu hi => ⟨hu, ?_⟩
     rw [<- hE2.keep.2.1]
     exact hi.2
    ·cases h
   ·cases h
  ·cases h
 unfold outRet at h
 split at h
 ·obtain rfl : e = .normal := he
  exact key h
 ·obtain rfl : e = .ret := he
  exact key h
 ·cases h

theorem base_sim {L : List (Nat × List Value)} {w0 w : World} {fx : List E} {M : Mp} (hb : Below w0.heap.size w0 w) (hL : TabsMet L w) (hI : ∀ g us, (g, us) ∈ L -> ∀ off, off < us.length -> ¬ M.out g off) (hfx : ∀ e, e ∈ fx -> e.den M.env = .v (.bool true)) (ho : ∀ b off, M.out b off -> b < w0.heap.size) :
  Sim (tabsG L) w0.heap.size w0 w (st0 (kn fx tb)) M := by
 refine ⟨hb, Nat.le_refl _, Nat.zero_le _, fun _ hi => absurd hi (Nat.not_lt_zero _), fun _ _ _ _ hi => absurd hi (Nat.not_lt_zero _), fun _ _ hi => absurd hi (Nat.not_lt_zero _), fun g cs hg => ?_, hfx, fun b off h => ⟨Nat.lt_of_lt_of_le (ho b off h) hb.size, fun _ hi => absurd hi (Nat.not_lt_zero _)⟩⟩
 obtain ⟨us, hm, rfl⟩ := tabsG_mem hg
 obtain ⟨h1, h2⟩ := hL g us hm
 refine VRs.of_get fun i c hi => ?_
 simp only [leaves, List.getElem?_map, Option.map_eq_some_iff] at hi
 obtain ⟨u, hu, rfl⟩ := hi
 have hlt : i < us.length := (List.getElem?_eq_some_iff.1 hu).1
 refine ⟨u, h2 i u hu, VR_v_of ((List.all_eq_true.1 h1) u (List.mem_of_getElem? hu)), ?_, fun _ _ hi => absurd hi (Nat.not_lt_zero _), by rw [Nat.zero_add]; exact hI g us hm i hlt⟩
 rfl
theorem arriveF_some {j : Nat} {T : Tm} : ∀ {heads : List Hd} {i : Nat} {o : Out}, arriveF j T s heads i = some o -> ∃ idx h es, heads[idx]? = some h /\ h.loop = j /\ arrH h T s = some es /\ o = .go (i + idx) es
 | [], i, o, h => by cases h
 | h :: r, i, o, hh => by
  unfold arriveF at hh
  split at hh
  ·rename_i es he
   cases hh
   split at he
   ·rename_i hj
    exact ⟨0, h, es, rfl, nbe hj, he, rfl⟩
   ·cases he
  ·obtain ⟨idx, h', es, h1, h2, h3, h4⟩ := arriveF_some hh
   exact ⟨idx + 1, h', es, by simpa using h1, h2, h3, by rw [h4, show i + 1 + idx = i + (idx + 1) by omega]⟩

theorem fnOk_tree {L : List (Nat × List Value)} {q : Sig} {pre : List D -> Prop} {mu : Nat -> Bool} {orc : Call} {K k fuel : Nat} (hP : NoNum P) (hmix : P.follows .mixedOrders = true) (horc : ∀ B0 w0, CallOk P (tabsG L) B0 w0 orc)
  (hn : (L.map (·.1)).Nodup) (hsc : (L.all fun x => x.2.all scalar) = true) {fn : Func} {c : Code} (hfn : P.funcs[q.f]? = some fn) (hbody : fn.body = some c) (hle : Nat.ble (q.args.length + fn.ntmps) Tr.lid = true)
  (heads : List Hd) (hlen : (heads.all fun h => Nat.ble h.ents.length Tr.lid) = true) (entry : Tree) (trees : Nat -> Tree)
  (hentry : entry.ok (runEntry P (tabsG L) mu (evCode P (tabsG L) (evDrawnX P (tabsG L)) (evFn P (tabsG L) mu (evDrawnX P (tabsG L)) K orc k) false K) tb q fn c heads fuel) [] = true)
  (htrees : ∀ j h, heads[j]? = some h -> (trees j).ok (runHead P (tabsG L) mu (evCode P (tabsG L) (evDrawnX P (tabsG L)) (evFn P (tabsG L) mu (evDrawnX P (tabsG L)) K orc k) false K) tb q fn c heads fuel j) [] = true)
  (Inv : Nat -> D -> List D -> Prop) (meas : Nat -> List D -> Nat)
  (h0 : ∀ ds, FitL tb q.args ds -> pre ds -> entry.holds (fun o => match o with | .ret d => d = Interp.phi q.g ds | .go j es => Inv j (Interp.phi q.g ds) es) (envOf ds))
  (hj : ∀ j h d ds, heads[j]? = some h -> FitE tb h.ents ds -> Inv j d ds -> (trees j).holds (fun o => match o with | .ret x => x = d | .go i es => Inv i d es /\ meas i es < meas j ds) (envOf ds)) :
  FnOk P L tb q pre := by
 intro W I vs ds hL hI hargs hpre
 have hd : ∀ call, CallOk P (tabsG L) W.heap.size W call -> DrawnOk P (tabsG L) W.heap.size W (evDrawnX P (tabsG L) call) := fun call hc => drawnX_sound hP hmix hc
 have hself := fn_sound (mu := mu) hP K (horc W.heap.size W) hd k
 have hgo : Goes P (tabsG L) W.heap.size W none (evCode P (tabsG L) (evDrawnX P (tabsG L)) (evFn P (tabsG L) mu (evDrawnX P (tabsG L)) K orc k) false K) := (code_sound hP hself (hd _ hself) (rb := false) (ro := none) (fun _ => rfl) K).1
 generalize evCode P (tabsG L) (evDrawnX P (tabsG L)) (evFn P (tabsG L) mu (evDrawnX P (tabsG L)) K orc k) false K = run at hentry htrees hgo
 have hG : ∀ g cs c, tabsG L g = some cs -> c ∈ cs -> ∃ x, c = .v x := fun g cs c hg hc => by
  obtain ⟨us, _, rfl⟩ := tabsG_mem hg
  unfold leaves at hc
  obtain ⟨x, _, rfl⟩ := List.mem_map.1 hc
  exact ⟨x, rfl⟩
 let outW : Nat -> Nat -> Prop := fun b off => b < W.heap.size /\ ¬ I b off
 let d0 := Interp.phi q.g ds
 let R : Ending -> World -> Prop := fun e W' => ∃ v, e = .returned v /\ Below W.heap.size W W' /\ ResR (kn [] tb).shape (fun b off => W'.cell? ⟨b, off, none⟩) (fun b off => I b off \/ W.heap.size <= b) q.res v d0
 have hIo : ∀ g us, (g, us) ∈ L -> ∀ off, off < us.length -> ¬ outW g off := fun g us hm off hlt ho => ho.2 (hI g us hm off hlt)
 let HI : Nat -> Nat -> Act -> World -> Prop := fun j n a w => ∃ idx h ds', heads[idx]? = some h /\ h.loop = j /\ FitE tb h.ents ds' /\ Inv idx d0 ds' /\ meas idx ds' = n /\ HeadAt (tabsG L) W.heap.size W tb outW h ds' a w
 -- what a way's end comes to
 have harr : ∀ {j T s o a w M}, Sim (tabsG L) W.heap.size W w s M -> s.k.tb = tb -> M.out = outW -> TmR w s M T a -> arrive heads j T s = some o -> ∃ idx es, o = .go idx es /\ (Inv idx d0 (E.denL M.env es) -> HI j (meas idx (E.denL M.env es)) a w) := by
  intro j T s o a w M hs htb ho hT h
  obtain ⟨idx, hh, es, q1, q2, q3, q4⟩ := arriveF_some h
  rw [Nat.zero_add] at q4
  have hle := (List.all_eq_true.1 hlen) hh (List.mem_of_getElem? q1)
  obtain ⟨g1, g2⟩ := arrH_sound hG hs htb hT hle q3
  rw [ho] at g2
  exact ⟨idx, es, q4, fun hi => ⟨idx, hh, E.denL M.env es, q1, q2, g1, hi, rfl, g2⟩⟩
 have hret : ∀ {ex T s r a w M e}, Sim (tabsG L) W.heap.size W w s M -> s.k.tb = tb -> M.out = outW -> TmR w s M T a -> outRet P (tabsG L) run q fn ex T s = some r -> ExR w s M ex e -> r.den M.env = d0 -> bodyPostM (FW none) 0 P fn R e a w := by
  intro ex T s r a w M e hs htb ho hT h he hr
  refine outRet_sound hP hgo h hs hT he fun v w' s' M' k1 k2 k3 => ⟨v, rfl, k1.below, ?_⟩
  rw [hr, shape_kn (fx := []) htb] at k3
  refine k3.mono fun b off u hu hi => ⟨hu, ?_⟩
  rw [ho] at hi
  by_cases hb : W.heap.size <= b
  ·exact .inr hb
  ·exact .inl (Classical.byContradiction fun hni => hi ⟨by omega, hni⟩)
 have hloops := heads_sound (Q := bodyPostM (FW none) 0 P fn R) hgo c HI (fun j n a w b kf hjb hi => by
  obtain ⟨idx, h, ds', q1, rfl, q4, q5, rfl, blk, cap, q6⟩ := hi
  obtain ⟨fx, o, g1, g2, g3⟩ := tree_sound (htrees idx h q1) (fun e he => by cases he) (hj idx h d0 ds' q1 q4 q5)
  obtain ⟨hs, hT⟩ := q6 fx g1
  have hT : TmR w (headS (kn fx tb) h.ents) ⟨blk, cap, envOf ds', outW⟩ { initT (headA (kn fx tb) 0 0 h.ents) 0 with mu := (mu q.f, false) } a := ⟨hT.size, hT.get, hT.defers, hT.dlt⟩
  have hkh : ∀ fx, (headS (kn fx tb) h.ents).k = kn fx tb := fun fx => by
   have hl := (List.all_eq_true.1 hlen) h (List.mem_of_getElem? q1)
   have hl := Nat.le_of_ble_eq_true hl
   exact (newL_get (l := headO (kn fx tb) 0 h.ents) (s := st0 (kn fx tb)) (by
    have := headO_len (k := kn fx tb) (ents := h.ents) (i := 0)
    show 0 + _ <= _
    omega)).2.1
  unfold runHead at g2
  rw [q1] at g2
  simp only at g2
  rw [hjb] at g2
  simp only at g2
  cases hev : evH (tabsG L) run fuel (.inl (b, h.loop + 1)) { initT (headA (kn fx tb) 0 0 h.ents) 0 with mu := (mu q.f, false) } (headS (kn fx tb) h.ents) (.head h.loop :: kf) with
  | none => rw [hev] at g2; cases g2
  | some rs =>
   rw [hev] at g2
   refine ⟨_, _, _, fuel, rs, hs, hT, hev, ?_, ?_⟩
   ·rintro ex T' s' rfl e a' w' M' j0 j1 j2 j3
    obtain ⟨r, hr, rfl⟩ := Option.map_eq_some_iff.1 g2
    refine hret j2 (by rw [j3.keep.2.2, hkh]; rfl) (by rw [j3.keep.2.1]) j1 hr j0 ?_
    rw [j3.keep.1]
    exact g3
   ·rintro i T' s' hrs a' w' M' j1 j2 j3
    have ha : arrive heads i T' s' = some o := by
     rcases hrs with rfl | rfl
     ·exact g2
     ·exact g2
    obtain ⟨idx', es, rfl, hh⟩ := harr j2 (by rw [j3.keep.2.2, hkh]; rfl) (by rw [j3.keep.2.1]) j1 ha
    have g3 : Inv idx' d0 (E.denL (envOf ds') es) /\ meas idx' (E.denL (envOf ds') es) < meas idx ds' := g3
    have e1 : M'.env = envOf ds' := j3.keep.1
    rw [e1] at hh
    exact ⟨_, g3.2, hh g3.1⟩)
 -- the entry
 obtain ⟨fx, o, g1, g2, g3⟩ := tree_sound hentry (fun e he => by cases he) (h0 ds hargs.fit hpre)
 let M : Mp := ⟨id, id, envOf ds, outW⟩
 have hs : Sim (tabsG L) W.heap.size W W (st0 (kn fx tb)) M := base_sim (Below.refl _ _) hL hIo g1 fun b off ho => ho.1
 have hv : VRl W (st0 (kn fx tb)) M (argsA (kn fx tb) 0 q.args) vs.toList := argsA_VRl (k := kn fx tb) (ds0 := ds) (j := 0) (by simp) hargs
 have hal : (argsA (kn fx tb) 0 q.args).length = q.args.length := by
  have : ∀ (hs : List Sh) (i : Nat), (argsA (kn fx tb) i hs).length = hs.length := by
   intro hs
   induction hs with
   | nil => intro i; rfl
   | cons h t ih => intro i; unfold argsA; rw [List.length_cons, ih, List.length_cons]
  exact this _ _
 have hT := initT_sound (w := W) (s := st0 (kn fx tb)) (M := M) fn.ntmps (by rw [hal]; exact Nat.le_of_ble_eq_true hle) hv
 have hT : TmR W (st0 (kn fx tb)) M { initT (argsA (kn fx tb) 0 q.args) fn.ntmps with mu := (mu q.f, false) } { tmps := vs ++ Array.replicate (fn.ntmps - vs.size) undef, defers := [] } := ⟨hT.size, hT.get, hT.defers, hT.dlt⟩
 refine callsIn_of_wp_marks (R := R) hfn hbody trivial ?_
 unfold runEntry at g2
 cases hev : evH (tabsG L) run fuel (.inl (c, 0)) { initT (argsA (kn fx tb) 0 q.args) fn.ntmps with mu := (mu q.f, false) } (st0 (kn fx tb)) [] with
 | none => rw [hev] at g2; cases g2
 | some rs =>
  rw [hev] at g2
  have := evH_sound (hd := headsL c [] 0) (J := fun _ _ _ => True) (Q := bodyPostM (FW none) 0 P fn R) hgo fuel hev (by trivial) (fun c' m e => by cases e; exact fun i x h => by rw [Nat.zero_add]; exact h) W M _ hs hT
   (by
    rintro ex T' s' rfl e a' w' M' j0 j1 j2 j3
    obtain ⟨r, hr, rfl⟩ := Option.map_eq_some_iff.1 g2
    refine hret j2 (by rw [j3.keep.2.2]; rfl) (by rw [j3.keep.2.1]) j1 hr j0 ?_
    rw [j3.keep.1]
    exact g3)
   (by
    rintro i T' s' b k' rfl hib a' w' M' j1 j2 j3
    obtain ⟨idx', es, rfl, hh⟩ := harr j2 (by rw [j3.keep.2.2]; rfl) (by rw [j3.keep.2.1]) j1 g2
    have g3 : Inv idx' d0 (E.denL (envOf ds) es) := g3
    have e1 : M'.env = envOf ds := j3.keep.1
    rw [e1] at hh
    refine wpIn_mono (hloops _ _ (Nat.le_refl _) i b k' a' w' hib (hh g3)) fun e a1 w1 hq => ?_
    exact wpk_mono (fun _ _ _ _ => trivial) k' e a1 w1 hq)
   (by
    rintro i T' s' rfl a' w' M' j1 j2 j3
    trivial)
  exact this
end
end Go.Ab
