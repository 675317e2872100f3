/- A new variable that stands in no order beside calls. -/
import Derived.Test.YtaeeblcdggjokaaDoorSxDraw3
namespace Go.Ab
set_option linter.unusedVariables false
set_option linter.unusedSimpArgs false
set_option linter.unusedSectionVars false
set_option linter.constructorNameAsVariable false
open Go Go.RowKit

/-! ### What carries over -/
structure Tx [Interp] (w : World) (s : St) (M : Mp) (w' : World) (s' : St) (M' : Mp) : Prop where
  cells : ∀ b off v, w.cell? ⟨b, off, none⟩ = some v → Imm s M b off → w'.cell? ⟨b, off, none⟩ = some v ∧ Imm s' M' b off
  n : s.n ≤ s'.n
  map : ∀ i, i < s.n → M'.blk i = M.blk i ∧ M'.cap i = M.cap i
  rows : ∀ i tip e, i < s.n → s'.get i = some (.row tip e) → s.get i = some (.row tip e)
  env : M'.env = M.env
  k : s'.k = s.k
section
variable [Interp] {w w' : World} {s s' : St} {M M' : Mp}
theorem TokOk.tx (h : Tx w s M w' s' M') {tok : Option Nat} {b off cap : Nat} (k : TokOk s M tok b off cap) : TokOk s' M' tok b off cap := by
  intro t ht
  obtain ⟨hn, hr⟩ := k t ht
  refine ⟨Nat.lt_of_lt_of_le hn h.n, fun tip e hg => ?_⟩
  obtain ⟨h1, h2, h3⟩ := hr tip e (h.rows t tip e hn hg)
  exact ⟨h1.trans (h.map t hn).1.symm, h2, h3.trans (h.map t hn).2.symm⟩
theorem TokD.tx (h : Tx w s M w' s' M') {tok : Option Nat} {y : Value} (k : TokD s M tok y) : TokD s' M' tok y := by
  intro t ht
  obtain ⟨hn, hr⟩ := k t ht
  refine ⟨Nat.lt_of_lt_of_le hn h.n, fun tip e hg => ?_⟩
  obtain ⟨l, h1⟩ := hr tip e (h.rows t tip e hn hg)
  exact ⟨l, by rw [h1, (h.map t hn).1, (h.map t hn).2]⟩
theorem renFn.tx (h : Tx w s M w' s' M') {f f' : Fn} (k : renFn s M f = some f') : renFn s' M' f = some f' := by
  cases f <;> simp only [renFn, reduceCtorEq] at k ⊢
  · exact k
  · split at k
    · rename_i l hl
      rw [if_pos (Nat.lt_of_lt_of_le hl h.n), (h.map _ hl).1]; exact k
    · cases k
mutual
theorem VR.tx (h : Tx w s M w' s' M') : ∀ {c : AV} {v : Value}, VR w s M c v → VR w' s' M' c v
  | .v x, y, k => by unfold VR at k ⊢; exact k
  | .ref cs, y, k => by unfold VR at k ⊢; obtain ⟨b, off, e, k⟩ := k; exact ⟨b, off, e, VRs.tx h k⟩
  | .box i off, y, k => by unfold VR at k ⊢; exact ⟨Nat.lt_of_lt_of_le k.1 h.n, by rw [(h.map i k.1).1]; exact k.2⟩
  | .sl cs len tok, y, k => by unfold VR at k ⊢; obtain ⟨b, off, cap, e, hl, k, ht⟩ := k; exact ⟨b, off, cap, e, hl, VRs.tx h k, ht.tx h⟩
  | .ms i off len, y, k => by unfold VR at k ⊢; refine ⟨Nat.lt_of_lt_of_le k.1 h.n, ?_⟩; rw [(h.map i k.1).1]; exact k.2
  | .mg i len, y, k => by unfold VR at k ⊢; rw [(h.map i k.1).1, (h.map i k.1).2]; exact ⟨Nat.lt_of_lt_of_le k.1 h.n, k.2⟩
  | .e0, y, k => by unfold VR at k ⊢; exact k
  | .mp i, y, k => by unfold VR at k ⊢; exact ⟨Nat.lt_of_lt_of_le k.1 h.n, by rw [(h.map i k.1).1]; exact k.2⟩
  | .fn f a b, y, k => by unfold VR at k ⊢; obtain ⟨f', a', b', e, k0, k1, k2⟩ := k; exact ⟨f', a', b', e, renFn.tx h k0, VRl.tx h k1, VRl.tx h k2⟩
  | .agg cs, y, k => by unfold VR at k ⊢; obtain ⟨vs, e, k⟩ := k; exact ⟨vs, e, VRl.tx h k⟩
  | .tup cs, y, k => by unfold VR at k ⊢; obtain ⟨vs, e, k⟩ := k; exact ⟨vs, e, VRl.tx h k⟩
  | .iface t x, y, k => by unfold VR at k ⊢; obtain ⟨v, e, k⟩ := k; exact ⟨v, e, VR.tx h k⟩
  | .pan x, y, k => by unfold VR at k; exact k.elim
  | .any, y, k => by unfold VR at k ⊢; exact k
  | .sy _ _, y, k => by unfold VR at k ⊢; exact k
  | .x _ _, y, k => by unfold VR at k ⊢; rw [h.env]; exact k
  | .d _ _ _, y, k => by unfold VR at k ⊢; rw [h.env, h.k]; exact ⟨k.1.mono h.cells, k.2.1, k.2.2.tx h⟩
  | .so _ _ _ _, y, k => by unfold VR at k ⊢; rw [h.env, (h.map _ k.1).1, (h.map _ k.1).2]; exact ⟨Nat.lt_of_lt_of_le k.1 h.n, k.2⟩
  | .po _ _, y, k => by unfold VR at k ⊢; rw [h.env, (h.map _ k.1).1]; exact ⟨Nat.lt_of_lt_of_le k.1 h.n, k.2⟩
  | .rd _ _ _, y, k => by unfold VR at k ⊢; rw [h.env, h.k]; obtain ⟨b, off, cs, e, e2, k, k2⟩ := k; exact ⟨b, off, cs, e, e2, DVs.mono h.cells k, k2⟩
theorem VRs.tx (h : Tx w s M w' s' M') : ∀ {cs : List AV} {b off : Nat}, VRs w s M cs b off → VRs w' s' M' cs b off
  | [], _, _, _ => by unfold VRs; trivial
  | c :: r, b, off, k => by
    unfold VRs at k ⊢
    obtain ⟨⟨v, hv, k1⟩, k2, k3, k4⟩ := k
    obtain ⟨hc, hi⟩ := h.cells b off v hv k3
    exact ⟨⟨v, hc, VR.tx h k1⟩, k2, hi, VRs.tx h k4⟩
theorem VRl.tx (h : Tx w s M w' s' M') : ∀ {cs : List AV} {vs : List Value}, VRl w s M cs vs → VRl w' s' M' cs vs
  | [], _, k => by unfold VRl at k ⊢; exact k
  | c :: r, vs, k => by
    unfold VRl at k ⊢
    obtain ⟨v, t, e, k1, k2⟩ := k
    exact ⟨v, t, e, VR.tx h k1, VRl.tx h k2⟩
end
theorem MR.tx (h : Tx w s M w' s' M') : ∀ {es : List (Value × AV)} {vs : List MapEntry}, MR w s M es vs → MR w' s' M' es vs
  | [], _, k => k
  | (_, _) :: _, _, ⟨e, t, e1, e2, k1, k2⟩ => ⟨e, t, e1, e2, k1.tx h, MR.tx h k2⟩
theorem DLr.tx (e : Tx w s M w' s' M') : ∀ {l : List (Nat × List AV × List AV)} {dv : List Deferred}, DLr w s M l dv → DLr w' s' M' l dv
  | [], _, h => h
  | (_, _, _) :: _, _, ⟨args, cap, t, e1, h1, h2, h3⟩ => ⟨args, cap, t, e1, h1.tx e, h2.tx e, DLr.tx e h3⟩
theorem TmR.tx {T : Tm} {a : Act} (h : TmR w s M T a) (e : Tx w s M w' s' M') : TmR w' s' M' T a :=
  ⟨h.size, fun t => (h.get t).tx e, by
    obtain ⟨dv, h1, h2⟩ := h.defers
    refine ⟨dv, h1.tx e, ?_⟩
    rw [h2]
    congr 1
    exact List.map_congr_left fun d hd => by rw [(e.map d (h.dlt d hd)).1], fun d hd => Nat.lt_of_lt_of_le (h.dlt d hd) e.n⟩
theorem ObjR.tx (h : Tx w s M w' s' M') {b cap : Nat} {o : AObj} (hk : w'.heap[b]? = w.heap[b]?) (ho : ObjR w s M b cap o) : ObjR w' s' M' b cap o := by
  cases o with
  | box cs esz => obtain ⟨c, e', fr, a1, a2, a3⟩ := ho; exact ⟨c, e', fr, hk.trans a1, a2.tx h, a3⟩
  | fz cs esz => obtain ⟨c, e', fr, a1, a2, a3⟩ := ho; exact ⟨c, e', fr, hk.trans a1, a2.tx h, a3⟩
  | row tip esz => obtain ⟨c, e', fr, a1, a2, a3, a4⟩ := ho; exact ⟨c, e', fr, hk.trans a1, a2, by rw [h.env]; exact a3, a4⟩
  | map es => obtain ⟨c, k, a1, a2⟩ := ho; exact ⟨c, k, hk.trans a1, a2.tx h⟩
  | dead => trivial
  | loop T ps asg body st pend => obtain ⟨rc, a1, a2, a3, a4, a5, a6, a7, a8⟩ := ho; exact ⟨rc, hk.trans a1, a2, a3, a4, a5, a6, a7, fun t => (a8 t).tx h⟩
  | defs => exact hk.trans ho
  | sym k => show SymR _ _ _ _; rw [hk, h.env]; exact ho
end

/-! ### Runs of operations -/
section
variable [Interp] {P : Program} {G : Nat → Option (List AV)} {call : Ab.Call}
theorem drawnG_any [Fg] (hfg : Fg.fg = true → ∃ c0, call = fgCall c0) {ops : Array Oper} {T Tf : Tm} {s sf : St} (h : evDrawnG P G call ops T s = some (Tf, sf)) :
    Static P (loosePair P ops) ops ∧ Tf.n = T.n ∧ Tf.ds = T.ds ∧ Tf.dl = T.dl ∧ ∀ L, Valid ops [] L → ∃ T', evOps0 P G call ops L { T with mu := (T.mu.1, true) } s = some (T', sf) ∧ T'.n = T.n ∧ ∀ t, gt T' t = gt Tf t := by
  unfold evDrawnG at h
  dsimp only at h
  split at h
  · rename_i hst
    have hst := static_of hst
    split at h
    · rename_i Ts Tf ss sf hrec
      split at h
      · rename_i hdyn
        rw [Bool.and_eq_true] at hdyn
        obtain ⟨hdyn, hpk⟩ := hdyn
        cases h
        refine ⟨hst, ?_, (rec_rest hrec).1, (rec_rest hrec).2.1, fun L hL => ?_⟩
        · rw [List.range_eq_range'] at hrec; exact (rec_frame hrec).1
        · obtain ⟨T1, e1, e2, e3⟩ := any_order hst hrec hdyn hpk hfg rfl hL (by simp) rfl rfl (fun t => .inr ⟨rfl, fun i hi => by cases hi⟩) (s := s) ⟨(fun p q _ hq => by cases hq), fun _ => by
            have : cnt P ops (fun j => decide (j ∈ ([] : List Nat))) ops.size = 0 := by
              unfold cnt; rw [List.countP_eq_zero]; simp
            rw [this]; rfl⟩
          exact ⟨T1, e1, e2, e3⟩
      · cases h
    · cases h
  · cases h
theorem ops0_append {ops : Array Oper} {l2 : List Nat} : ∀ {l1 : List Nat} {T T' : Tm} {s s' : St}, evOps0 P G call ops (l1 ++ l2) T s = some (T', s') → ∃ T1 s1, evOps0 P G call ops l1 T s = some (T1, s1) ∧ evOps0 P G call ops l2 T1 s1 = some (T', s')
  | [], T, T', s, s', h => ⟨T, s, rfl, h⟩
  | i :: rest, T, T', s, s', h => by
    rw [List.cons_append] at h
    simp only [evOps0] at h ⊢
    cases hfo : fetch ops T i with
    | none => rw [hfo] at h; cases h
    | some o =>
      rw [hfo] at h
      simp only at h ⊢
      split at h
      · rename_i hw
        rw [if_pos hw]
        cases hx : evOp P G call o T s with
        | none => rw [hx] at h; cases h
        | some r =>
          obtain ⟨x, s1⟩ := r
          rw [hx] at h
          simp only at h ⊢
          cases hp : (if (isPan x).isNone then putT T o.dst x else none) with
          | none => rw [hp] at h; cases h
          | some T1 => rw [hp] at h; exact ops0_append h
      · rename_i hw
        rw [if_neg hw]
        cases hp : putT T o.dst und with
        | none => rw [hp] at h; cases h
        | some T1 => rw [hp] at h; exact ops0_append h
theorem gk_none {ops : Array Oper} {T : Tm} {o : Oper} (h : o.guard = none) : gk ops T o = true := by unfold gk; rw [h]
theorem wanted_none {o : Oper} {f : Nat → Option Bool} (h : o.guard = none) : Region.wanted o f = true := by unfold Region.wanted; rw [h]
theorem ops0_congr {ops ops1 : Array Oper} : ∀ {l : List Nat} {T : Tm} {s : St}, (∀ i, i ∈ l → ∃ o, ops[i]? = some o ∧ ops1[i]? = some o ∧ o.guard = none) → evOps0 P G call ops l T s = evOps0 P G call ops1 l T s
  | [], T, s, h => rfl
  | i :: rest, T, s, h => by
    obtain ⟨o, h1, h2, hg⟩ := h i (by simp)
    unfold evOps0
    rw [fetch_of h1 (gk_none hg), fetch_of h2 (gk_none hg)]
    simp only [wanted_none hg, if_true]
    cases evOp P G call o T s with
    | none => rfl
    | some r =>
      obtain ⟨x, s1⟩ := r
      simp only
      cases (if (isPan x).isNone then putT T o.dst x else none) with
      | none => rfl
      | some T1 => exact ops0_congr fun j hj => h j (by simp [hj])
/-- The same but at d. -/
structure But (d : Nat) (T T2 : Tm) : Prop where
  n : T2.n = T.n
  ds : T2.ds = T.ds
  dl : T2.dl = T.dl
  mu : T2.mu = T.mu
  get : ∀ t, t ≠ d → gt T2 t = gt T t
theorem ops0_upd {ops : Array Oper} {d : Nat} : ∀ {l : List Nat} {T T' T2 : Tm} {s s' : St}, (∀ i, i ∈ l → ∀ o, ops[i]? = some o → d ∉ readsOf ops o ∧ o.dst ≠ some d) → evOps0 P G call ops l T s = some (T', s') → But d T T2 →
    ∃ T2', evOps0 P G call ops l T2 s = some (T2', s') ∧ But d T' T2' ∧ gt T2' d = gt T2 d
  | [], T, T', T2, s, s', _, h, hb => by
    simp only [evOps0, Option.some.injEq, Prod.mk.injEq] at h
    obtain ⟨rfl, rfl⟩ := h
    exact ⟨T2, rfl, hb, rfl⟩
  | i :: rest, T, T', T2, s, s', hr, h, hb => by
    unfold evOps0 at h
    cases hfo : fetch ops T i with
    | none => rw [hfo] at h; cases h
    | some o =>
      rw [hfo] at h
      obtain ⟨ho, hgk⟩ := fetch_some hfo
      obtain ⟨hd, hdst⟩ := hr i (by simp) o ho
      obtain ⟨r1, r2, r3⟩ := reads_agree (P := P) (G := G) (call := call) (s := s) (T := T2) (T' := T) hb.mu fun t ht => hb.get t (fun e => hd (e ▸ ht))
      have hput : ∀ {x : AV} {T1 : Tm}, putT T o.dst x = some T1 → ∃ T21, putT T2 o.dst x = some T21 ∧ But d T1 T21 ∧ gt T21 d = gt T2 d := fun {x T1} hp => by
        obtain ⟨p1, p2, p3⟩ := putT_some hp
        obtain ⟨T21, hq⟩ := putT_of (T := T2) (d := o.dst) x fun q hq => by rw [hb.n]; exact p3 q hq
        obtain ⟨q1, q2, q3⟩ := putT_some hq
        obtain ⟨a1, a2, a3⟩ := putT_rest hp
        obtain ⟨b1, b2, b3⟩ := putT_rest hq
        refine ⟨T21, hq, ⟨by rw [q1, p1, hb.n], by rw [b1, a1, hb.ds], by rw [b2, a2, hb.dl], by rw [b3, a3, hb.mu], fun t ht => ?_⟩, by rw [q2 d, if_neg hdst]⟩
        rw [q2 t, p2 t, hb.get t ht]
      unfold evOps0
      rw [fetch_of ho (by rw [r3]; exact hgk)]
      simp only at h ⊢
      rw [r2, r1]
      split at h
      · rename_i hw
        rw [if_pos hw]
        cases hx : evOp P G call o T s with
        | none => rw [hx] at h; cases h
        | some r =>
          obtain ⟨x, s1⟩ := r
          rw [hx] at h
          simp only at h ⊢
          split at h
          · rename_i T1 hp
            obtain ⟨hpan, hp⟩ := put_pan hp
            obtain ⟨T21, hq, hb1, hd1⟩ := hput hp
            rw [put_pan_of hpan, hq]
            obtain ⟨T2', g1, g2, g3⟩ := ops0_upd (fun j hj => hr j (by simp [hj])) h hb1
            exact ⟨T2', g1, g2, g3.trans hd1⟩
          · cases h
      · rename_i hw
        rw [if_neg hw]
        split at h
        · rename_i T1 hp
          obtain ⟨T21, hq, hb1, hd1⟩ := hput hp
          rw [hq]
          obtain ⟨T2', g1, g2, g3⟩ := ops0_upd (fun j hj => hr j (by simp [hj])) h hb1
          exact ⟨T2', g1, g2, g3.trans hd1⟩
        · cases h
theorem put_getD {a : Act} {d : Option Nat} {v : Value} {t : Nat} (h : d ≠ some t) : (a.put d v).tmps.getD t undef = a.tmps.getD t undef := by
  cases d with
  | none => rfl
  | some d =>
    simp only [Act.put]
    rw [Array.getD_eq_getD_getElem?, Array.getD_eq_getD_getElem?, Array.getElem?_setIfInBounds_ne (fun e => h (by rw [e]))]
/-- A run of operations, and what follows. -/
theorem ops0_cont {B0 : Nat} {w0 : World} (hP : NoNum P) (hcall : CallOk P G B0 w0 call) {ops : Array Oper} {ro : Option Nat} {Q : Exit → Act → World → Prop} {l2 : List Nat} : ∀ {l1 : List Nat} {T T' : Tm} {s s' : St} {w : World} {M : Mp} {a : Act}, evOps0 P G call ops l1 T s = some (T', s') →
    Sim G B0 w0 w s M → TmR w s M T a → (∀ a' w' M', TmR w' s' M' T' a' → Sim G B0 w0 w' s' M' → Ext w s M w' s' M' → (∀ t, (∀ i, i ∈ l1 → ∀ o, ops[i]? = some o → o.dst ≠ some t) → a'.tmps.getD t undef = a.tmps.getD t undef) → wpOpsIn (FW ro) 0 P ops Q l2 a' w') → wpOpsIn (FW ro) 0 P ops Q (l1 ++ l2) a w
  | [], T, T', s, s', w, M, a, h, hs, hT, hq => by
    simp only [evOps0, Option.some.injEq, Prod.mk.injEq] at h
    obtain ⟨rfl, rfl⟩ := h
    exact hq a w M hT hs (Ext.refl _ _ _) fun _ _ => rfl
  | i :: rest, T, T', s, s', w, M, a, h, hs, hT, hq => by
    unfold evOps0 at h
    rw [List.cons_append]
    unfold wpOpsIn
    cases hfo : fetch ops T i with
    | none => rw [hfo] at h; cases h
    | some o =>
      obtain ⟨ho, hgk⟩ := fetch_some hfo
      rw [hfo] at h
      rw [ho]
      simp only at h ⊢
      have hy : Region.wanted o (yielded ops a.tmps) = Region.wanted o (yieldedA ops T) := yielded_eq hT hgk
      rw [hy]
      split at h
      · rename_i hw
        rw [if_pos hw]
        split at h
        · rename_i x s1 hx
          split at h
          · rename_i T1 hp
            obtain ⟨hpan, hp⟩ := put_pan hp
            have hnd : ∀ c, o.op ≠ .defer c := fun c hop => by simp only [evOp, evOp1, evSym, hop, reduceCtorEq] at hx
            refine ⟨fun _ _ => trivial, ?_⟩
            rw [Oper.semAt_eq _ _ _ hnd]
            refine op_sound hP hcall hs hT hx ro _ _ (fun v w1 M1 hv hs1 hE => ?_) fun y' v w1 M1 hy' hv hs1 hE => by rw [hpan] at hy'; cases hy'
            refine ops0_cont hP hcall h hs1 ((hT.ext hE).put hp hv) fun a' w' M' k1 k2 k3 k4 => hq a' w' M' k1 k2 (hE.trans k3) fun t ht => ?_
            rw [k4 t fun j hj => ht j (by simp [hj]), put_getD (ht i (by simp) o ho)]
          · cases h
        · cases h
      · rename_i hw
        rw [if_neg hw]
        split at h
        · rename_i T1 hp
          refine ⟨fun _ _ => trivial, ops0_cont hP hcall h hs (hT.put hp VR_und) fun a' w' M' k1 k2 k3 k4 => hq a' w' M' k1 k2 k3 fun t ht => ?_⟩
          rw [k4 t fun j hj => ht j (by simp [hj]), put_getD (ht i (by simp) o ho)]
        · cases h
end

/-! ### Orders -/
theorem valid_mem {ops : Array Oper} : ∀ {L D : List Nat}, Valid ops D L → (∀ i, i ∈ L → i ∉ D ∧ i < ops.size) ∧ L.Nodup ∧ ∀ i, i < ops.size → i ∈ D ∨ i ∈ L
  | [], D, h => ⟨fun i hi => by (cases hi), List.nodup_nil, fun i hi => .inl (h i hi)⟩
  | x :: r, D, ⟨h1, h2, h3, h4⟩ => by
    obtain ⟨k1, k2, k3⟩ := valid_mem h4
    refine ⟨fun i hi => ?_, List.nodup_cons.2 ⟨fun hx => (k1 x hx).1 (by simp), k2⟩, fun i hi => ?_⟩
    · rcases List.mem_cons.1 hi with rfl | hi
      · exact ⟨h2, h1⟩
      · exact ⟨fun hd => (k1 i hi).1 (by simp [hd]), (k1 i hi).2⟩
    · rcases k3 i hi with h | h
      · rcases List.mem_cons.1 h with rfl | h
        · exact .inr (by simp)
        · exact .inl h
      · exact .inr (by simp [h])
def Closed (ops : Array Oper) (D : List Nat) : Prop := ∀ k, k ∈ D → ∀ (q : Oper), ops[k]? = some q → ∀ e, e ∈ q.after.toList → Region.binds .any e = true → e.on ∈ D
theorem ahead {ops : Array Oper} (hb : Back ops) {D : List Nat} (hc : Closed ops D) {i j : Nat} (hi : i < ops.size) (hd : ∀ (o : Oper), ops[i]? = some o → ∀ (e : Edge), e ∈ o.after.toList → Region.binds .any e = true → e.on ∈ D) (h : bitOf (masks ops) i j = true) : j ∈ D :=
  bit_lt_dep (fun k => k ∈ D) hb (fun k q hq hk e he hbe => hc k hk q hq e he hbe) i j hi h hd
theorem valid_tail {ops : Array Oper} (hb : Back ops) {m : Nat} (hm : ∀ i, m ≤ i → i < ops.size → ∀ j, j < i → bitOf (masks ops) i j = true) : ∀ {L D : List Nat} {k : Nat}, m ≤ k → k ≤ ops.size → (∀ j, j ∈ D ↔ j < k) → Valid ops D L → L = List.range' k (ops.size - k)
  | [], D, k, hk, hks, hD, h => by
    have : ops.size = k := by
      by_cases c : k < ops.size
      · have := (hD k).1 (h k c); omega
      · omega
    rw [this, Nat.sub_self]; rfl
  | i :: r, D, k, hk, hks, hD, ⟨h1, h2, h3, h4⟩ => by
    have hc : Closed ops D := fun j hj q hq e he hbe => (hD _).2 (Nat.lt_trans (hb j q hq e he hbe) ((hD j).1 hj))
    have hik : k ≤ i := Nat.le_of_not_lt fun h => h2 ((hD i).2 h)
    have hki : i = k := by
      by_cases c : k < i
      · have := ahead hb hc h1 h3 (hm i (by omega) h1 k c)
        have := (hD k).1 this
        omega
      · omega
    subst hki
    rw [show ops.size - i = (ops.size - (i + 1)) + 1 by omega, List.range'_succ]
    congr 1
    exact valid_tail hb hm (by omega) (by omega) (fun j => by rw [List.mem_cons, hD j]; omega) h4
theorem valid_split {ops ops1 : Array Oper} (hb : Back ops) {m : Nat} (hms : m ≤ ops.size) (hm : ∀ i, m ≤ i → i < ops.size → ∀ j, j < i → bitOf (masks ops) i j = true) (hs1 : ops1.size = m) (ha : ∀ (i : Nat) (o1 : Oper), ops1[i]? = some o1 → ∃ o : Oper, ops[i]? = some o ∧ o1.after = o.after) :
    ∀ {L D : List Nat}, (∀ j, j ∈ D → j < m) → Closed ops D → Valid ops D L → ∃ L1, L = L1 ++ List.range' m (ops.size - m) ∧ Valid ops1 D L1
  | [], D, hD, hc, h => by
    have : ops.size = m := by
      by_cases c : m < ops.size
      · have := hD m (h m c); omega
      · omega
    refine ⟨[], by rw [this, Nat.sub_self]; rfl, fun i hi => h i (by omega)⟩
  | i :: r, D, hD, hc, ⟨h1, h2, h3, h4⟩ => by
    by_cases him : i < m
    · obtain ⟨L1, e, hv⟩ := valid_split hb hms hm hs1 ha (L := r) (D := i :: D) (fun j hj => by
        rcases List.mem_cons.1 hj with rfl | hj
        · exact him
        · exact hD j hj) (fun k hk q hq e he hbe => by
        rcases List.mem_cons.1 hk with rfl | hk
        · exact List.mem_cons_of_mem _ (h3 q hq e he hbe)
        · exact List.mem_cons_of_mem _ (hc k hk q hq e he hbe)) h4
      refine ⟨i :: L1, by rw [e]; rfl, by omega, h2, fun o1 ho1 e he hbe => ?_, hv⟩
      obtain ⟨o, ho, hae⟩ := ha i o1 ho1
      exact h3 o ho e (by rw [← hae]; exact he) hbe
    · have hall : ∀ j, j < i → j ∈ D := fun j hj => ahead hb hc h1 h3 (hm i (by omega) h1 j hj)
      have hi : i = m := by
        by_cases c : m < i
        · have := hD m (hall m c); omega
        · omega
      subst hi
      refine ⟨[], ?_, fun j hj => hall j (by omega)⟩
      rw [List.nil_append]
      have hv : Valid ops D (i :: r) := ⟨h1, h2, h3, h4⟩
      exact valid_tail hb hm (Nat.le_refl _) (by omega) (fun j => ⟨hD j, hall j⟩) hv

/-! ### A new block that is told of later -/
section
variable [Interp] {P : Program} {G : Nat → Option (List AV)} {call : Ab.Call} {B0 : Nat} {w0 w : World} {s : St} {M : Mp}
def Mp.shy (M : Mp) (b : Nat) : Mp := { M with out := fun c off => M.out c off ∨ c = b }
theorem shy_tx (ob : Obj) : Tx w s M (w.alloc ob) s (M.shy w.heap.size) := by
  refine ⟨fun c off v hc hi => ?_, Nat.le_refl _, fun _ _ => ⟨rfl, rfl⟩, fun _ _ _ _ h => h, rfl, rfl⟩
  have hl := cell?_lt hc
  refine ⟨(World.cell?_alloc_lt w ob ⟨c, off, none⟩ hl).trans hc, hi.1, fun h => ?_⟩
  rcases h with h | h
  · exact hi.2 h
  · omega
theorem shy_sim (h : Sim G B0 w0 w s M) (ob : Obj) : Sim G B0 w0 (w.alloc ob) s (M.shy w.heap.size) := by
  have hE := shy_tx (w := w) (s := s) (M := M) ob
  have hB : B0 ≤ w.heap.size := Nat.le_trans h.size h.below.size
  refine ⟨h.below.alloc hB ob, h.size, h.bound, fun i hi => ⟨(h.blk i hi).1, ?_⟩, h.inj, fun i o hi hg => (h.obj i o hi hg).tx hE (Below.heap_alloc w ob _ (h.blk i hi).2), fun g cs hg => (h.glob g cs hg).tx hE, h.fx, fun c off ho => ?_⟩
  · rw [World.size_alloc]; exact Nat.lt_succ_of_lt (h.blk i hi).2
  · rw [World.size_alloc]
    rcases ho with ho | rfl
    · exact ⟨Nat.lt_succ_of_lt (h.out c off ho).1, (h.out c off ho).2⟩
    · exact ⟨Nat.lt_succ_self _, fun i hi e => by have := (h.blk i hi).2; have e : M.blk i = w.heap.size := e; omega⟩
variable {O : Nat → Nat → Prop} {b : Nat}
def Mp.told (M : Mp) (O : Nat → Nat → Prop) (i b : Nat) : Mp := ({ M with out := O } : Mp).add i b 0
theorem told_tx (hr : s.room = true) (x : AObj) (hO : M.out = fun c off => O c off ∨ c = b) : Tx w s M w (s.new x) (M.told O s.n b) := by
  have hb := room_lt hr
  refine ⟨fun c off v hc hi => ⟨hc, fun i o hin hg hbk => ?_, fun h => hi.2 (by rw [hO]; exact .inl h)⟩, Nat.le_succ _, fun i hi => ?_, fun i tip e hi hg => ?_, rfl, rfl⟩
  · rw [St.get_new _ _ _ hb] at hg
    simp only [Mp.told, Mp.add] at hbk
    by_cases e : i = s.n
    · rw [if_pos e] at hbk
      exact absurd (by rw [hO]; exact .inr hbk.symm) hi.2
    · rw [if_neg e] at hg hbk
      exact hi.1 i o (by simp only [St.new] at hin; omega) hg hbk
  · simp only [Mp.told, Mp.add, if_neg (Nat.ne_of_lt hi), and_self]
  · rw [St.get_new _ _ _ hb, if_neg (Nat.ne_of_lt hi)] at hg; exact hg
theorem told_sim (h : Sim G B0 w0 w s M) (hr : s.room = true) (hO : M.out = fun c off => O c off ∨ c = b) (hOb : ∀ off, ¬ O b off) (hB : B0 ≤ b) {z : List AV} {vs : Array Value} {t : TypeId} (hw : w.heap[b]? = some (.cells vs t))
    (hv : VRl w (s.new (.box z (codeOf t 0))) (M.told O s.n b) z vs.toList) (hc : z.all isCell = true) : Sim G B0 w0 w (s.new (.box z (codeOf t 0))) (M.told O s.n b) := by
  have hE := told_tx (w := w) hr (.box z (codeOf t 0)) hO
  have hb := room_lt hr
  have hbw : b < w.heap.size := (Array.getElem?_eq_some_iff.1 hw).1
  have hne : ∀ i, i < s.n → M.blk i ≠ b := (h.out b 0 (by rw [hO]; exact .inr rfl)).2
  refine ⟨h.below, h.size, by simp only [St.new]; omega, fun i hi => ?_, fun i j oi oj hi hj gi gj li lj e => ?_, fun i o hi hg => ?_, fun g cs hg => (h.glob g cs hg).tx hE, h.fx, fun c off ho => ?_⟩
  · simp only [Mp.told, Mp.add]
    by_cases e : i = s.n
    · rw [if_pos e]; exact ⟨hB, hbw⟩
    · rw [if_neg e]; exact h.blk i (by simp only [St.new] at hi; omega)
  · rw [St.get_new _ _ _ hb] at gi gj
    simp only [St.new] at hi hj
    simp only [Mp.told, Mp.add] at e
    by_cases ei : i = s.n <;> by_cases ej : j = s.n
    · omega
    · rw [if_pos ei, if_neg ej] at e; exact absurd e.symm (hne j (by omega))
    · rw [if_neg ei, if_pos ej] at e; exact absurd e (hne i (by omega))
    · rw [if_neg ei] at gi; rw [if_neg ej] at gj; rw [if_neg ei, if_neg ej] at e
      exact h.inj i j oi oj (by omega) (by omega) gi gj li lj e
  · rw [St.get_new _ _ _ hb] at hg
    simp only [St.new] at hi
    by_cases e : i = s.n
    · rw [if_pos e] at hg; cases hg; subst e
      simp only [Mp.told, Mp.add, if_true]
      refine ⟨vs, t, (0, 0), hw, ?_, hc, .inl rfl, fun h => absurd (codeOf_mod (by decide)) h, fun _ => ⟨(codeOf_div (by decide)).symm, fun _ => by rw [hv.length]; simp⟩⟩
      rw [List.take_of_length_le (by rw [hv.length]; exact Nat.le_refl _)]
      exact hv
    · rw [if_neg e] at hg
      have := (h.obj i o (by omega) hg).tx hE (b := M.blk i) (cap := M.cap i) rfl
      simpa only [Mp.told, Mp.add, if_neg e] using this
  · have ho : O c off := ho
    have k := h.out c off (by rw [hO]; exact .inl ho)
    refine ⟨k.1, fun i hi => ?_⟩
    simp only [Mp.told, Mp.add]
    by_cases e : i = s.n
    · rw [if_pos e]; intro e2; subst e2; exact hOb off ho
    · rw [if_neg e]; exact k.2 i (by simp only [St.new] at hi; omega)
end

theorem allocAt_some {ops : Array Oper} {ia : Nat} {oa : Oper} {t : TypeId} {d : Nat} (h : allocAt ops = some (ia, oa, t, d)) : ops[ia]? = some oa ∧ oa.op = .alloc t ∧ oa.dst = some d := by
  unfold allocAt at h
  obtain ⟨⟨o, i⟩, hm, h⟩ := List.exists_of_findSome?_eq_some h
  rw [List.mk_mem_zipIdx_iff_getElem?, Array.getElem?_toList] at hm
  dsimp only at h
  split at h
  · rename_i t' d' h1 h2
    simp only [Option.some.injEq, Prod.mk.injEq] at h
    obtain ⟨rfl, rfl, rfl, rfl⟩ := h
    exact ⟨hm, h1, h2⟩
  · cases h
theorem staticA_iff {ops : Array Oper} {ia m d : Nat} (h : staticA ops ia m d = true) : ia < m ∧ m ≤ ops.size ∧ ∀ (i : Nat) (o : Oper), ops[i]? = some o → o.guard = none ∧ (∀ e, e ∈ o.after.toList → Region.binds .any e = true → e.on < i) ∧ (i < m → d ∉ readsOf ops o) ∧ (m ≤ i → ∀ j, j < i → bitOf (masks ops) i j = true) := by
  unfold staticA at h
  rw [Bool.and_eq_true, Bool.and_eq_true, List.all_eq_true] at h
  obtain ⟨⟨h1, h2⟩, h3⟩ := h
  refine ⟨Nat.le_of_ble_eq_true h1, Nat.le_of_ble_eq_true h2, fun i o ho => ?_⟩
  have k := h3 (o, i) (by rw [List.mk_mem_zipIdx_iff_getElem?, Array.getElem?_toList]; exact ho)
  simp only [Bool.and_eq_true] at k
  obtain ⟨⟨⟨k1, k2⟩, k3⟩, k4⟩ := k
  refine ⟨by simpa using k1, fun e he hb => ?_, fun hi hd => ?_, fun hi j hj => ?_⟩
  · have := List.all_eq_true.1 k2 e he
    rw [hb] at this
    exact Nat.le_of_ble_eq_true (by simpa using this)
  · rcases Bool.or_eq_true _ _ ▸ k3 with k | k
    · have := Nat.le_of_ble_eq_true k; omega
    · have : (readsOf ops o).any (Nat.beq d) = true := List.any_eq_true.2 ⟨d, hd, nbt d⟩
      rw [this] at k; cases k
  · rcases Bool.or_eq_true _ _ ▸ k4 with k | k
    · have := Nat.le_of_ble_eq_true k; omega
    · exact List.all_eq_true.1 k j (List.mem_range.2 hj)
theorem stub_size {ops : Array Oper} {ia m : Nat} {oa : Oper} (hm : m ≤ ops.size) : (stubOps ops ia m oa).size = m := by
  unfold stubOps
  rw [List.size_toArray, List.length_set, List.length_take, Array.length_toList]; omega
theorem stub_get {ops : Array Oper} {ia m i : Nat} {oa : Oper} (hm : m ≤ ops.size) (hi : i < m) (hne : i ≠ ia) : (stubOps ops ia m oa)[i]? = ops[i]? := by
  unfold stubOps
  rw [List.getElem?_toArray, List.getElem?_set_ne (Ne.symm hne), List.getElem?_take, if_pos hi, Array.getElem?_toList]
theorem stub_at {ops : Array Oper} {ia m : Nat} {oa : Oper} (hm : m ≤ ops.size) (hi : ia < m) : (stubOps ops ia m oa)[ia]? = some (stubOp oa) := by
  unfold stubOps
  rw [List.getElem?_toArray, List.getElem?_set_self (by rw [List.length_take, Array.length_toList]; omega)]
theorem readsOf_none {ops ops1 : Array Oper} {o : Oper} (h : o.guard = none) : readsOf ops1 o = readsOf ops o := by
  unfold readsOf; rw [h]
section
variable [Interp] {P : Program} {G : Nat → Option (List AV)} {call : Ab.Call}
theorem ev_stub {oa : Oper} {T : Tm} {s : St} : evOp P G call (stubOp oa) T s = some (.v (.int .i64 0), s) := rfl
theorem drawnA_sound {B0 : Nat} {w0 : World} (hP : NoNum P) (hmix : P.follows .mixedOrders = true) (hcall : CallOk P G B0 w0 call) :
    ∀ ops T s T' s', evDrawnA P G call ops T s = some (T', s') → ∀ (w : World) (M : Mp) (a : Act) (Q : Exit → Act → World → Prop), Sim G B0 w0 w s M → TmR w s M T a →
    (∀ a' w' M', TmR w' s' M' T' a' → Sim G B0 w0 w' s' M' → Ext w s M w' s' M' → Q .normal a' w') → ∀ (ro : Option Nat) t, wpOpsIn (FW ro) 0 P ops Q (Region.schedule (P.follows .mixedOrders) ops t) a w.drew := by
  intro ops T s T' s' h w M a Q hs hT hq ro tape
  unfold evDrawnA at h
  split at h
  · cases h
  · rename_i ia oa ty d hal
    obtain ⟨hoa, hop, hdst⟩ := allocAt_some hal
    dsimp only at h
    generalize firstRead ops d = m at h
    split at h
    case isFalse => cases h
    rename_i hst
    obtain ⟨him, hms, hst⟩ := staticA_iff hst
    split at h
    case h_2 => cases h
    rename_i Tf sf z hG hz
    split at h
    case isFalse => cases h
    rename_i hroom
    split at h
    case h_2 => cases h
    rename_i Tb hTb
    obtain ⟨hstat, gn, gds, gdl, hany⟩ := drawnG_any (fun h => by cases h) hG
    have hback : Back ops := fun i o ho e he hb => (hst i o ho).2.1 e he hb
    have hL := schedule_valid hback tape
    rw [hmix]
    generalize Region.schedule true ops tape = L at hL
    have hga := (hst ia oa hoa).1
    have hs1sz : (stubOps ops ia m oa).size = m := stub_size hms
    have hget1 : ∀ i, i < m → i ≠ ia → (stubOps ops ia m oa)[i]? = ops[i]? := fun i hi hne => stub_get hms hi hne
    have hat1 : (stubOps ops ia m oa)[ia]? = some (stubOp oa) := stub_at hms him
    generalize stubOps ops ia m oa = ops1 at hG hstat hany hs1sz hget1 hat1
    obtain ⟨L1, rfl, hv1⟩ := valid_split hback hms (fun i h1 h2 => (hst i ops[i] (Array.getElem?_eq_getElem h2)).2.2.2 h1) hs1sz (fun i o1 ho1 => by
      have hi : i < m := by rw [← hs1sz]; exact (Array.getElem?_eq_some_iff.1 ho1).1
      by_cases e : i = ia
      · subst e; rw [hat1] at ho1; cases ho1; exact ⟨oa, hoa, rfl⟩
      · rw [hget1 i hi e] at ho1; exact ⟨o1, ho1, rfl⟩) (D := []) (fun j hj => by cases hj) (fun k hk => by cases hk) hL
    obtain ⟨Tx, hrun, hTxn, hTx⟩ := hany L1 hv1
    obtain ⟨v1, v2, v3⟩ := valid_mem hv1
    have hmem : ia ∈ L1 := (v3 ia (by omega)).resolve_left (by simp)
    obtain ⟨L11, L12, rfl⟩ := List.append_of_mem hmem
    have hn1 : ia ∉ L11 ∧ ia ∉ L12 := by
      rw [List.nodup_append] at v2
      obtain ⟨_, n2, n3⟩ := v2
      exact ⟨fun hx => n3 ia hx ia (by simp) rfl, (List.nodup_cons.1 n2).1⟩
    have hin : ∀ i, i ∈ L11 ∨ i ∈ L12 → i < m ∧ i ≠ ia := fun i hi => by
      refine ⟨?_, fun e => ?_⟩
      · rw [← hs1sz]; exact (v1 i (by rcases hi with hi | hi <;> simp [hi])).2
      · subst e; rcases hi with hi | hi
        · exact hn1.1 hi
        · exact hn1.2 hi
    have hcong : ∀ i, i ∈ L11 ∨ i ∈ L12 → ∃ o, ops[i]? = some o ∧ ops1[i]? = some o ∧ o.guard = none := fun i hi => by
      obtain ⟨h1, h2⟩ := hin i hi
      have ho : ops[i]? = some ops[i] := Array.getElem?_eq_getElem (by omega)
      exact ⟨_, ho, by rw [hget1 i h1 h2]; exact ho, (hst i _ ho).1⟩
    obtain ⟨T1, s1, hr1, hr2⟩ := ops0_append hrun
    simp only [evOps0] at hr2
    rw [fetch_of hat1 (gk_none hga)] at hr2
    simp only [wanted_none (o := stubOp oa) hga, if_true, ev_stub] at hr2
    rw [put_pan_of rfl, show (stubOp oa).dst = some d from hdst] at hr2
    cases hp2 : putT T1 (some d) (.v (.int .i64 0)) with
    | none => rw [hp2] at hr2; cases hr2
    | some T2 =>
    rw [hp2] at hr2
    dsimp only at hr2
    obtain ⟨p1, p2, p3⟩ := putT_some hp2
    obtain ⟨T2', hp2'⟩ := putT_of (T := T1) (d := some d) .any p3
    obtain ⟨p1', p2', _⟩ := putT_some hp2'
    have hbut : But d T2 T2' := by
      obtain ⟨a1, a2, a3⟩ := putT_rest hp2
      obtain ⟨b1, b2, b3⟩ := putT_rest hp2'
      exact ⟨by rw [p1', p1], by rw [b1, a1], by rw [b2, a2], by rw [b3, a3], fun t ht => by rw [p2' t, p2 t, if_neg (by simp; exact Ne.symm ht), if_neg (by simp; exact Ne.symm ht)]⟩
    have hnod : ∀ i, i ∈ L11 ∨ i ∈ L12 → ∀ o, ops[i]? = some o → d ∉ readsOf ops o ∧ o.dst ≠ some d := fun i hi o ho => by
      obtain ⟨h1, h2⟩ := hin i hi
      refine ⟨(hst i o ho).2.2.1 h1, fun hd => h2 ?_⟩
      exact (hstat.dst ia (stubOp oa) d hat1 hdst i o (by rw [hget1 i h1 h2]; exact ho) (dstIs_iff.2 hd)).symm
    obtain ⟨T3, hr3, hbut3, _⟩ := ops0_upd (fun i hi o ho => by
      obtain ⟨o', h1, h2, h3⟩ := hcong i (.inr hi)
      rw [h2] at ho; cases ho
      rw [readsOf_none (ops := ops) h3]
      exact hnod i (.inr hi) o h1) hr2 hbut
    have hr1' : evOps0 P G call ops L11 { T with mu := (T.mu.1, true) } s = some (T1, s1) := by rw [ops0_congr (ops1 := ops1) fun i hi => hcong i (.inl hi)]; exact hr1
    have hr3' : evOps0 P G call ops L12 T2' s1 = some (T3, sf) := by rw [ops0_congr (ops1 := ops1) fun i hi => hcong i (.inr hi)]; exact hr3
    rw [List.append_assoc, List.cons_append]
    refine ops0_cont hP hcall hr1' (sim_drew hs) (a := a) ⟨(hT.ext ext_drew).size, (hT.ext ext_drew).get, (hT.ext ext_drew).defers, (hT.ext ext_drew).dlt⟩ fun a1 w1 M1 hT1 hs1 hE1 _ => ?_
    obtain ⟨zv, hz1, hz2⟩ := zeroCells_some hz
    unfold wpOpsIn
    rw [hoa]
    simp only
    rw [if_pos (wanted_none hga)]
    refine ⟨fun _ _ => trivial, ?_⟩
    rw [Oper.semAt_eq _ _ _ (fun c hc => by rw [hop] at hc; cases hc)]
    have hex : (execOp a1.eval oa).run P w1 = .ok (.value (.pointer (some ⟨w1.heap.size, 0, none⟩))) (w1.alloc (.cells zv.cells ty)) := by
      simp [execOp, hop, Instr.alloc, run_zeroValue hz1, newVar, newRow]
    rw [hex, Oper.uponIn_value, hdst]
    have hs1' := shy_sim hs1 (.cells zv.cells ty)
    have hT1' := (hT1.tx (shy_tx (.cells zv.cells ty))).put hp2' (v := .pointer (some ⟨w1.heap.size, 0, none⟩)) (by unfold VR; trivial)
    refine ops0_cont hP hcall hr3' hs1' hT1' fun a3 w3 M3 hT3 hs3 hE3 hk3 => ?_
    have hout : M3.out = fun c off => M1.out c off ∨ c = w1.heap.size := hE3.keep.2.1
    have hb1 : w1.heap.size < (w1.alloc (.cells zv.cells ty)).heap.size := by rw [World.size_alloc]; exact Nat.lt_succ_self _
    have hheap : w3.heap[w1.heap.size]? = some (.cells zv.cells ty) := by
      rw [hE3.frm.blocks w1.heap.size hb1 fun i o hi hg hl e => by have := (hs1.blk i hi).2; have e : M1.blk i = w1.heap.size := e; omega]
      exact heap_new _ _
    have hB : B0 ≤ w1.heap.size := Nat.le_trans hs1.size hs1.below.size
    have hOb : ∀ off, ¬ M1.out w1.heap.size off := fun off => out_new hs1 (Nat.le_refl _)
    have htx := told_tx (w := w3) hroom (.box z (codeOf ty 0)) hout
    have hs4 := told_sim hs3 hroom hout hOb hB hheap (VRl_scAll hz2) (scAll_cells hz2)
    have hT3' := hT3.tx htx
    obtain ⟨q1, q2, q3⟩ := putT_some hTb
    obtain ⟨r1, r2, r3⟩ := putT_rest hTb
    have x1 := (ops0_rest hrun).1
    have x2 := (ops0_rest hrun).2.1
    have hval : a3.tmps.getD d undef = .pointer (some ⟨w1.heap.size, 0, none⟩) := by
      rw [hk3 d fun i hi o ho => (hnod i (.inr hi) o ho).2]
      have := (p3 d rfl).1
      have := hT1.size
      simp only [Act.put]
      rw [Array.getD_eq_getD_getElem?, Array.getElem?_setIfInBounds_self, if_pos (by omega)]; rfl
    have hTb' : TmR w3 (sf.new (.box z (codeOf ty 0))) (M3.told M1.out sf.n w1.heap.size) Tb a3 := by
      refine ⟨?_, fun t => ?_, ?_, ?_⟩
      · rw [hT3.size, hbut3.n, q1, gn, hTxn]
      · rw [q2 t]
        by_cases e : t = d
        · subst e
          rw [if_pos rfl, hval]
          unfold VR
          exact ⟨by simp only [St.new]; omega, by simp [Mp.told, Mp.add]⟩
        · rw [if_neg (by simp; exact Ne.symm e), ← hTx t, ← hbut3.get t e]
          exact hT3'.get t
      · have := hT3'.defers
        rw [hbut3.ds, hbut3.dl, x1, x2] at this
        rw [r1, r2, gds, gdl]
        exact this
      · have := hT3'.dlt
        rw [hbut3.ds, x1] at this
        rw [r1, gds]
        exact this
    have hEmid : Ext w1 s1 M1 w3 (sf.new (.box z (codeOf ty 0))) (M3.told M1.out sf.n w1.heap.size) := by
      refine ⟨fun c off v hc hi => ?_, Nat.le_trans hE3.n htx.n, fun i hi => ?_, fun i tip e hi hg => hE3.rows i tip e hi (htx.rows i tip e (Nat.lt_of_lt_of_le hi hE3.n) hg), ⟨?_, fun c hc hno => ?_, fun i o hi hg hl hlt => ?_⟩, ?_, rfl, ?_⟩
      · obtain ⟨k1, k2⟩ := (shy_tx (w := w1) (s := s1) (M := M1) (.cells zv.cells ty)).cells c off v hc hi
        obtain ⟨k3, k4⟩ := hE3.cells c off v k1 k2
        exact htx.cells c off v k3 k4
      · have k1 := htx.map i (Nat.lt_of_lt_of_le hi hE3.n)
        have k2 := hE3.map i hi
        exact ⟨k1.1.trans k2.1, k1.2.trans k2.2⟩
      · exact Nat.le_trans (Nat.le_of_lt hb1) hE3.frm.size
      · exact (hE3.frm.blocks c (Nat.lt_trans hc hb1) hno).trans (Below.heap_alloc w1 _ c hc)
      · rw [St.get_new _ _ _ (room_lt hroom)] at hg
        simp only [Mp.told, Mp.add] at hlt ⊢
        by_cases e : i = sf.n
        · rw [if_pos e] at hlt; omega
        · rw [if_neg e] at hlt hg
          rw [if_neg e]
          exact hE3.frm.old i o (by simp only [St.new] at hi; omega) hg hl (Nat.lt_trans hlt hb1)
      · exact hE3.keep.1
      · exact hE3.keep.2.2
    have hfin := ops0_cont (l2 := []) hP hcall (ro := ro) (Q := Q) h hs4 hTb' fun a4 w4 M4 hT4 hs5 hE4 _ => by
      show Q .normal a4 w4
      exact hq a4 w4 M4 hT4 hs5 (ext_drew.trans (hE1.trans (hEmid.trans hE4)))
    rwa [List.append_nil] at hfin
theorem drawnB_sound {B0 : Nat} {w0 : World} (hP : NoNum P) (hmix : P.follows .mixedOrders = true) (hcall : CallOk P G B0 w0 call) :
    ∀ ops T s T' s', evDrawnB P G call ops T s = some (T', s') → ∀ (w : World) (M : Mp) (a : Act) (Q : Exit → Act → World → Prop), Sim G B0 w0 w s M → TmR w s M T a →
    (∀ a' w' M', TmR w' s' M' T' a' → Sim G B0 w0 w' s' M' → Ext w s M w' s' M' → Q .normal a' w') → ∀ (ro : Option Nat) t, wpOpsIn (FW ro) 0 P ops Q (Region.schedule (P.follows .mixedOrders) ops t) a w.drew := by
  intro ops T s T' s' h
  unfold evDrawnB at h
  split at h
  · split at h
    · rename_i r hr
      obtain ⟨T2, s2⟩ := r
      cases h
      exact drawnA_sound hP hmix hcall ops T s T' s' hr
    · exact drawn_sound hP hmix hcall ops T s T' s' h
  · exact drawn_sound hP hmix hcall ops T s T' s' h
end
end Go.Ab
