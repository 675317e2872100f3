/- The evaluator's operations against the model's, continued: rows that grow, texts, maps. -/
import Derived.Test.YtaeeblcdggjokaaDoorSxOps2
import Derived.Laws.Append
namespace Go.Ab
set_option linter.unusedVariables false
set_option linter.unusedSimpArgs false
set_option linter.unusedSectionVars false
set_option linter.constructorNameAsVariable false
open Go Go.RowKit

section
variable [Interp] {P : Program} {G : Nat → Option (List AV)} {B0 : Nat} {w0 w : World} {s : St} {M : Mp}

theorem runPure_run {α : Type} : ∀ {e : Sem α} {r : α}, runPure P e = some r → ∀ w : World, e.run P w = .ok r w
  | .pure a, r, h, w => by simp only [runPure, Option.some.injEq] at h; subst h; rfl
  | .program k, r, h, w => by simp only [runPure] at h; simp only [Sem.run]; exact runPure_run h w
  | .mark m k, r, h, w => by simp only [runPure] at h; simp only [Sem.run]; exact runPure_run h w
  | .load _ _ _, _, h, _ | .store _ _ _ _, _, h, _ | .new _ _, _, h, _ | .shape _ _, _, h, _ | .freeze _ _ _, _, h, _ | .frozen _ _, _, h, _ | .getObj _ _, _, h, _
  | .setObj _ _ _, _, h, _ | .choose _ _, _, h, _ | .sys _ _, _, h, _ | .halt _, _, h, _ => by simp [runPure] at h

theorem rho_eq (hs : Sim G B0 w0 w s M) {T : Tm} {a : Act} (hT : TmR w s M T a) {x : Operand} (h : ((opd G T x).bind toValue).isSome = true) : ((opd G T x).bind toValue).getD undef = a.eval x := by
  obtain ⟨v, hv⟩ := Option.isSome_iff_exists.1 h
  rw [hv]
  rw [Option.bind_eq_some_iff] at hv
  obtain ⟨c, h1, h2⟩ := hv
  exact (toValue_some h2 (opd_sound hs hT h1)).symm

theorem s_scalar {o : Oper} {a : Act} {T : Tm} {d : AV} (hs : Sim G B0 w0 w s M) (he : execOp (fun x => ((opd G T x).bind toValue).getD undef) o = execOp a.eval o) (h : scalarOp P G T o = some d) : OpOk P G B0 w0 w s M o a d s := by
  simp only [scalarOp, Option.bind_eq_bind, Option.bind_eq_some_iff] at h
  obtain ⟨r, h1, h2⟩ := h
  rw [he] at h1
  have hr := runPure_run h1 w
  cases r with
  | value v => exact ok_here hs hr (VR_outValue h2)
  | skip => cases h2; exact ok_skip hr hs (Ext.refl _ _ _)
  | _ => cases h2

theorem exec_binOp (hs : Sim G B0 w0 w s M) {T : Tm} {a : Act} (hT : TmR w s M T a) {o : Oper} {op : BinOp} {t yt : TypeId} {x y : Operand} (hop : o.op = .binOp op t x y yt) (h : allScalar G T [x, y] = true) :
    execOp (fun x => ((opd G T x).bind toValue).getD undef) o = execOp a.eval o := by
  simp only [allScalar, List.all_cons, List.all_nil, Bool.and_true, Bool.and_eq_true] at h
  simp only [execOp, hop, rho_eq hs hT h.1, rho_eq hs hT h.2]
theorem exec_unOp (hs : Sim G B0 w0 w s M) {T : Tm} {a : Act} (hT : TmR w s M T a) {o : Oper} {op : UnOp} {t : TypeId} {x : Operand} (hop : o.op = .unOp op t x) (h : allScalar G T [x] = true) :
    execOp (fun x => ((opd G T x).bind toValue).getD undef) o = execOp a.eval o := by
  simp only [allScalar, List.all_cons, List.all_nil, Bool.and_true] at h
  simp only [execOp, hop, rho_eq hs hT h]
theorem exec_convert (hs : Sim G B0 w0 w s M) {T : Tm} {a : Act} (hT : TmR w s M T a) {o : Oper} {t u : TypeId} {x : Operand} (hop : o.op = .convert t u x) (h : allScalar G T [x] = true) :
    execOp (fun x => ((opd G T x).bind toValue).getD undef) o = execOp a.eval o := by
  simp only [allScalar, List.all_cons, List.all_nil, Bool.and_true] at h
  simp only [execOp, hop, rho_eq hs hT h]
theorem exec_index (hs : Sim G B0 w0 w s M) {T : Tm} {a : Act} (hT : TmR w s M T a) {o : Oper} {t : TypeId} {x y : Operand} (hop : o.op = .index t x y) (h : allScalar G T [x, y] = true) :
    execOp (fun x => ((opd G T x).bind toValue).getD undef) o = execOp a.eval o := by
  simp only [allScalar, List.all_cons, List.all_nil, Bool.and_true, Bool.and_eq_true] at h
  simp only [execOp, hop, rho_eq hs hT h.1, rho_eq hs hT h.2]
theorem exec_slice (hs : Sim G B0 w0 w s M) {T : Tm} {a : Act} (hT : TmR w s M T a) {o : Oper} {t : TypeId} {x : Operand} {lo hi : Option Operand} (hop : o.op = .slice t x lo hi none) (h : allScalar G T (x :: (lo.toList ++ hi.toList)) = true) :
    execOp (fun x => ((opd G T x).bind toValue).getD undef) o = execOp a.eval o := by
  simp only [allScalar, List.all_cons, List.all_append, Bool.and_eq_true] at h
  obtain ⟨h1, h2, h3⟩ := h
  have e1 : lo.map (fun x => ((opd G T x).bind toValue).getD undef) = lo.map a.eval := by
    cases lo with
    | none => rfl
    | some l => simp only [Option.toList_some, List.all_cons, List.all_nil, Bool.and_true] at h2; simp only [Option.map_some, rho_eq hs hT h2]
  have e2 : hi.map (fun x => ((opd G T x).bind toValue).getD undef) = hi.map a.eval := by
    cases hi with
    | none => rfl
    | some l => simp only [Option.toList_some, List.all_cons, List.all_nil, Bool.and_true] at h3; simp only [Option.map_some, rho_eq hs hT h3]
  simp only [execOp, hop, rho_eq hs hT h1, e1, e2, Option.map_none]
theorem exec_builtin (hs : Sim G B0 w0 w s M) {T : Tm} {a : Act} (hT : TmR w s M T a) {o : Oper} {c : Go.Call} {b : Builtin} (hop : o.op = .call c) (hc : c.callee = .builtin b) (h : allScalar G T c.args.toList = true) :
    execOp (fun x => ((opd G T x).bind toValue).getD undef) o = execOp a.eval o := by
  have e : c.args.map (fun x => ((opd G T x).bind toValue).getD undef) = c.args.map a.eval := by
    apply Array.map_congr_left
    intro x hx
    simp only [allScalar, List.all_eq_true] at h
    exact rho_eq hs hT (h x (by simpa using hx))
  simp only [execOp, hop, resolve, hc, e]

/-! ### Comparisons with nil -/
theorem eq_ptr1 {t e : TypeId} (hu : P.underlying t = some (.pointer e)) (d : Nat) (a : Addr) : (Op.equalIn (d + 1) t (.pointer (some a)) (.pointer none)).run P w = .ok false w := by
  simp [Op.equalIn, run_underlying hu]
theorem eq_ptr2 {t e : TypeId} (hu : P.underlying t = some (.pointer e)) (d : Nat) (a : Addr) : (Op.equalIn (d + 1) t (.pointer none) (.pointer (some a))).run P w = .ok false w := by
  simp [Op.equalIn, run_underlying hu]
theorem eq_sl {t e : TypeId} (hu : P.underlying t = some (.slice e)) (d : Nat) (a : Addr) (l c : Nat) (l' c' : Nat) : (Op.equalIn (d + 1) t (.slice (some a) l c) (.slice none l' c')).run P w = .ok false w := by
  simp [Op.equalIn, run_underlying hu]
theorem eq_mp {t k e : TypeId} (hu : P.underlying t = some (.map k e)) (d : Nat) (r : Nat) : (Op.equalIn (d + 1) t (.map (some r)) (.map none)).run P w = .ok false w := by
  simp [Op.equalIn, run_underlying hu]
theorem eq_fn {t : TypeId} {ps rs : Array TypeId} {vr : Bool} (hu : P.underlying t = some (.func ps rs vr)) (d : Nat) (f : Fn) (a b : Array Value) : (Op.equalIn (d + 1) t (.func f a b) .nilFunc).run P w = .ok false w := by
  simp [Op.equalIn, run_underlying hu]
theorem eq_iface {t : TypeId} {ms : Array (String × TypeId)} (hu : P.underlying t = some (.interface ms)) (d : Nat) (u : TypeId) (v : Value) : (Op.equalIn (d + 1) t (.iface u v) .nilIface).run P w = .ok false w := by
  simp [Op.equalIn, run_underlying hu]
theorem equal_of {t : TypeId} {x y : Value} {r : Bool} (h : ∀ d, (Op.equalIn (d + 1) t x y).run P w = .ok r w) : (Op.equal t x y).run P w = .ok r w := h 9999

theorem s_eqNil {o : Oper} {a : Act} {T : Tm} {op : BinOp} {t yt : TypeId} {x y : Operand} {c d : AV} {r : Bool} (hs : Sim G B0 w0 w s M) (hT : TmR w s M T a) (hop : o.op = .binOp op t x y yt) (hx : opd G T x = some c) (hy : opd G T y = some d)
    (hr : eqNil P t c d = some r) (ho : op = .eql ∨ op = .neq) : OpOk P G B0 w0 w s M o a (.v (.bool (if op = .eql then r else !r))) s := by
  have h1 := opd_sound hs hT hx
  have h2 := opd_sound hs hT hy
  have key : (Op.equal t (a.eval x) (a.eval y)).run P w = .ok r w ∧ (eqGuard op t x y (a.eval x) (a.eval y)).run P w = .ok () w ∧
      (binOp .eql t (a.eval x) (a.eval y) = (do pure (.bool (← Op.equal t (a.eval x) (a.eval y)))) ∧ binOp .neq t (a.eval x) (a.eval y) = (do pure (.bool (!(← Op.equal t (a.eval x) (a.eval y)))))) := by
    unfold eqNil at hr
    split at hr <;> first | (cases hr; done) | skip
    all_goals
      rename_i hu
      cases hr
      unfold VR at h1 h2
    · obtain ⟨b, off, e1, _⟩ := h1; obtain ⟨e2, _⟩ := h2
      rw [e1, e2]; exact ⟨equal_of fun d => eq_ptr1 hu d _, by rcases ho with rfl | rfl <;> rfl, rfl, rfl⟩
    · obtain ⟨_, e1⟩ := h1; obtain ⟨e2, _⟩ := h2
      rw [e1, e2]; exact ⟨equal_of fun d => eq_ptr1 hu d _, by rcases ho with rfl | rfl <;> rfl, rfl, rfl⟩
    · obtain ⟨b, off, e1, _⟩ := h2; obtain ⟨e2, _⟩ := h1
      rw [e1, e2]; exact ⟨equal_of fun d => eq_ptr2 hu d _, by rcases ho with rfl | rfl <;> rfl, rfl, rfl⟩
    · obtain ⟨_, e1⟩ := h2; obtain ⟨e2, _⟩ := h1
      rw [e1, e2]; exact ⟨equal_of fun d => eq_ptr2 hu d _, by rcases ho with rfl | rfl <;> rfl, rfl, rfl⟩
    · obtain ⟨b, off, cap, e1, _⟩ := h1; obtain ⟨e2, _⟩ := h2
      rw [e1, e2]; exact ⟨equal_of fun d => eq_sl hu d _ _ _ _ _, by rcases ho with rfl | rfl <;> rfl, rfl, rfl⟩
    · obtain ⟨_, cap, _, e1⟩ := h1; obtain ⟨e2, _⟩ := h2
      rw [e1, e2]; exact ⟨equal_of fun d => eq_sl hu d _ _ _ _ _, by rcases ho with rfl | rfl <;> rfl, rfl, rfl⟩
    · obtain ⟨_, _, e1⟩ := h1; obtain ⟨e2, _⟩ := h2
      rw [e1, e2]; exact ⟨equal_of fun d => eq_sl hu d _ _ _ _ _, by rcases ho with rfl | rfl <;> rfl, rfl, rfl⟩
    · obtain ⟨b, off, e1⟩ := h1; obtain ⟨e2, _⟩ := h2
      rw [e1, e2]; exact ⟨equal_of fun d => eq_sl hu d _ _ _ _ _, by rcases ho with rfl | rfl <;> rfl, rfl, rfl⟩
    · obtain ⟨_, e1⟩ := h1; obtain ⟨e2, _⟩ := h2
      rw [e1, e2]; exact ⟨equal_of fun d => eq_mp hu d _, by rcases ho with rfl | rfl <;> rfl, rfl, rfl⟩
    · obtain ⟨f', a', b', e1, _⟩ := h1; obtain ⟨e2, _⟩ := h2
      rw [e1, e2]; exact ⟨equal_of fun d => eq_fn hu d _ _ _, by rcases ho with rfl | rfl <;> rfl, rfl, rfl⟩
    · obtain ⟨_, e1, _⟩ := h1; obtain ⟨e2, _⟩ := h2
      rw [e1, e2]; exact ⟨equal_of fun d => eq_iface hu d _ _, by rcases ho with rfl | rfl <;> rfl, rfl, rfl⟩
  obtain ⟨k1, k2, k3, k4⟩ := key
  refine ok_here hs (v := .bool (if op = .eql then r else !r)) ?_ (VR_v_of rfl)
  rcases ho with rfl | rfl
  · simp only [execOp, hop, Sem.run_bind, k2, Result.andThen_ok, k3, k1, Sem.run_pure, if_true]
  · simp only [execOp, hop, Sem.run_bind, k2, Result.andThen_ok, k4, k1, Sem.run_pure]
    rfl

/-! ### Rows -/
theorem imm_row (hs : Sim G B0 w0 w s M) {r : Nat} {tip : Tip} {esz : Nat} (hr : r < s.n) (hg : s.get r = some (.row tip esz)) {i : Nat} (hi : i < tip.val M.env) : Imm s M (M.blk r) i := by
  refine ⟨?_, out_own hs hr⟩
  intro j o hj hgj hb
  cases o with
  | dead => trivial
  | row t e => have := hs.inj j r _ _ hj hr hgj hg trivial trivial hb; subst this; rw [hg] at hgj; cases hgj; exact hi
  | box cs esz => have := hs.inj j r _ _ hj hr hgj hg trivial trivial hb; subst this; rw [hg] at hgj; cases hgj
  | fz cs esz => have := hs.inj j r _ _ hj hr hgj hg trivial trivial hb; subst this; rw [hg] at hgj; cases hgj
  | map es => have := hs.inj j r _ _ hj hr hgj hg trivial trivial hb; subst this; rw [hg] at hgj; cases hgj
  | loop _ _ _ _ _ _ => have := hs.inj j r _ _ hj hr hgj hg trivial trivial hb; subst this; rw [hg] at hgj; cases hgj
  | defs => have := hs.inj j r _ _ hj hr hgj hg trivial trivial hb; subst this; rw [hg] at hgj; cases hgj
  | sym _ => have := hs.inj j r _ _ hj hr hgj hg trivial trivial hb; subst this; rw [hg] at hgj; cases hgj
theorem VRs_row (hs : Sim G B0 w0 w s M) {r : Nat} {tip : Tip} {esz : Nat} (hr : r < s.n) (hg : s.get r = some (.row tip esz)) {c : Array Value} {e : TypeId} {fr : Nat × Nat} (hc : w.heap[M.blk r]? = some (.cells c e fr)) {cs : List AV}
    (hv : VRl w s M cs (c.toList.take cs.length)) (hl : cs.length ≤ tip.val M.env) (ha : cs.all isCell = true) : VRs w s M cs (M.blk r) 0 := by
  refine VRs.of_get fun i x hi => ?_
  have hlt : i < cs.length := (List.getElem?_eq_some_iff.1 hi).1
  rcases hv.get i with ⟨h1, _⟩ | ⟨c', v, h1, h2, h3⟩
  · rw [h1] at hi; cases hi
  · rw [h1] at hi; cases hi
    rw [List.getElem?_take, if_pos hlt, Array.getElem?_toList] at h2
    refine ⟨v, ?_, h3, (List.all_eq_true.1 ha) _ (List.mem_of_getElem? h1), imm_row hs hr hg (by omega)⟩
    simp only [Nat.zero_add, World.cell?, hc]
    exact h2

/-- A row grows where it stands. -/
theorem grow_in (hs : Sim G B0 w0 w s M) (hroom : s.room = true) {t : Nat} {tip tip' : Tip} {esz : Nat} (ht : t < s.n) (hg : s.get t = some (.row tip esz)) (htip : tip.val M.env ≤ tip'.val M.env) {w' : World} {c c' : Array Value} {e : TypeId} {fr : Nat × Nat}
    (hc : w.heap[M.blk t]? = some (.cells c e fr)) (hc' : w'.heap[M.blk t]? = some (.cells c' e fr)) (hsz : c'.size = c.size) (hle : tip'.val M.env ≤ c.size) (hsame : ∀ i, i < tip.val M.env → c'[i]? = c[i]?)
    (hw : ∀ k, k ≠ M.blk t → w'.heap[k]? = w.heap[k]?) (hbel : Below B0 w0 w') (hws : w'.heap.size = w.heap.size) :
    Sim G B0 w0 w' ((s.put t .dead).new (.row tip' esz)) (M.add s.n (M.blk t) (M.cap t)) ∧ Ext w s M w' ((s.put t .dead).new (.row tip' esz)) (M.add s.n (M.blk t) (M.cap t)) := by
  have hlid := room_lt hroom
  have htl : t < Tr.lid := by omega
  have hget : ∀ i, ((s.put t .dead).new (.row tip' esz)).get i = if i = s.n then some (.row tip' esz) else if i = t then some .dead else s.get i := fun i => by
    rw [St.get_new _ _ _ (by simpa [St.put] using hlid), St.get_put _ _ _ _ htl]; rfl
  have hn : ((s.put t .dead).new (.row tip' esz)).n = s.n + 1 := rfl
  have hne : t ≠ s.n := Nat.ne_of_lt ht
  have hE : Ext w s M w' ((s.put t .dead).new (.row tip' esz)) (M.add s.n (M.blk t) (M.cap t)) := by
    refine ⟨fun b off v hcv hi => ⟨?_, fun i o hin hgi hbk => ?_, hi.2⟩, by rw [hn]; omega, fun i hi => by simp only [Mp.add, if_neg (Nat.ne_of_lt hi), and_self], fun i tp e' hi hgi => ?_, ⟨by rw [hws]; exact Nat.le_refl _, fun b _ hno => hw b fun e => hno t _ ht hg trivial e.symm, fun i o hi hgi hl hlt => ?_⟩, rfl, rfl, rfl⟩
    · by_cases eb : b = M.blk t
      · subst eb
        have hoff : off < tip.val M.env := hi.1 t _ ht hg rfl
        simp only [World.cell?, hc] at hcv
        simp only [World.cell?, hc']
        rw [← hcv]; simpa using hsame off hoff
      · exact (World.cell?_of_block (w := w) (w' := w') (hw b eb)).trans hcv
    · rw [hget] at hgi
      by_cases e1 : i = s.n
      · subst e1; rw [if_pos rfl] at hgi; cases hgi
        simp only [Mp.add, if_true] at hbk
        have : off < tip.val M.env := hi.1 t _ ht hg hbk
        show off < tip'.val M.env; omega
      · rw [if_neg e1] at hgi
        simp only [Mp.add, if_neg e1] at hbk
        by_cases e2 : i = t
        · rw [if_pos e2] at hgi; cases hgi; trivial
        · rw [if_neg e2] at hgi; exact hi.1 i o (by omega) hgi hbk
    · rw [hget, if_neg (Nat.ne_of_lt hi)] at hgi
      by_cases e2 : i = t
      · rw [if_pos e2] at hgi; cases hgi
      · rw [if_neg e2] at hgi; exact hgi
    · rw [hget] at hgi
      rw [hn] at hi
      simp only [Mp.add] at hlt ⊢
      by_cases e1 : i = s.n
      · exact ⟨t, _, ht, hg, trivial, by rw [if_pos e1]⟩
      · rw [if_neg e1] at hgi
        by_cases e2 : i = t
        · rw [if_pos e2] at hgi; cases hgi; exact hl.elim
        · rw [if_neg e2] at hgi
          exact ⟨i, o, by omega, hgi, hl, by rw [if_neg e1]⟩
  refine ⟨⟨hbel, hs.size, by rw [hn]; omega, fun i hi => ?_, fun i j oi oj hi hj gi gj li lj eb => ?_, fun i o hi hgi => ?_, fun g cs hgl => (hs.glob g cs hgl).ext hE, hs.fx, fun b off ho => ⟨by have h1 := (hs.out b off ho).1; omega, fun i hi => by
    simp only [Mp.add]
    rw [hn] at hi
    by_cases e1 : i = s.n
    · rw [if_pos e1]; exact (hs.out b off ho).2 t ht
    · rw [if_neg e1]; exact (hs.out b off ho).2 i (by omega)⟩⟩, hE⟩
  · rw [hws]; simp only [Mp.add]
    by_cases e1 : i = s.n
    · rw [if_pos e1]; exact hs.blk t ht
    · rw [if_neg e1]; exact hs.blk i (by omega)
  · rw [hget] at gi gj
    simp only [Mp.add] at eb
    by_cases e1 : i = s.n <;> by_cases e2 : j = s.n
    · omega
    · rw [if_pos e1, if_neg e2] at eb
      rw [if_neg e2] at gj
      by_cases e3 : j = t
      · rw [if_pos e3] at gj; cases gj; exact lj.elim
      · rw [if_neg e3] at gj; exact absurd (hs.inj j t _ _ (by omega) ht gj hg lj trivial eb.symm) e3
    · rw [if_neg e1, if_pos e2] at eb
      rw [if_neg e1] at gi
      by_cases e3 : i = t
      · rw [if_pos e3] at gi; cases gi; exact li.elim
      · rw [if_neg e3] at gi; exact absurd (hs.inj i t _ _ (by omega) ht gi hg li trivial eb) e3
    · rw [if_neg e1] at gi; rw [if_neg e2] at gj; rw [if_neg e1, if_neg e2] at eb
      by_cases e3 : i = t
      · rw [if_pos e3] at gi; cases gi; exact li.elim
      · by_cases e4 : j = t
        · rw [if_pos e4] at gj; cases gj; exact lj.elim
        · rw [if_neg e3] at gi; rw [if_neg e4] at gj; exact hs.inj i j _ _ (by omega) (by omega) gi gj li lj eb
  · rw [hget] at hgi
    obtain ⟨c0, e0', fr0, a1, a2, a3, a4⟩ := hs.obj t _ ht hg
    rw [hc] at a1; cases a1
    by_cases e1 : i = s.n
    · subst e1; rw [if_pos rfl] at hgi; cases hgi
      simp only [Mp.add, if_true]
      exact ⟨c', e, fr, hc', by rw [hsz]; exact a2, by show tip'.val M.env ≤ _; omega, by rw [hsz]; exact a4⟩
    · rw [if_neg e1] at hgi
      simp only [Mp.add, if_neg e1]
      by_cases e2 : i = t
      · rw [if_pos e2] at hgi; cases hgi; trivial
      · rw [if_neg e2] at hgi
        have ho := hs.obj i o (by omega) hgi
        cases o with
        | dead => trivial
        | box cs esz' =>
          have hne : M.blk i ≠ M.blk t := fun e' => e2 (hs.inj i t _ _ (by omega) ht hgi hg trivial trivial e')
          obtain ⟨c, e', fr, a1, a2, a3⟩ := ho; exact ⟨c, e', fr, (hw _ hne).trans a1, a2.ext hE, a3⟩
        | fz cs esz' =>
          have hne : M.blk i ≠ M.blk t := fun e' => e2 (hs.inj i t _ _ (by omega) ht hgi hg trivial trivial e')
          obtain ⟨c, e', fr, a1, a2, a3⟩ := ho; exact ⟨c, e', fr, (hw _ hne).trans a1, a2.ext hE, a3⟩
        | row tip esz =>
          have hne : M.blk i ≠ M.blk t := fun e' => e2 (hs.inj i t _ _ (by omega) ht hgi hg trivial trivial e')
          obtain ⟨c, e', fr, a1, a2⟩ := ho; exact ⟨c, e', fr, (hw _ hne).trans a1, a2⟩
        | map es =>
          have hne : M.blk i ≠ M.blk t := fun e' => e2 (hs.inj i t _ _ (by omega) ht hgi hg trivial trivial e')
          obtain ⟨c, k, a1, a2⟩ := ho; exact ⟨c, k, (hw _ hne).trans a1, a2.ext hE⟩
        | loop T ps asg body st pend =>
          have hne : M.blk i ≠ M.blk t := fun e' => e2 (hs.inj i t _ _ (by omega) ht hgi hg trivial trivial e')
          obtain ⟨rc, a1, a2, a3, a4, a5, a6, a7, a8⟩ := ho; exact ⟨rc, (hw _ hne).trans a1, a2, a3, a4, a5, a6, a7, fun t => (a8 t).ext hE⟩
        | defs =>
          have hne : M.blk i ≠ M.blk t := fun e' => e2 (hs.inj i t _ _ (by omega) ht hgi hg trivial trivial e')
          exact (hw _ hne).trans ho
        | sym k =>
          have hne : M.blk i ≠ M.blk t := fun e' => e2 (hs.inj i t _ _ (by omega) ht hgi hg trivial trivial e')
          show SymR _ _ _ _; rw [hw _ hne]; exact ho

theorem grow_box (hs : Sim G B0 w0 w s M) (hroom : s.room = true) {t esz : Nat} (hk0 : esz % tyBase ≠ 0) {cs cs' : List AV} (ht : t < s.n) (hg : s.get t = some (.box cs esz)) {w' : World} {c c' : Array Value} {e : TypeId} {fr : Nat × Nat}
    (hc : w.heap[M.blk t]? = some (.cells c e fr)) (hc' : w'.heap[M.blk t]? = some (.cells c' e fr)) (hsz : c'.size = c.size) (hv : VRl w s M cs' (c'.toList.take cs'.length)) (hac : cs'.all isCell = true)
    (hw : ∀ k, k ≠ M.blk t → w'.heap[k]? = w.heap[k]?) (hbel : Below B0 w0 w') (hws : w'.heap.size = w.heap.size) :
    Sim G B0 w0 w' ((s.put t .dead).new (.box cs' esz)) (M.add s.n (M.blk t) (M.cap t)) ∧ Ext w s M w' ((s.put t .dead).new (.box cs' esz)) (M.add s.n (M.blk t) (M.cap t)) := by
  have hlid := room_lt hroom
  have htl : t < Tr.lid := by omega
  have hget : ∀ i, ((s.put t .dead).new (.box cs' esz)).get i = if i = s.n then some (.box cs' esz) else if i = t then some .dead else s.get i := fun i => by
    rw [St.get_new _ _ _ (by simpa [St.put] using hlid), St.get_put _ _ _ _ htl]; rfl
  have hn : ((s.put t .dead).new (.box cs' esz)).n = s.n + 1 := rfl
  have hne : t ≠ s.n := Nat.ne_of_lt ht
  have hE : Ext w s M w' ((s.put t .dead).new (.box cs' esz)) (M.add s.n (M.blk t) (M.cap t)) := by
    refine ⟨fun b off v hcv hi => ⟨?_, fun i o hin hgi hbk => ?_, hi.2⟩, by rw [hn]; omega, fun i hi => by simp only [Mp.add, if_neg (Nat.ne_of_lt hi), and_self], fun i tp e' hi hgi => ?_, ⟨by rw [hws]; exact Nat.le_refl _, fun b _ hno => hw b fun e => hno t _ ht hg trivial e.symm, fun i o hi hgi hl hlt => ?_⟩, rfl, rfl, rfl⟩
    · by_cases eb : b = M.blk t
      · subst eb
        exact (hi.1 t _ ht hg rfl).elim
      · exact (World.cell?_of_block (w := w) (w' := w') (hw b eb)).trans hcv
    · rw [hget] at hgi
      by_cases e1 : i = s.n
      · subst e1; rw [if_pos rfl] at hgi; cases hgi
        simp only [Mp.add, if_true] at hbk
        exact (hi.1 t _ ht hg hbk).elim
      · rw [if_neg e1] at hgi
        simp only [Mp.add, if_neg e1] at hbk
        by_cases e2 : i = t
        · rw [if_pos e2] at hgi; cases hgi; trivial
        · rw [if_neg e2] at hgi; exact hi.1 i o (by omega) hgi hbk
    · rw [hget, if_neg (Nat.ne_of_lt hi)] at hgi
      by_cases e2 : i = t
      · rw [if_pos e2] at hgi; cases hgi
      · rw [if_neg e2] at hgi; exact hgi
    · rw [hget] at hgi
      rw [hn] at hi
      simp only [Mp.add] at hlt ⊢
      by_cases e1 : i = s.n
      · exact ⟨t, _, ht, hg, trivial, by rw [if_pos e1]⟩
      · rw [if_neg e1] at hgi
        by_cases e2 : i = t
        · rw [if_pos e2] at hgi; cases hgi; exact hl.elim
        · rw [if_neg e2] at hgi
          exact ⟨i, o, by omega, hgi, hl, by rw [if_neg e1]⟩
  refine ⟨⟨hbel, hs.size, by rw [hn]; omega, fun i hi => ?_, fun i j oi oj hi hj gi gj li lj eb => ?_, fun i o hi hgi => ?_, fun g cs hgl => (hs.glob g cs hgl).ext hE, hs.fx, fun b off ho => ⟨by have h1 := (hs.out b off ho).1; omega, fun i hi => by
    simp only [Mp.add]
    rw [hn] at hi
    by_cases e1 : i = s.n
    · rw [if_pos e1]; exact (hs.out b off ho).2 t ht
    · rw [if_neg e1]; exact (hs.out b off ho).2 i (by omega)⟩⟩, hE⟩
  · rw [hws]; simp only [Mp.add]
    by_cases e1 : i = s.n
    · rw [if_pos e1]; exact hs.blk t ht
    · rw [if_neg e1]; exact hs.blk i (by omega)
  · rw [hget] at gi gj
    simp only [Mp.add] at eb
    by_cases e1 : i = s.n <;> by_cases e2 : j = s.n
    · omega
    · rw [if_pos e1, if_neg e2] at eb
      rw [if_neg e2] at gj
      by_cases e3 : j = t
      · rw [if_pos e3] at gj; cases gj; exact lj.elim
      · rw [if_neg e3] at gj; exact absurd (hs.inj j t _ _ (by omega) ht gj hg lj trivial eb.symm) e3
    · rw [if_neg e1, if_pos e2] at eb
      rw [if_neg e1] at gi
      by_cases e3 : i = t
      · rw [if_pos e3] at gi; cases gi; exact li.elim
      · rw [if_neg e3] at gi; exact absurd (hs.inj i t _ _ (by omega) ht gi hg li trivial eb) e3
    · rw [if_neg e1] at gi; rw [if_neg e2] at gj; rw [if_neg e1, if_neg e2] at eb
      by_cases e3 : i = t
      · rw [if_pos e3] at gi; cases gi; exact li.elim
      · by_cases e4 : j = t
        · rw [if_pos e4] at gj; cases gj; exact lj.elim
        · rw [if_neg e3] at gi; rw [if_neg e4] at gj; exact hs.inj i j _ _ (by omega) (by omega) gi gj li lj eb
  · rw [hget] at hgi
    obtain ⟨c0, e0', fr0, a1, a2, a3, a4, a5⟩ := hs.obj t _ ht hg
    rw [hc] at a1; cases a1
    by_cases e1 : i = s.n
    · subst e1; rw [if_pos rfl] at hgi; cases hgi
      simp only [Mp.add, if_true]
      exact ⟨c', e, fr, hc', hv.ext hE, hac, by rw [hsz]; exact a4, fun h0 => by rw [hsz]; exact a5.1 h0, fun h0 => ⟨(a5.2 h0).1, fun h1 => absurd h1 hk0⟩⟩
    · rw [if_neg e1] at hgi
      simp only [Mp.add, if_neg e1]
      by_cases e2 : i = t
      · rw [if_pos e2] at hgi; cases hgi; trivial
      · rw [if_neg e2] at hgi
        have ho := hs.obj i o (by omega) hgi
        cases o with
        | dead => trivial
        | box cs esz' =>
          have hne : M.blk i ≠ M.blk t := fun e' => e2 (hs.inj i t _ _ (by omega) ht hgi hg trivial trivial e')
          obtain ⟨c, e', fr, a1, a2, a3⟩ := ho; exact ⟨c, e', fr, (hw _ hne).trans a1, a2.ext hE, a3⟩
        | fz cs esz' =>
          have hne : M.blk i ≠ M.blk t := fun e' => e2 (hs.inj i t _ _ (by omega) ht hgi hg trivial trivial e')
          obtain ⟨c, e', fr, a1, a2, a3⟩ := ho; exact ⟨c, e', fr, (hw _ hne).trans a1, a2.ext hE, a3⟩
        | row tip esz =>
          have hne : M.blk i ≠ M.blk t := fun e' => e2 (hs.inj i t _ _ (by omega) ht hgi hg trivial trivial e')
          obtain ⟨c, e', fr, a1, a2⟩ := ho; exact ⟨c, e', fr, (hw _ hne).trans a1, a2⟩
        | map es =>
          have hne : M.blk i ≠ M.blk t := fun e' => e2 (hs.inj i t _ _ (by omega) ht hgi hg trivial trivial e')
          obtain ⟨c, k, a1, a2⟩ := ho; exact ⟨c, k, (hw _ hne).trans a1, a2.ext hE⟩
        | loop T ps asg body st pend =>
          have hne : M.blk i ≠ M.blk t := fun e' => e2 (hs.inj i t _ _ (by omega) ht hgi hg trivial trivial e')
          obtain ⟨rc, a1, a2, a3, a4, a5, a6, a7, a8⟩ := ho; exact ⟨rc, (hw _ hne).trans a1, a2, a3, a4, a5, a6, a7, fun t => (a8 t).ext hE⟩
        | defs =>
          have hne : M.blk i ≠ M.blk t := fun e' => e2 (hs.inj i t _ _ (by omega) ht hgi hg trivial trivial e')
          exact (hw _ hne).trans ho
        | sym k =>
          have hne : M.blk i ≠ M.blk t := fun e' => e2 (hs.inj i t _ _ (by omega) ht hgi hg trivial trivial e')
          show SymR _ _ _ _; rw [hw _ hne]; exact ho

theorem heldBy_sound (hs : Sim G B0 w0 w s M) {size n : Nat} {c : AV} {ys : List AV} {v : Value} (h : heldBy s size c = some (ys, n)) (hv : VR w s M c v) (hl : ys.length = n * size) :
    ∃ vs, VRl w s M ys vs ∧ (∀ W : World, (Builtin.lenOf v).run P W = .ok n W) ∧ (Builtin.firstCells size n v).run P w = .ok vs.toArray w ∧ (Builtin.firstCells size n v).run P w.drew = .ok vs.toArray w.drew := by
  unfold heldBy at h
  split at h
  · simp only [Option.some.injEq, Prod.mk.injEq] at h
    obtain ⟨rfl, rfl⟩ := h
    obtain ⟨rfl, hsc⟩ := VR_v.1 hv
    have : ∀ l k, scalar (.slice none l k) = true → l = 0 := fun l k h => by simp only [scalar, Bool.and_eq_true] at h; exact nbe h.1
    have := this _ _ hsc; subst this
    exact ⟨[], VRl_nil, fun W => by simp [Builtin.lenOf], by simp [Builtin.firstCells], by simp [Builtin.firstCells]⟩
  · simp only [Option.some.injEq, Prod.mk.injEq] at h
    obtain ⟨rfl, rfl⟩ := h
    unfold VR at hv; obtain ⟨b, off, rfl⟩ := hv
    refine ⟨[], VRl_nil, fun W => by simp [Builtin.lenOf], ?_, ?_⟩
    · have := run_firstCells_some (P := P) w size 0 ⟨b, off, none⟩ 0 0 [] (by simp) (by simp); simpa using this
    · have := run_firstCells_some (P := P) w.drew size 0 ⟨b, off, none⟩ 0 0 [] (by simp) (by simp); simpa using this
  · rename_i cs len tok
    split at h
    · simp only [Option.some.injEq, Prod.mk.injEq] at h
      obtain ⟨rfl, rfl⟩ := h
      unfold VR at hv; obtain ⟨b, off, cap, rfl, hle, hv, _⟩ := hv
      obtain ⟨vs, h1, h2⟩ := (hv.take (len * size)).vals
      have hlen : vs.length = len * size := by rw [← h1.length, hl]
      refine ⟨vs, h1, fun W => by simp [Builtin.lenOf], ?_, ?_⟩
      · exact run_firstCells_some (P := P) w size len ⟨b, off, none⟩ len cap vs hlen fun j x hj => by rw [add_eq]; exact h2 j x hj
      · exact run_firstCells_some (P := P) w.drew size len ⟨b, off, none⟩ len cap vs hlen fun j x hj => by rw [add_eq]; exact h2 j x hj
    · cases h
  · rename_i b off len
    split at h
    · rename_i c esz hg
      split at h
      · simp only [Option.some.injEq, Prod.mk.injEq] at h
        obtain ⟨rfl, rfl⟩ := h
        unfold VR at hv; obtain ⟨hb, cap, hle, rfl⟩ := hv
        obtain ⟨d, e, fr, h1, h2, _⟩ := hs.obj b _ hb hg
        have ha := (((at_block h1).take c.length).drop off).take (len * size)
        rw [Nat.zero_add] at ha
        have hvl := (h2.drop off).take (len * size)
        have hlen : (((d.toList.take c.length).drop off).take (len * size)).length = len * size := by rw [← hvl.length, hl]
        refine ⟨_, hvl, fun W => by simp [Builtin.lenOf], ?_, ?_⟩
        · exact run_firstCells_some (P := P) w size len ⟨M.blk b, off, none⟩ len cap _ hlen fun j x hj => by rw [add_eq]; exact ha j x hj
        · exact run_firstCells_some (P := P) w.drew size len ⟨M.blk b, off, none⟩ len cap _ hlen fun j x hj => by rw [add_eq]; exact ha j x hj
      · cases h
    · cases h
  · rename_i b len
    split at h
    · rename_i c esz hg
      split at h
      · simp only [Option.some.injEq, Prod.mk.injEq] at h
        obtain ⟨rfl, rfl⟩ := h
        unfold VR at hv; obtain ⟨hb, hle, rfl⟩ := hv
        obtain ⟨d, e, fr, h1, h2, _⟩ := hs.obj b _ hb hg
        have ha := ((at_block h1).take c.length).take (len * size)
        have hvl := h2.take (len * size)
        have hlen : ((d.toList.take c.length).take (len * size)).length = len * size := by rw [← hvl.length, hl]
        refine ⟨_, hvl, fun W => by simp [Builtin.lenOf], ?_, ?_⟩
        · exact run_firstCells_some (P := P) w size len ⟨M.blk b, 0, none⟩ len (M.cap b) _ hlen fun j x hj => by rw [add_eq]; exact ha j x hj
        · exact run_firstCells_some (P := P) w.drew size len ⟨M.blk b, 0, none⟩ len (M.cap b) _ hlen fun j x hj => by rw [add_eq]; exact ha j x hj
      · cases h
    · cases h
  · rename_i x
    split at h
    · simp only [Option.some.injEq, Prod.mk.injEq] at h
      obtain ⟨rfl, rfl⟩ := h
      obtain ⟨rfl, _⟩ := VR_v.1 hv
      have e : (x.extract 0 x.size).data.map (fun b => Value.int .u8 b.toNat) = (x.data.toList.map fun b => Value.int .u8 b.toNat).toArray := by
        rw [ByteArray.extract_zero_size]
        apply Array.toList_inj.1; simp
      refine ⟨x.data.toList.map fun b => .int .u8 b.toNat, ?_, fun W => by simp [Builtin.lenOf], ?_, ?_⟩
      · refine VRl.of_get (by simp) fun i c v h1 h2 => ?_
        simp only [List.getElem?_map, Option.map_eq_some_iff] at h1 h2
        obtain ⟨b1, hb1, rfl⟩ := h1
        obtain ⟨b2, hb2, rfl⟩ := h2
        rw [hb1] at hb2; cases hb2
        exact VR_v_of rfl
      · simp only [Builtin.firstCells]; rw [e]; rfl
      · simp only [Builtin.firstCells]; rw [e]; rfl
    · cases h
  · cases h
end
end Go.Ab
