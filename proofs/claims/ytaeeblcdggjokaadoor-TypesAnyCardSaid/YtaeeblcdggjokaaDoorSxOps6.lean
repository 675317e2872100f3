/- The evaluator's operations against the model's, the last: lengths, slices, maps, copies, structs built. -/
import Derived.Test.YtaeeblcdggjokaaDoorSxOps5
import Derived.Laws.Slices
namespace Go.Ab
set_option linter.unusedVariables false
set_option linter.unusedSimpArgs false
set_option linter.unusedSectionVars false
set_option linter.constructorNameAsVariable false
open Go Go.RowKit

section
variable [Interp] {P : Program} {G : Nat → Option (List AV)} {B0 : Nat} {w0 w : World} {s : St} {M : Mp}

/-! ### A row's letters lent to a text -/
theorem s_refreeze {o : Oper} {a : Act} {T : Tm} {t0 e e2 : TypeId} {x : Operand} {cs : List AV} {len t esz : Nat} {tip : Tip} (hs : Sim G B0 w0 w s M) (hT : TmR w s M T a) (hop : o.op = .convert t0 t0 x) (h1 : P.underlying t0 = some (.slice e)) (h2 : P.underlying t0 = some (.slice e2))
    (h3 : P.underlying e = some (.int .u8)) (hx : opd G T x = some (.sl cs len (some t))) (hg : s.get t = some (.row tip esz)) :
    OpOk P G B0 w0 w s M o a (.sl cs len (some t)) (s.put t (.row tip esz)) := by
  have vx := opd_sound hs hT hx
  have vx' := vx
  unfold VR at vx
  obtain ⟨b, off, cap, ex, hle, hv, htok⟩ := vx
  obtain ⟨ht, htok⟩ := htok t rfl
  obtain ⟨rfl, rfl, rfl⟩ := htok _ _ hg
  obtain ⟨c, ec, fr, a1, a2, a3, a4⟩ := hs.obj t _ ht hg
  have hlt := (hs.blk t ht).2
  have htl : t < Tr.lid := Nat.lt_of_lt_of_le ht hs.bound
  let fr' : Nat × Nat := if fr.1 == fr.2 then (c.size, c.size + 1) else (min fr.1 c.size, max fr.2 (c.size + 1))
  have hfr' : Free fr' c.size := by
    simp only [fr']
    split
    · exact .inr (Nat.le_refl _)
    · rename_i hne
      have hne : fr.1 ≠ fr.2 := by simpa using hne
      rcases a4 with h | h
      · exact absurd h hne
      · exact .inr (by simp only; omega)
  let w' := w.freeze ⟨M.blk t, c.size, none⟩ 1
  have hb1 : w'.heap[M.blk t]? = some (.cells c ec fr') := by
    simp only [w', World.freeze]
    rw [if_neg (by decide)]
    simp only [Array.getElem?_modify, if_true, a1, Option.map_some]
    rfl
  have hb2 : ∀ k, k ≠ M.blk t → w'.heap[k]? = w.heap[k]? := fun k hk => by
    simp only [w', World.freeze]
    rw [if_neg (by decide)]
    simp only [Array.getElem?_modify]
    rw [if_neg (Ne.symm hk)]
  have hb3 : w'.heap.size = w.heap.size := by
    simp only [w', World.freeze]
    rw [if_neg (by decide)]
    simp
  have hbel : Below B0 w w' := ⟨by simp only [w', World.freeze]; rw [if_neg (by decide)], by simp only [w', World.freeze]; rw [if_neg (by decide)], by simp only [w', World.freeze]; rw [if_neg (by decide)], Nat.le_of_eq hb3.symm,
    fun k hk => hb2 k (by have := (hs.blk t ht).1; omega)⟩
  have hcell : ∀ b off, w'.cell? ⟨b, off, none⟩ = w.cell? ⟨b, off, none⟩ := fun b off => by
    by_cases e1 : b = M.blk t
    · subst e1; simp only [World.cell?, hb1, a1]
    · exact World.cell?_of_block (w := w) (w' := w') (hb2 b e1)
  have hget : ∀ i, (s.put t (.row tip esz)).get i = s.get i := fun i => by
    rw [St.get_put _ _ _ _ htl]
    by_cases e1 : i = t
    · subst e1; rw [if_pos rfl, hg]
    · rw [if_neg e1]
  have hE : Ext w s M w' (s.put t (.row tip esz)) M := ⟨fun b off v h1 h2 => ⟨by rw [hcell]; exact h1, fun i o hi hgi hbk => h2.1 i o hi (by rw [← hget]; exact hgi) hbk, h2.2⟩, Nat.le_refl _, fun _ _ => ⟨rfl, rfl⟩, fun i tp e' _ hgi => by rw [← hget]; exact hgi, ⟨by omega, fun b _ hno => hb2 b fun e => hno t _ ht hg trivial e.symm, fun i o hi hgi hl _ => ⟨i, o, hi, by rw [← hget]; exact hgi, hl, rfl⟩⟩, rfl, rfl, rfl⟩
  have hs' : Sim G B0 w0 w' (s.put t (.row tip esz)) M := by
    refine ⟨hs.below.trans hbel, hs.size, hs.bound, fun i hi => by rw [hb3]; exact hs.blk i hi, fun i j oi oj hi hj gi gj => hs.inj i j oi oj hi hj (by rw [← hget]; exact gi) (by rw [← hget]; exact gj), fun i o hi hgi => ?_, fun g cs hgl => (hs.glob g cs hgl).ext hE, hs.fx, hs.outw (by omega)⟩
    rw [hget] at hgi
    have ho := hs.obj i o hi hgi
    by_cases e1 : i = t
    · subst e1; rw [hg] at hgi; cases hgi
      exact ⟨c, ec, fr', hb1, a2, a3, hfr'⟩
    · cases o with
      | dead => trivial
      | box cs =>
        have hne : M.blk i ≠ M.blk t := fun e' => e1 (hs.inj i t _ _ hi ht hgi hg trivial trivial e')
        obtain ⟨c, e', fr, a1, a2, a3⟩ := ho; exact ⟨c, e', fr, (hb2 _ hne).trans a1, a2.ext hE, a3⟩
      | fz cs =>
        have hne : M.blk i ≠ M.blk t := fun e' => e1 (hs.inj i t _ _ hi ht hgi hg trivial trivial e')
        obtain ⟨c, e', fr, a1, a2, a3⟩ := ho; exact ⟨c, e', fr, (hb2 _ hne).trans a1, a2.ext hE, a3⟩
      | row tip esz =>
        have hne : M.blk i ≠ M.blk t := fun e' => e1 (hs.inj i t _ _ hi ht hgi hg trivial trivial e')
        obtain ⟨c, e', fr, a1, a2⟩ := ho; exact ⟨c, e', fr, (hb2 _ hne).trans a1, a2⟩
      | map es =>
        have hne : M.blk i ≠ M.blk t := fun e' => e1 (hs.inj i t _ _ hi ht hgi hg trivial trivial e')
        obtain ⟨c, k, a1, a2⟩ := ho; exact ⟨c, k, (hb2 _ hne).trans a1, a2.ext hE⟩
      | loop T ps asg body st pend =>
        have hne : M.blk i ≠ M.blk t := fun e' => e1 (hs.inj i t _ _ hi ht hgi hg trivial trivial e')
        obtain ⟨rc, a1, a2, a3, a4, a5, a6, a7, a8⟩ := ho; exact ⟨rc, (hb2 _ hne).trans a1, a2, a3, a4, a5, a6, a7, fun t => (a8 t).ext hE⟩
      | defs =>
        have hne : M.blk i ≠ M.blk t := fun e' => e1 (hs.inj i t _ _ hi ht hgi hg trivial trivial e')
        exact (hb2 _ hne).trans ho
      | sym k =>
        have hne : M.blk i ≠ M.blk t := fun e' => e1 (hs.inj i t _ _ hi ht hgi hg trivial trivial e')
        show SymR _ _ _ _; rw [hb2 _ hne]; exact ho
  refine ok_value (v := a.eval x) (w' := w') ?_ (vx'.ext hE) hs' hE
  have hsh : w.shape? (M.blk t) = some (ec, c.size) := by unfold World.shape?; rw [a1]
  rw [h1] at h2; cases h2
  simp only [execOp, hop, convert, Sem.run_bind, run_underlying h1, run_underlying h3, ex, Result.andThen_ok, beq_self_eq_true, markStringish, run_shape, hsh, run_freeze, Sem.run_pure]
  rfl

/-! ### Lengths -/
theorem args_head {hs : Sim G B0 w0 w s M} {T : Tm} {a : Act} (hT : TmR w s M T a) {c : Go.Call} {cs : List AV} {x : AV} (h : opds G T c.args.toList = some cs) (hx : cs.head? = some x) : ∃ v, (c.args.map a.eval)[0]? = some v ∧ VR w s M x v := by
  have := opds_sound hs hT h
  rcases this.get 0 with ⟨h1, _⟩ | ⟨c', v, h1, h2, h3⟩
  · rw [List.head?_eq_getElem?, h1] at hx; cases hx
  · rw [List.head?_eq_getElem?, h1] at hx; cases hx
    refine ⟨v, ?_, h3⟩
    rw [← Array.toList_map] at h2
    rw [← Array.getElem?_toList]; exact h2
theorem s_len {o : Oper} {a : Act} {T : Tm} {c : Go.Call} {t0 : TypeId} {d : TypeDesc} {cs : List AV} {x : AV} {n : Nat} (hs : Sim G B0 w0 w s M) (hT : TmR w s M T a) (hop : o.op = .call c) (hc : c.callee = .builtin .len) (hA0 : c.argTypes[0]? = some t0)
    (h : opds G T c.args.toList = some cs) (hx : cs.head? = some x) (hd : P.underlying t0 = some d)
    (hk : (d = .string ∧ ∃ b : ByteArray, x = .v (.string b) ∧ n = b.size) ∨ ((∃ e, d = .slice e) ∧ ((∃ k, x = .v (.slice none n k)) ∨ (x = .e0 ∧ n = 0) ∨ (∃ l t, x = .sl l n t) ∨ (∃ b off, x = .ms b off n) ∨ ∃ b, x = .mg b n)) ∨ (∃ e, d = .array n e) ∨
      ((∃ k e, d = .map k e) ∧ ((x = .v (.map none) ∧ n = 0) ∨ ∃ m es, x = .mp m ∧ s.get m = some (.map es) ∧ n = es.length))) : OpOk P G B0 w0 w s M o a (.v (goInt n)) s := by
  obtain ⟨v, hv, vx⟩ := args_head (hs := hs) hT h hx
  have key : (Builtin.len_ c.argTypes o.type (c.args.map a.eval)).run P w = .ok (goInt n) w := by
    unfold Builtin.len_
    rcases hk with ⟨rfl, b, rfl, rfl⟩ | ⟨⟨e, rfl⟩, hk⟩ | ⟨e, rfl⟩ | ⟨⟨k, e, rfl⟩, hk⟩
    · have := (VR_v.1 vx).1; subst this
      simp [hA0, hv, run_underlying hd]
    · rcases hk with ⟨k, rfl⟩ | ⟨rfl, rfl⟩ | ⟨l, t, rfl⟩ | ⟨b, off, rfl⟩ | ⟨b, rfl⟩
      · have := (VR_v.1 vx).1; subst this; simp [hA0, hv, run_underlying hd]
      · unfold VR at vx; obtain ⟨b, off, rfl⟩ := vx; simp [hA0, hv, run_underlying hd]
      · unfold VR at vx; obtain ⟨b, off, cap, rfl, _⟩ := vx; simp [hA0, hv, run_underlying hd]
      · unfold VR at vx; obtain ⟨_, cap, _, rfl⟩ := vx; simp [hA0, hv, run_underlying hd]
      · unfold VR at vx; obtain ⟨_, _, rfl⟩ := vx; simp [hA0, hv, run_underlying hd]
    · simp [hA0, hv, run_underlying hd]
    · rcases hk with ⟨rfl, rfl⟩ | ⟨m, es, rfl, hg, rfl⟩
      · have := (VR_v.1 vx).1; subst this; simp [hA0, hv, run_underlying hd]
      · unfold VR at vx; obtain ⟨hm, rfl⟩ := vx
        obtain ⟨ents, clock, h1, h2⟩ := hs.obj m _ hm hg
        have hl : ∀ {es : List (Value × AV)} {l : List MapEntry}, MR w s M es l → es.length = l.length := by
          intro es
          induction es with
          | nil => intro l h; simp only [MR] at h; subst h; rfl
          | cons p r ih => intro l h; obtain ⟨k, x⟩ := p; obtain ⟨e, t, rfl, _, _, h⟩ := h; simp [ih h]
        have hl := hl h2
        simp at hl
        have hgo : (getObj (M.blk m)).run P w = .ok (.map ents clock) w := by simp [getObj, Sem.run, h1]
        simp [hA0, hv, run_underlying hd, hgo, hl]
  refine ok_here hs (v := goInt n) ?_ (VR_v_of rfl)
  simp [execOp, hop, resolve, hc, invoke, builtin, key]

/-! ### Slices of slices -/
def Bd (v : Option Value) (dflt n : Nat) : Prop := (v = none ∧ n = dflt) ∨ ∃ k i, v = some (.int k i) ∧ 0 ≤ i ∧ i.toNat = n
theorem bd_of (hs : Sim G B0 w0 w s M) {T : Tm} {a : Act} (hT : TmR w s M T a) {x : Option Operand} {dflt n : Nat} (h : bnd G T x dflt = some n) : Bd (x.map a.eval) dflt n := by
  cases x with
  | none => simp only [bnd, Option.some.injEq] at h; exact .inl ⟨rfl, h.symm⟩
  | some i =>
    simp only [bnd, Option.bind_eq_some_iff] at h
    obtain ⟨c, h1, h2⟩ := h
    obtain ⟨k, j, rfl, h3, h4⟩ := asNat_some h2
    have := (VR_v.1 (opd_sound hs hT h1)).1
    exact .inr ⟨k, j, by simp [this], h3, h4⟩
theorem run_bounds {isS : Bool} {len cap l h : Nat} {lo hi : Option Value} (h1 : Bd lo 0 l) (h2 : Bd hi len h) (hl : l ≤ h) (hh : h ≤ cap) : (Instr.sliceBounds isS len cap lo hi none).run P w = .ok (l, h, cap) w := by
  rcases h1 with ⟨rfl, rfl⟩ | ⟨k1, i1, rfl, p1, rfl⟩ <;> rcases h2 with ⟨rfl, rfl⟩ | ⟨k2, i2, rfl, p2, rfl⟩
  · simp [Instr.sliceBounds]
  · simp [Instr.sliceBounds, run_sliceBound _ k2 i2 cap _ p2 (by omega)]
  · simp [Instr.sliceBounds, run_sliceBound _ k1 i1 h _ p1 (by omega)]
  · simp [Instr.sliceBounds, run_sliceBound _ k2 i2 cap _ p2 (by omega), run_sliceBound _ k1 i1 i2.toNat _ p1 (by omega)]
theorem run_sliceAt' {t e : TypeId} {size : Nat} (hu : P.underlying t = some (.slice e)) (hn : sizeT P e = some size) {len cap l h : Nat} {lo hi : Option Value} {base : Option Addr} (h1 : Bd lo 0 l) (h2 : Bd hi len h) (hl : l ≤ h) (hh : h ≤ cap) :
    (Instr.sliceAt t (.slice base len cap) lo hi none).run P w = .ok (.slice (if cap = l then base else base.map (·.add (l * size))) (h - l) (cap - l)) w := by
  simp [Instr.sliceAt, Instr.slice, run_underlying hu, run_bounds h1 h2 hl hh, run_sizeOf hn]
theorem run_sliceArr {t e : TypeId} {n size : Nat} (hu : P.underlying t = some (.array n e)) (hn : sizeT P e = some size) {l h : Nat} {lo hi : Option Value} {ad : Addr} (h1 : Bd lo 0 l) (h2 : Bd hi n h) (hl : l ≤ h) (hh : h ≤ n) :
    (Instr.sliceAt t (.pointer (some ad)) lo hi none).run P w = .ok (.slice (some (if n = l then ad else ad.add (l * size))) (h - l) (n - l)) w := by
  simp [Instr.sliceAt, Instr.sureAddr, run_underlying hu, run_bounds h1 h2 hl hh, run_sizeOf hn]

theorem s_slice {o : Oper} {a : Act} {T : Tm} {t e : TypeId} {x : Operand} {lo hi : Option Operand} {size l h : Nat} {c d : AV} (hs : Sim G B0 w0 w s M) (hT : TmR w s M T a) (hop : o.op = .slice t x lo hi none) (hu : P.underlying t = some (.slice e)) (hn : sizeT P e = some size)
    (hx : opd G T x = some c) (hlo : bnd G T lo 0 = some l)
    (hk : (∃ p q, c = .v (.slice none p q) ∧ bnd G T hi 0 = some h ∧ l = 0 ∧ h = 0 ∧ d = c) ∨
      (c = .e0 ∧ bnd G T hi 0 = some h ∧ l = 0 ∧ h = 0 ∧ d = c) ∨
      (∃ cs len tok, c = .sl cs len tok ∧ bnd G T hi len = some h ∧ l ≤ h ∧ h ≤ len ∧ ((l = len ∧ d = .sl [] 0 none) ∨ (l ≠ len ∧ ∃ tok', (tok' = none ∨ (tok' = tok ∧ l = 0 ∧ h = len)) ∧ d = .sl (cs.drop (l * size)) (h - l) tok'))) ∨
      (∃ b off len, c = .ms b off len ∧ bnd G T hi len = some h ∧ l ≤ h ∧ h ≤ len ∧ ((l = len ∧ d = .sl [] 0 none) ∨ (l ≠ len ∧ d = .ms b (off + l * size) (h - l)))) ∨
      (∃ b len, c = .mg b len ∧ bnd G T hi len = some h ∧ l ≤ h ∧ h ≤ len ∧ ((l = len ∧ d = .sl [] 0 none) ∨ (l ≠ len ∧ ((l = 0 ∧ h = len ∧ d = .mg b len) ∨ d = .ms b (l * size) (h - l)))))) : OpOk P G B0 w0 w s M o a d s := by
  have vx := opd_sound hs hT hx
  have b1 := bd_of hs hT hlo
  have fin : ∀ v, (Instr.sliceAt t (a.eval x) (lo.map a.eval) (hi.map a.eval) none).run P w = .ok v w → VR w s M d v → OpOk P G B0 w0 w s M o a d s := fun v hr hv => ok_here hs (v := v) (by simp [execOp, hop, hr]) hv
  rcases hk with ⟨p, q, rfl, hhi, rfl, rfl, rfl⟩ | ⟨rfl, hhi, rfl, rfl, rfl⟩ | ⟨cs, len, tok, rfl, hhi, h1, h2, hk⟩ | ⟨b, off, len, rfl, hhi, h1, h2, hk⟩ | ⟨b, len, rfl, hhi, h1, h2, hk⟩
  · have vx' := VR_v.1 vx
    have hz : p = 0 ∧ q = 0 := by have := vx'.2; simp only [scalar, Bool.and_eq_true] at this; exact ⟨nbe this.1, nbe this.2⟩
    obtain ⟨rfl, rfl⟩ := hz
    refine fin _ ?_ vx
    rw [vx'.1]
    have := run_sliceAt' (w := w) (base := none) (cap := 0) hu hn b1 (bd_of hs hT hhi) (Nat.le_refl _) (Nat.le_refl _)
    simpa using this
  · have vx' := vx
    unfold VR at vx; obtain ⟨b, off, ex⟩ := vx
    refine fin _ ?_ vx'
    rw [ex]
    have := run_sliceAt' (w := w) (base := some ⟨b, off, none⟩) (cap := 0) hu hn b1 (bd_of hs hT hhi) (Nat.le_refl _) (Nat.le_refl _)
    simpa using this
  · unfold VR at vx; obtain ⟨b, off, cap, ex, hle, hv, htok⟩ := vx
    have hr := run_sliceAt' (w := w) (base := some ⟨b, off, none⟩) (cap := cap) hu hn b1 (bd_of hs hT hhi) h1 (by omega)
    rw [← ex] at hr
    refine fin _ hr ?_
    rcases hk with ⟨rfl, rfl⟩ | ⟨hne, tok', htok', rfl⟩
    · have : h - l = 0 := by omega
      rw [this]
      unfold VR
      by_cases e1 : cap = l
      · rw [if_pos e1]; exact ⟨b, off, _, rfl, Nat.zero_le _, VRs_nil, fun t ht => by cases ht⟩
      · rw [if_neg e1]; simp only [Option.map_some, add_eq]; exact ⟨b, _, _, rfl, Nat.zero_le _, VRs_nil, fun t ht => by cases ht⟩
    · rw [if_neg (by omega)]
      simp only [Option.map_some, add_eq]
      unfold VR
      refine ⟨b, _, _, rfl, by omega, hv.drop _, fun t ht => ?_⟩
      rcases htok' with rfl | ⟨rfl, rfl, rfl⟩
      · cases ht
      · obtain ⟨k1, k2⟩ := htok t ht
        refine ⟨k1, fun tip e' hg => ?_⟩
        obtain ⟨r1, r2, r3⟩ := k2 tip e' hg
        exact ⟨r1, by rw [r2]; simp, by rw [r3]; simp⟩
  · unfold VR at vx; obtain ⟨hb, cap, hle, ex⟩ := vx
    have hr := run_sliceAt' (w := w) (base := some ⟨M.blk b, off, none⟩) (cap := cap) hu hn b1 (bd_of hs hT hhi) h1 (by omega)
    rw [← ex] at hr
    refine fin _ hr ?_
    rcases hk with ⟨rfl, rfl⟩ | ⟨hne, rfl⟩
    · have : h - l = 0 := by omega
      rw [this]
      unfold VR
      by_cases e1 : cap = l
      · rw [if_pos e1]; exact ⟨_, off, _, rfl, Nat.zero_le _, VRs_nil, fun t ht => by cases ht⟩
      · rw [if_neg e1]; simp only [Option.map_some, add_eq]; exact ⟨_, _, _, rfl, Nat.zero_le _, VRs_nil, fun t ht => by cases ht⟩
    · rw [if_neg (by omega)]
      simp only [Option.map_some, add_eq]
      unfold VR
      exact ⟨hb, _, by omega, rfl⟩
  · unfold VR at vx; obtain ⟨hb, hle, ex⟩ := vx
    have hr := run_sliceAt' (w := w) (base := some ⟨M.blk b, 0, none⟩) (cap := M.cap b) hu hn b1 (bd_of hs hT hhi) h1 (by omega)
    rw [← ex] at hr
    refine fin _ hr ?_
    rcases hk with ⟨rfl, rfl⟩ | ⟨hne, ⟨rfl, rfl, rfl⟩ | rfl⟩
    · have : h - l = 0 := by omega
      rw [this]
      unfold VR
      by_cases e1 : M.cap b = l
      · rw [if_pos e1]; exact ⟨_, 0, _, rfl, Nat.zero_le _, VRs_nil, fun t ht => by cases ht⟩
      · rw [if_neg e1]; simp only [Option.map_some, add_eq]; exact ⟨_, _, _, rfl, Nat.zero_le _, VRs_nil, fun t ht => by cases ht⟩
    · rw [if_neg (by omega)]
      simp only [Option.map_some, add_eq, Nat.zero_mul, Nat.add_zero, Nat.sub_zero]
      unfold VR
      exact ⟨hb, hle, rfl⟩
    · rw [if_neg (by omega)]
      simp only [Option.map_some, add_eq, Nat.zero_add]
      unfold VR
      exact ⟨hb, _, by omega, rfl⟩

theorem s_slice_arr {o : Oper} {a : Act} {T : Tm} {t e : TypeId} {x : Operand} {lo hi : Option Operand} {n size l h : Nat} {c d : AV} (hs : Sim G B0 w0 w s M) (hT : TmR w s M T a) (hop : o.op = .slice t x lo hi none) (hu : P.underlying t = some (.array n e)) (hn : sizeT P e = some size)
    (hx : opd G T x = some c) (hlo : bnd G T lo 0 = some l) (hhi : bnd G T hi n = some h) (h1 : l ≤ h) (h2 : h ≤ n)
    (hk : (∃ cs, c = .ref cs ∧ ((l = n ∧ d = .sl [] 0 none) ∨ (l ≠ n ∧ d = .sl (cs.drop (l * size)) (h - l) none))) ∨
      (∃ b off, c = .box b off ∧ ((l = n ∧ d = .sl [] 0 none) ∨ (l ≠ n ∧ d = .ms b (off + l * size) (h - l))))) : OpOk P G B0 w0 w s M o a d s := by
  have vx := opd_sound hs hT hx
  have b1 := bd_of hs hT hlo
  have b2 := bd_of hs hT hhi
  have fin : ∀ v, (Instr.sliceAt t (a.eval x) (lo.map a.eval) (hi.map a.eval) none).run P w = .ok v w → VR w s M d v → OpOk P G B0 w0 w s M o a d s := fun v hr hv => ok_here hs (v := v) (by simp [execOp, hop, hr]) hv
  rcases hk with ⟨cs, rfl, hk⟩ | ⟨b, off, rfl, hk⟩
  · unfold VR at vx; obtain ⟨b, off, ex, hv⟩ := vx
    have hr := run_sliceArr (w := w) (ad := ⟨b, off, none⟩) hu hn b1 b2 h1 h2
    rw [← ex] at hr
    refine fin _ hr ?_
    rcases hk with ⟨rfl, rfl⟩ | ⟨hne, rfl⟩
    · have : h - l = 0 := by omega
      rw [this, if_pos rfl]
      unfold VR; exact ⟨b, off, _, rfl, Nat.zero_le _, VRs_nil, fun t ht => by cases ht⟩
    · rw [if_neg (Ne.symm hne), add_eq]
      unfold VR; exact ⟨b, _, _, rfl, by omega, hv.drop _, fun t ht => by cases ht⟩
  · unfold VR at vx; obtain ⟨hb, ex⟩ := vx
    have hr := run_sliceArr (w := w) (ad := ⟨M.blk b, off, none⟩) hu hn b1 b2 h1 h2
    rw [← ex] at hr
    refine fin _ hr ?_
    rcases hk with ⟨rfl, rfl⟩ | ⟨hne, rfl⟩
    · have : h - l = 0 := by omega
      rw [this, if_pos rfl]
      unfold VR; exact ⟨_, off, _, rfl, Nat.zero_le _, VRs_nil, fun t ht => by cases ht⟩
    · rw [if_neg (Ne.symm hne), add_eq]
      unfold VR; exact ⟨hb, _, by omega, rfl⟩

theorem s_slice_none {o : Oper} {a : Act} {T : Tm} {t e : TypeId} {x hi mx : Operand} {lo : Option Operand} {size : Nat} {c d ch cm : AV} (hs : Sim G B0 w0 w s M) (hT : TmR w s M T a) (hop : o.op = .slice t x lo (some hi) (some mx)) (hu : P.underlying t = some (.slice e)) (hn : sizeT P e = some size)
    (hx : opd G T x = some c) (hlo : bnd G T lo 0 = some 0) (hhi : opd G T hi = some ch) (hmx : opd G T mx = some cm) (hh : asNat ch = some 0) (hm : asNat cm = some 0)
    (hk : (∃ p q, c = .v (.slice none p q) ∧ d = c) ∨ (((∃ cs len tok, c = .sl cs len tok) ∨ (∃ b off len, c = .ms b off len) ∨ (∃ b len, c = .mg b len) ∨ c = .e0) ∧ d = .e0)) : OpOk P G B0 w0 w s M o a d s := by
  have vx := opd_sound hs hT hx
  have b1 := bd_of hs hT hlo
  obtain ⟨k2, i2, rfl, p2, q2⟩ := asNat_some hh
  obtain ⟨k3, i3, rfl, p3, q3⟩ := asNat_some hm
  have e2 := (VR_v.1 (opd_sound hs hT hhi)).1
  have e3 := (VR_v.1 (opd_sound hs hT hmx)).1
  have z2 : i2 = 0 := by omega
  have z3 : i3 = 0 := by omega
  subst z2 z3
  have hb : ∀ len cap, (Instr.sliceBounds true len cap (lo.map a.eval) (some (a.eval hi)) (some (a.eval mx))).run P w = .ok (0, 0, 0) w := by
    intro len cap
    rw [e2, e3]
    rcases b1 with ⟨e1, _⟩ | ⟨k1, i1, e1, p1, q1⟩
    · rw [e1]; simp [Instr.sliceBounds, run_sliceBound]
    · have : i1 = 0 := by omega
      subst this
      rw [e1]; simp [Instr.sliceBounds, run_sliceBound]
  have hr : ∀ base len cap, (Instr.sliceAt t (.slice base len cap) (lo.map a.eval) (some (a.eval hi)) (some (a.eval mx))).run P w = .ok (.slice base 0 0) w := by
    intro base len cap
    simp [Instr.sliceAt, Instr.slice, run_underlying hu, hb, run_sizeOf hn]
  have fin : ∀ v, (Instr.sliceAt t (a.eval x) (lo.map a.eval) (some (a.eval hi)) (some (a.eval mx))).run P w = .ok v w → VR w s M d v → OpOk P G B0 w0 w s M o a d s := fun v hr hv => ok_here hs (v := v) (by simp [execOp, hop, hr]) hv
  rcases hk with ⟨p, q, rfl, rfl⟩ | ⟨⟨cs, len, tok, rfl⟩ | ⟨b, off, len, rfl⟩ | ⟨b, len, rfl⟩ | rfl, rfl⟩
  · have vx' := VR_v.1 vx
    have hz : p = 0 ∧ q = 0 := by have := vx'.2; simp only [scalar, Bool.and_eq_true] at this; exact ⟨nbe this.1, nbe this.2⟩
    obtain ⟨rfl, rfl⟩ := hz
    exact fin _ (by rw [vx'.1]; exact hr _ _ _) (VR_v_of vx'.2)
  · unfold VR at vx; obtain ⟨b, off, cap, ex, _⟩ := vx
    exact fin _ (by rw [ex]; exact hr _ _ _) (by unfold VR; exact ⟨b, off, rfl⟩)
  · unfold VR at vx; obtain ⟨_, cap, _, ex⟩ := vx
    exact fin _ (by rw [ex]; exact hr _ _ _) (by unfold VR; exact ⟨_, off, rfl⟩)
  · unfold VR at vx; obtain ⟨_, _, ex⟩ := vx
    exact fin _ (by rw [ex]; exact hr _ _ _) (by unfold VR; exact ⟨_, 0, rfl⟩)
  · unfold VR at vx; obtain ⟨b, off, ex⟩ := vx
    exact fin _ (by rw [ex]; exact hr _ _ _) (by unfold VR; exact ⟨b, off, rfl⟩)
end
end Go.Ab
