/- The evaluator's operations against the model's: copies, structs built, calls. -/
import Derived.Test.YtaeeblcdggjokaaDoorSxOps7
namespace Go.Ab
set_option linter.unusedVariables false
set_option linter.unusedSimpArgs false
set_option linter.unusedSectionVars false
set_option linter.constructorNameAsVariable false
open Go Go.RowKit

section
variable [Interp] {P : Program} {G : Nat → Option (List AV)} {B0 : Nat} {w0 w : World} {s : St} {M : Mp}

/-! ### Copies -/
theorem extract_map (x : ByteArray) (k : Nat) : (x.extract 0 k).data.map (fun b => Value.int .u8 b.toNat) = ((x.data.toList.map fun b => Value.int .u8 b.toNat).take k).toArray := by
  apply Array.toList_inj.1
  rw [Array.toList_map, ByteArray.data_extract, Array.toList_extract, List.extract_eq_take_drop, ← List.map_take]
  simp
theorem heldBy_first (hs : Sim G B0 w0 w s M) {size n : Nat} {c : AV} {ys : List AV} {v : Value} (h : heldBy s size c = some (ys, n)) (hv : VR w s M c v) (hl : ys.length = n * size) :
    ∃ vs, VRl w s M ys vs ∧ (∀ W : World, (Builtin.lenOf v).run P W = .ok n W) ∧ ∀ k, k ≤ n → (Builtin.firstCells size k v).run P w = .ok (vs.take (k * size)).toArray w := by
  obtain ⟨vs, h1, h2, h3, _⟩ := heldBy_sound (P := P) hs h hv hl
  refine ⟨vs, h1, h2, fun k hk => ?_⟩
  have hvl : vs.length = n * size := by rw [← h1.length, hl]
  have hks : k * size ≤ n * size := Nat.mul_le_mul_right _ hk
  unfold heldBy at h
  split at h
  · simp only [Option.some.injEq, Prod.mk.injEq] at h
    obtain ⟨rfl, rfl⟩ := h
    obtain ⟨rfl, _⟩ := VR_v.1 hv
    have : k = 0 := by omega
    subst this
    simp [Builtin.firstCells]
  · simp only [Option.some.injEq, Prod.mk.injEq] at h
    obtain ⟨rfl, rfl⟩ := h
    unfold VR at hv; obtain ⟨b, off, rfl⟩ := hv
    have : k = 0 := by omega
    subst this
    have := run_firstCells_some (P := P) w size 0 ⟨b, off, none⟩ 0 0 [] (by simp) (by simp); simpa using this
  · rename_i cs len tok
    split at h
    · simp only [Option.some.injEq, Prod.mk.injEq] at h
      obtain ⟨rfl, rfl⟩ := h
      unfold VR at hv; obtain ⟨b, off, cap, rfl, hle, hv, _⟩ := hv
      obtain ⟨us, g1, g2⟩ := (hv.take (len * size)).vals
      have hu : us.length = len * size := by rw [← g1.length, hl]
      have e1 := run_firstCells_some (P := P) w size len ⟨b, off, none⟩ len cap us hu fun j x hj => by rw [add_eq]; exact g2 j x hj
      rw [h3] at e1
      have e2 : vs = us := by
        simp only [Result.ok.injEq, and_true] at e1
        simpa using congrArg Array.toList e1
      subst e2
      refine run_firstCells_some (P := P) w size k ⟨b, off, none⟩ len cap _ (by rw [List.length_take]; omega) fun j x hj => ?_
      rw [add_eq]
      rw [List.getElem?_take] at hj
      split at hj
      · exact g2 j x hj
      · cases hj
    · cases h
  · rename_i b off len
    split at h
    · rename_i c esz hg
      split at h
      · simp only [Option.some.injEq, Prod.mk.injEq] at h
        obtain ⟨rfl, rfl⟩ := h
        unfold VR at hv; obtain ⟨hb, cap, hle, rfl⟩ := hv
        obtain ⟨d, e, fr, q1, q2, _⟩ := hs.obj b _ hb hg
        have ha := (((at_block q1).take c.length).drop off).take (len * size)
        rw [Nat.zero_add] at ha
        have hlen : (((d.toList.take c.length).drop off).take (len * size)).length = len * size := by rw [← ((q2.drop off).take (len * size)).length, hl]
        have e1 := run_firstCells_some (P := P) w size len ⟨M.blk b, off, none⟩ len cap _ hlen fun j x hj => by rw [add_eq]; exact ha j x hj
        rw [h3] at e1
        have e2 : vs = ((d.toList.take c.length).drop off).take (len * size) := by
          simp only [Result.ok.injEq, and_true] at e1
          simpa using congrArg Array.toList e1
        refine run_firstCells_some (P := P) w size k ⟨M.blk b, off, none⟩ len cap _ (by rw [List.length_take]; omega) fun j x hj => ?_
        rw [add_eq]
        rw [List.getElem?_take, e2] at hj
        split at hj
        · exact ha j x hj
        · cases hj
      · cases h
    · cases h
  · rename_i b len
    split at h
    · rename_i c esz hg
      split at h
      · simp only [Option.some.injEq, Prod.mk.injEq] at h
        obtain ⟨rfl, rfl⟩ := h
        unfold VR at hv; obtain ⟨hb, hle, rfl⟩ := hv
        obtain ⟨d, e, fr, q1, q2, _⟩ := hs.obj b _ hb hg
        have ha := ((at_block q1).take c.length).take (len * size)
        have hlen : ((d.toList.take c.length).take (len * size)).length = len * size := by rw [← (q2.take (len * size)).length, hl]
        have e1 := run_firstCells_some (P := P) w size len ⟨M.blk b, 0, none⟩ len (M.cap b) _ hlen fun j x hj => by rw [add_eq]; exact ha j x hj
        rw [h3] at e1
        have e2 : vs = (d.toList.take c.length).take (len * size) := by
          simp only [Result.ok.injEq, and_true] at e1
          simpa using congrArg Array.toList e1
        refine run_firstCells_some (P := P) w size k ⟨M.blk b, 0, none⟩ len (M.cap b) _ (by rw [List.length_take]; omega) fun j x hj => ?_
        rw [add_eq]
        rw [List.getElem?_take, e2] at hj
        split at hj
        · exact ha j x hj
        · cases hj
      · cases h
    · cases h
  · split at h
    · rename_i x hsz
      have hsz := nbe hsz
      subst hsz
      simp only [Option.some.injEq, Prod.mk.injEq] at h
      obtain ⟨rfl, rfl⟩ := h
      obtain ⟨rfl, _⟩ := VR_v.1 hv
      have e1 := h3
      simp only [Builtin.firstCells, Sem.run_pure, Result.ok.injEq, and_true] at e1
      rw [extract_map] at e1
      have e2 : vs = x.data.toList.map fun b => Value.int .u8 b.toNat := by
        have := congrArg Array.toList e1
        simp only at this
        rw [← this, List.take_of_length_le (by simp)]
      simp only [Builtin.firstCells, Sem.run_pure]
      rw [extract_map, e2, Nat.mul_one]
    · cases h
  · cases h

theorem s_copy {o : Oper} {a : Act} {T : Tm} {c : Go.Call} {t0 e : TypeId} {y : AV} {b off len n size esz : Nat} {ys ds : List AV} (hs : Sim G B0 w0 w s M) (hT : TmR w s M T a) (hop : o.op = .call c) (hc : c.callee = .builtin .copy) (hA0 : c.argTypes[0]? = some t0) (ht0 : P.underlying t0 = some (.slice e))
    (hargs : opds G T c.args.toList = some [.ms b off len, y]) (hn : sizeT P e = some size) (hh : heldBy s size y = some (ys, n)) (hyl : ys.length = n * size) (hg : s.get b = some (.box ds esz)) (h1 : off + Nat.min n len * size ≤ ds.length) (h3 : (ys.take (Nat.min n len * size)).all isCell = true) :
    OpOk P G B0 w0 w s M o a (.v (goInt (Nat.min n len))) (s.put b (.box (ds.take off ++ ys.take (Nat.min n len * size) ++ ds.drop (off + Nat.min n len * size)) esz)) := by
  have va := opds_sound hs hT hargs
  rw [← Array.toList_map] at va
  unfold VRl at va; obtain ⟨v1, t1, e1, k1, va⟩ := va
  unfold VRl at va; obtain ⟨v2, t2, rfl, k2, va⟩ := va
  unfold VRl at va; subst va
  unfold VR at k1; obtain ⟨hb, cap, hle, rfl⟩ := k1
  obtain ⟨vs, hvs, hlen, hf⟩ := heldBy_first (P := P) hs hh k2 hyl
  have hargs' : c.args.map a.eval = #[.slice (some ⟨M.blk b, off, none⟩) len cap, v2] := by apply Array.toList_inj.1; rw [e1]
  have hk : Nat.min n len ≤ n := Nat.min_le_left _ _
  have htl : (ys.take (Nat.min n len * size)).length = Nat.min n len * size := by rw [List.length_take, hyl]; have := Nat.mul_le_mul_right size hk; omega
  have hf := hf _ hk
  have hvt := hvs.take (Nat.min n len * size)
  obtain ⟨hr, hs', hE⟩ := write_box (P := P) hs hb hg hvt (by rw [htl]; exact h1) h3
  rw [htl] at hs' hE
  refine ok_value (v := goInt (Nat.min n len)) ?_ (VR_v_of rfl) hs' hE
  have key : (Builtin.copy_ c.argTypes o.type (c.args.map a.eval)).run P w = .ok (goInt (Nat.min n len)) (w.setCells (M.blk b) off (vs.take (Nat.min n len * size))) := by
    rw [hargs']
    simp [Builtin.copy_, hA0, run_underlying ht0, hlen, run_sizeOf hn, hf, hr]
  simp [execOp, hop, resolve, hc, invoke, builtin, key]

/-! ### Structs and rows built of their parts -/
theorem fold_set (off : Nat) : ∀ (vs : List Value) (k : Nat) (cells : Array Value), off + k + vs.length ≤ cells.size →
    ((vs.zipIdx k).foldl (fun cs (x : Value × Nat) => cs.setIfInBounds (off + x.2) x.1) cells).toList = cells.toList.take (off + k) ++ vs ++ cells.toList.drop (off + k + vs.length)
  | [], k, cells, h => by simp
  | v :: r, k, cells, h => by
    simp only [List.length_cons] at h
    rw [List.zipIdx_cons, List.foldl_cons, fold_set off r (k + 1) _ (by simp; omega)]
    rw [Array.toList_setIfInBounds]
    have hlen : off + k < cells.toList.length := by simp; omega
    rw [List.set_eq_take_append_cons_drop, if_pos hlen]
    have e1 : (cells.toList.take (off + k) ++ v :: cells.toList.drop (off + k + 1)).take (off + (k + 1)) = cells.toList.take (off + k) ++ [v] := by
      rw [List.take_append, List.take_of_length_le (by simp; omega)]
      congr 1
      simp only [List.length_take]
      rw [show off + (k + 1) - min (off + k) cells.toList.length = 1 by omega]; rfl
    have e2 : (cells.toList.take (off + k) ++ v :: cells.toList.drop (off + k + 1)).drop (off + (k + 1) + r.length) = cells.toList.drop (off + k + (v :: r).length) := by
      rw [List.drop_append, List.drop_eq_nil_of_le (by simp; omega), List.nil_append]
      simp only [List.length_take, List.length_cons]
      rw [show off + (k + 1) + r.length - min (off + k) cells.toList.length = r.length + 1 by omega, List.drop_succ_cons, List.drop_drop]
      congr 1
      omega
    rw [e1, e2]
    simp
def PR (w : World) (s : St) (M : Mp) : List (Nat × AV) → List (Nat × Value) → Prop
  | [], ps => ps = []
  | (i, x) :: r, ps => ∃ v t, ps = (i, v) :: t ∧ VR w s M x v ∧ PR w s M r t
theorem fill_sound {place : Nat → Option (Nat × Nat)} : ∀ {ps : List (Nat × AV)} {pv : List (Nat × Value)} {z cs : List AV} {zv : Array Value}, fillA place z ps = some cs → PR w s M ps pv → VRl w s M z zv.toList →
    ∃ cv, Instr.fill place zv pv = some cv ∧ VRl w s M cs cv.toList
  | [], pv, z, cs, zv, h, hp, hz => by
    simp only [fillA, Option.some.injEq] at h; subst h
    simp only [PR] at hp; subst hp
    exact ⟨zv, rfl, hz⟩
  | (i, x) :: r, pv, z, cs, zv, h, hp, hz => by
    obtain ⟨v, t, rfl, k1, k2⟩ := hp
    simp only [fillA] at h
    cases hpl : place i with
    | none => rw [hpl] at h; cases h
    | some q =>
      obtain ⟨off, size⟩ := q
      rw [hpl] at h
      simp only at h
      split at h
      · rename_i hc
        rw [Bool.and_eq_true, Bool.and_eq_true] at hc
        have h1 := nbe hc.1.1
        have h2 := Nat.le_of_ble_eq_true hc.1.2
        have hcv := VR_cellsOf hc.2 k1
        have hvs : v.cells.size = size := by have := hcv.length; rw [h1] at this; simp at this; exact this.symm
        have hzl := hz.length
        simp only [Array.length_toList] at hzl
        have hfs := fold_set off v.cells.toList 0 zv (by simp; omega)
        have hfs' : (v.cells.zipIdx.foldl (fun cs (x : Value × Nat) => cs.setIfInBounds (off + x.2) x.1) zv).toList = zv.toList.take off ++ v.cells.toList ++ zv.toList.drop (off + size) := by
          rw [← Array.foldl_toList, Array.toList_zipIdx, hfs]
          simp [hvs]
        have hz' : VRl w s M (z.take off ++ cellsOf x ++ z.drop (off + size)) (v.cells.zipIdx.foldl (fun cs (x : Value × Nat) => cs.setIfInBounds (off + x.2) x.1) zv).toList := by
          rw [hfs']; exact ((hz.take off).append hcv).append (hz.drop (off + size))
        obtain ⟨cv, g1, g2⟩ := fill_sound h k2 hz'
        refine ⟨cv, ?_, g2⟩
        simp only [Instr.fill, hpl]
        rw [if_neg (by simp [hvs]; omega)]
        exact g1
      · cases h
theorem parts_sound (hs : Sim G B0 w0 w s M) {T : Tm} {a : Act} (hT : TmR w s M T a) : ∀ {ps : List (Nat × Operand)} {qs : List (Nat × AV)}, parts G T ps = some qs → PR w s M qs (ps.map fun (i, x) => (i, a.eval x))
  | [], qs, h => by simp only [parts, Option.some.injEq] at h; subst h; rfl
  | (i, x) :: r, qs, h => by
    simp only [parts, Option.bind_eq_bind, Option.bind_eq_some_iff, Option.pure_def, Option.some.injEq] at h
    obtain ⟨c, h1, d, h2, rfl⟩ := h
    exact ⟨_, _, rfl, opd_sound hs hT h1, parts_sound hs hT h2⟩
theorem run_places : ∀ {fs : List Field} {pl : List (Nat × Nat)}, places P fs = some pl → (fs.mapM fun f => do pure (f.offset, ← sizeOf f.type) : Sem (List (Nat × Nat))).run P w = .ok pl w
  | [], pl, h => by simp only [places, Option.some.injEq] at h; subst h; rfl
  | f :: r, pl, h => by
    simp only [places, Option.bind_eq_bind, Option.bind_eq_some_iff, Option.pure_def, Option.some.injEq] at h
    obtain ⟨n, h1, q, h2, rfl⟩ := h
    rw [List.mapM_cons]
    have ih := run_places h2
    simp only [Sem.run_bind, run_sizeOf h1, Result.andThen_ok, Sem.run_pure, ih]
theorem s_build_struct {o : Oper} {a : Act} {T : Tm} {t : TypeId} {ps : Array (Nat × Operand)} {z cs : List AV} {qs : List (Nat × AV)} {fs : Array Field} {pl : List (Nat × Nat)} (hs : Sim G B0 w0 w s M) (hT : TmR w s M T a) (hop : o.op = .build t ps) (hz : zeroCellsT P t = some z) (hps : parts G T ps.toList = some qs)
    (hu : P.underlying t = some (.struct fs)) (hpl : places P fs.toList = some pl) (hf : fillA (pl[·]?) z qs = some cs) : OpOk P G B0 w0 w s M o a (.agg cs) s := by
  obtain ⟨zv, hz1, hz2⟩ := zeroCells_some hz
  obtain ⟨cv, g1, g2⟩ := fill_sound (zv := zv.cells) hf (parts_sound hs hT hps) (VRl_scAll hz2)
  refine ok_here hs (v := .agg cv) ?_ (by unfold VR; exact ⟨cv, rfl, g2⟩)
  have hm : (fs.mapM fun f => do pure (f.offset, ← sizeOf f.type) : Sem (Array (Nat × Nat))).run P w = .ok pl.toArray w := by
    rw [Array.mapM_eq_mapM_toList, Sem.run_map, run_places hpl]; rfl
  have g1' : Instr.fill (fun i => pl.toArray[i]?) zv.cells (ps.toList.map fun (i, x) => (i, a.eval x)) = some cv := by
    rw [← g1]; congr 1; funext i; simp
  have hrun : (Instr.build t (ps.map fun (i, x) => (i, a.eval x))).run P w = .ok (.agg cv) w := by
    simp only [Instr.build, Sem.run_bind, run_zeroValue hz1, Result.andThen_ok, run_underlying hu, hm, Array.toList_map, g1', Sem.run_pure]
  simp only [execOp, hop, Sem.run_bind]
  exact (congrArg (fun r => Result.andThen r _) hrun).trans rfl
theorem s_build_array {o : Oper} {a : Act} {T : Tm} {t e : TypeId} {n size : Nat} {ps : Array (Nat × Operand)} {z cs : List AV} {qs : List (Nat × AV)} (hs : Sim G B0 w0 w s M) (hT : TmR w s M T a) (hop : o.op = .build t ps) (hz : zeroCellsT P t = some z) (hps : parts G T ps.toList = some qs)
    (hu : P.underlying t = some (.array n e)) (hsz : sizeT P e = some size) (hf : fillA (fun i => some (i * size, size)) z qs = some cs) : OpOk P G B0 w0 w s M o a (.agg cs) s := by
  obtain ⟨zv, hz1, hz2⟩ := zeroCells_some hz
  obtain ⟨cv, g1, g2⟩ := fill_sound (zv := zv.cells) hf (parts_sound hs hT hps) (VRl_scAll hz2)
  refine ok_here hs (v := .agg cv) ?_ (by unfold VR; exact ⟨cv, rfl, g2⟩)
  have hrun : (Instr.build t (ps.map fun (i, x) => (i, a.eval x))).run P w = .ok (.agg cv) w := by
    simp only [Instr.build, Sem.run_bind, run_zeroValue hz1, Result.andThen_ok, run_underlying hu, run_sizeOf hsz, Array.toList_map, g1, Sem.run_pure]
  simp only [execOp, hop, Sem.run_bind]
  exact (congrArg (fun r => Result.andThen r _) hrun).trans rfl
theorem s_buildSlice {o : Oper} {a : Act} {T : Tm} {t e : TypeId} {len size : Nat} {ps : Array (Nat × Operand)} {z cs : List AV} {qs : List (Nat × AV)} (hs : Sim G B0 w0 w s M) (hT : TmR w s M T a) (hop : o.op = .buildSlice t len ps) (hu : P.underlying t = some (.slice e)) (hsz : sizeT P e = some size)
    (hz : zeroCellsT P e = some z) (hps : parts G T ps.toList = some qs) (hzl : z.length = size) (hm : len * size ≤ 2 ^ 24) (hf : fillA (fun i => some (i * size, size)) (rep z len) qs = some cs) (hc : cs.all isCell = true) :
    OpOk P G B0 w0 w s M o a (.sl cs len none) s := by
  obtain ⟨zv, hz1, hz2⟩ := zeroCells_some hz
  have hzs : zv.cells.size = size := by have := (VRl_scAll (w := w) (s := s) (M := M) hz2).length; rw [hzl] at this; simp at this; exact this.symm
  obtain ⟨cv, g1, g2⟩ := fill_sound (w := w) (s := s) (M := M) (zv := ((List.replicate len zv.cells.toList).flatten).toArray) hf (parts_sound hs hT hps) (VRl_rep (VRl_scAll hz2) len)
  have flen : ∀ {place : Nat → Option (Nat × Nat)} {ps : List (Nat × AV)} {z cs : List AV}, fillA place z ps = some cs → cs.length = z.length := by
    intro place ps
    induction ps with
    | nil => intro z cs h; simp only [fillA, Option.some.injEq] at h; rw [h]
    | cons p r ih =>
      intro z cs h
      obtain ⟨i, x⟩ := p
      simp only [fillA] at h
      split at h
      · cases h
      · split at h
        · rename_i hcc
          rw [Bool.and_eq_true, Bool.and_eq_true] at hcc
          have h1 := nbe hcc.1.1
          have h2 := Nat.le_of_ble_eq_true hcc.1.2
          rw [ih h]
          simp only [List.length_append, List.length_take, List.length_drop, h1]
          omega
        · cases h
  have hcl : cs.length = len * size := by rw [flen hf, length_rep, hzl]
  have hcv : cv.size = len * size := by have := g2.length; rw [hcl] at this; simp at this; exact this.symm
  obtain ⟨hs', hE⟩ := sim_frame hs (w' := w.alloc (.cells cv e)) ((Below.refl _ _).alloc (Nat.le_refl _) _)
  have hzc : (Array.range (len * size)).map (fun i => zv.cells[i % zv.cells.size]!) = ((List.replicate len zv.cells.toList).flatten).toArray := by rw [← hzs]; exact cyc_eq _ _
  have hrun : (Instr.buildSlice t len (ps.map fun (i, x) => (i, a.eval x))).run P w = .ok (.slice (some ⟨w.heap.size, 0, none⟩) len len) (w.alloc (.cells cv e)) := by
    have hm' : ¬ (16777216 < len * size) := by omega
    by_cases h0 : len * size = 0
    · have hemp : ((List.replicate len zv.cells.toList).flatten).toArray = (#[] : Array Value) := by
        apply Array.eq_empty_of_size_eq_zero
        simp [hzs, h0]
      rw [hemp] at g1
      have g1' : Instr.fill (fun i => some (i * size, size)) ((Array.range 0).map fun (_ : Nat) => (default : Value)) (ps.toList.map fun x => (x.fst, a.eval x.snd)) = some cv := by
        have e0 : ((Array.range 0).map fun (_ : Nat) => (default : Value)) = #[] := by simp [Array.range_zero']
        rw [e0]; exact g1
      simp only [Instr.buildSlice, Sem.run_bind, run_underlying hu, Result.andThen_ok, run_sizeOf hsz, h0, Array.toList_map, Sem.run_ite, Sem.run_pure]
      simp only [Nat.not_lt_zero, if_false, if_true, Nat.reducePow, gt_iff_lt]
      simp [g1', newRow]
    · simp only [Instr.buildSlice, Sem.run_bind, run_underlying hu, Result.andThen_ok, run_sizeOf hsz, Array.toList_map, Sem.run_ite, Sem.run_pure]
      simp only [h0, if_false, run_zeroValue hz1, Result.andThen_ok, Nat.reducePow, gt_iff_lt, hm', hzc, g1]
      simp [newRow]
  refine ok_value (v := .slice (some ⟨w.heap.size, 0, none⟩) len len) ?_ ?_ hs' hE
  · simp only [execOp, hop, Sem.run_bind]
    exact (congrArg (fun r => Result.andThen r _) hrun).trans rfl
  · unfold VR
    refine ⟨w.heap.size, 0, len, rfl, Nat.le_refl _, ?_, fun t' ht' => by cases ht'⟩
    refine VRs.of_get fun i c hi => ?_
    rcases g2.get i with ⟨h1, _⟩ | ⟨c', v, h1, h2, h3⟩
    · rw [h1] at hi; cases hi
    · rw [h1] at hi; cases hi
      refine ⟨v, ?_, h3.ext hE, (List.all_eq_true.1 hc) c (List.mem_of_getElem? h1), fun j o' hj hg hbk => ?_, out_new hs (Nat.le_refl _)⟩
      · simp only [Nat.zero_add]
        rw [show (w.alloc (.cells cv e)).cell? ⟨w.heap.size, i, none⟩ = cv[i]? by simp only [World.cell?, heap_new]; rfl]
        simpa using h2
      · have := (hs.blk j hj).2
        omega
theorem s_buildSliceRow {o : Oper} {a : Act} {T : Tm} {t e : TypeId} {len size : Nat} {ps : Array (Nat × Operand)} {z cs : List AV} {qs : List (Nat × AV)} (hs : Sim G B0 w0 w s M) (hT : TmR w s M T a) (hop : o.op = .buildSlice t len ps) (hu : P.underlying t = some (.slice e)) (hsz : sizeT P e = some size)
    (hz : zeroCellsT P e = some z) (hps : parts G T ps.toList = some qs) (hzl : z.length = size) (hm : len * size ≤ 2 ^ 24) (hr : s.room = true) (hf : fillA (fun i => some (i * size, size)) (rep z len) qs = some cs) (hc : cs.all isCell = true) :
    OpOk P G B0 w0 w s M o a (.sl cs len (some s.n)) (s.new (.row (.c (len * size)) size)) := by
  obtain ⟨zv, hz1, hz2⟩ := zeroCells_some hz
  have hzs : zv.cells.size = size := by have := (VRl_scAll (w := w) (s := s) (M := M) hz2).length; rw [hzl] at this; simp at this; exact this.symm
  obtain ⟨cv, g1, g2⟩ := fill_sound (w := w) (s := s) (M := M) (zv := ((List.replicate len zv.cells.toList).flatten).toArray) hf (parts_sound hs hT hps) (VRl_rep (VRl_scAll hz2) len)
  have flen : ∀ {place : Nat → Option (Nat × Nat)} {ps : List (Nat × AV)} {z cs : List AV}, fillA place z ps = some cs → cs.length = z.length := by
    intro place ps
    induction ps with
    | nil => intro z cs h; simp only [fillA, Option.some.injEq] at h; rw [h]
    | cons p r ih =>
      intro z cs h
      obtain ⟨i, x⟩ := p
      simp only [fillA] at h
      split at h
      · cases h
      · split at h
        · rename_i hcc
          rw [Bool.and_eq_true, Bool.and_eq_true] at hcc
          have h1 := nbe hcc.1.1
          have h2 := Nat.le_of_ble_eq_true hcc.1.2
          rw [ih h]
          simp only [List.length_append, List.length_take, List.length_drop, h1]
          omega
        · cases h
  have hcl : cs.length = len * size := by rw [flen hf, length_rep, hzl]
  have hcv : cv.size = len * size := by have := g2.length; rw [hcl] at this; simp at this; exact this.symm
  obtain ⟨hs', hE⟩ := new_row hs hr (vs := cv) e (0, 0) (.c (len * size)) size len hcv (show len * size ≤ _ by omega) (.inl rfl)
  have hzc : (Array.range (len * size)).map (fun i => zv.cells[i % zv.cells.size]!) = ((List.replicate len zv.cells.toList).flatten).toArray := by rw [← hzs]; exact cyc_eq _ _
  have hrun : (Instr.buildSlice t len (ps.map fun (i, x) => (i, a.eval x))).run P w = .ok (.slice (some ⟨w.heap.size, 0, none⟩) len len) (w.alloc (.cells cv e)) := by
    have hm' : ¬ (16777216 < len * size) := by omega
    by_cases h0 : len * size = 0
    · have hemp : ((List.replicate len zv.cells.toList).flatten).toArray = (#[] : Array Value) := by
        apply Array.eq_empty_of_size_eq_zero
        simp [hzs, h0]
      rw [hemp] at g1
      have g1' : Instr.fill (fun i => some (i * size, size)) ((Array.range 0).map fun (_ : Nat) => (default : Value)) (ps.toList.map fun x => (x.fst, a.eval x.snd)) = some cv := by
        have e0 : ((Array.range 0).map fun (_ : Nat) => (default : Value)) = #[] := by simp [Array.range_zero']
        rw [e0]; exact g1
      simp only [Instr.buildSlice, Sem.run_bind, run_underlying hu, Result.andThen_ok, run_sizeOf hsz, h0, Array.toList_map, Sem.run_ite, Sem.run_pure]
      simp only [Nat.not_lt_zero, if_false, if_true, Nat.reducePow, gt_iff_lt]
      simp [g1', newRow]
    · simp only [Instr.buildSlice, Sem.run_bind, run_underlying hu, Result.andThen_ok, run_sizeOf hsz, Array.toList_map, Sem.run_ite, Sem.run_pure]
      simp only [h0, if_false, run_zeroValue hz1, Result.andThen_ok, Nat.reducePow, gt_iff_lt, hm', hzc, g1]
      simp [newRow]
  refine ok_value (v := .slice (some ⟨w.heap.size, 0, none⟩) len len) ?_ ?_ hs' hE
  · simp only [execOp, hop, Sem.run_bind]
    exact (congrArg (fun r => Result.andThen r _) hrun).trans rfl
  · have hgn : (s.new (.row (.c (len * size)) size)).get s.n = some (.row (.c (len * size)) size) := by rw [St.get_new _ _ _ (room_lt hr)]; exact if_pos rfl
    have hbn : (M.add s.n w.heap.size len).blk s.n = w.heap.size := by simp [Mp.add]
    have hlt : s.n < (s.new (.row (.c (len * size)) size)).n := by simp [St.new]
    unfold VR
    refine ⟨w.heap.size, 0, len, rfl, Nat.le_refl _, ?_, fun t' ht' => ?_⟩
    · have := VRs_row hs' hlt hgn (c := cv) (e := e) (fr := (0, 0)) (by rw [hbn]; exact heap_new w _) (cs := cs) (by rw [List.take_of_length_le (by simp; omega)]; exact g2.ext hE) (by show _ ≤ len * size; omega) hc
      rw [hbn] at this; exact this
    · cases ht'
      exact ⟨hlt, fun tip e' _ => by simp [Mp.add]⟩
end
end Go.Ab
