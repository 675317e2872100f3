/- The evaluator's operations against the model's: copies, structs built, calls. -/
import Derived.Test.YtaeeblcdggjokaaGreatDoorMa
import Derived.Lib.Builder
import Derived.Lib.UnsafeStr
import Derived.Laws.Externs
import Derived.KernelRfl
import Derived.Laws.Strings
import Derived.RecoverIn
namespace Go.Ab
set_option linter.unusedVariables false
set_option linter.unusedSimpArgs false
set_option linter.unusedSectionVars false
set_option linter.constructorNameAsVariable false
open Go Go.RowKit

section
variable [Interp] {P : Program} {G : Nat → Option (List AV)} {B0 : Nat} {w0 w : World} {s : St} {M : Mp}

/-! ### Copies -/
theorem extract_map (x : ByteArray) (k : Nat) : (x.extract 0 k).data.map (fun b => Value.int .u8 b.toNat) = ((x.data.toList.map fun b => Value.int .u8 b.toNat).take k).toArray := by
  apply Array.toList_inj.1
  rw [Array.toList_map, ByteArray.data_extract, Array.toList_extract, List.extract_eq_take_drop, ← List.map_take]
  simp
theorem heldBy_first (hs : Sim G B0 w0 w s M) {size n : Nat} {c : AV} {ys : List AV} {v : Value} (h : heldBy s size c = some (ys, n)) (hv : VR w s M c v) (hl : ys.length = n * size) :
    ∃ vs, VRl w s M ys vs ∧ (∀ W : World, (Builtin.lenOf v).run P W = .ok n W) ∧ ∀ k, k ≤ n → (Builtin.firstCells size k v).run P w = .ok (vs.take (k * size)).toArray w := by
  obtain ⟨vs, h1, h2, h3, _⟩ := heldBy_sound (P := P) hs h hv hl
  refine ⟨vs, h1, h2, fun k hk => ?_⟩
  have hvl : vs.length = n * size := by rw [← h1.length, hl]
  have hks : k * size ≤ n * size := Nat.mul_le_mul_right _ hk
  unfold heldBy at h
  split at h
  · simp only [Option.some.injEq, Prod.mk.injEq] at h
    obtain ⟨rfl, rfl⟩ := h
    obtain ⟨rfl, _⟩ := VR_v.1 hv
    have : k = 0 := by omega
    subst this
    simp [Builtin.firstCells]
  · simp only [Option.some.injEq, Prod.mk.injEq] at h
    obtain ⟨rfl, rfl⟩ := h
    unfold VR at hv; obtain ⟨b, off, rfl⟩ := hv
    have : k = 0 := by omega
    subst this
    have := run_firstCells_some (P := P) w size 0 ⟨b, off, none⟩ 0 0 [] (by simp) (by simp); simpa using this
  · rename_i cs len tok
    split at h
    · simp only [Option.some.injEq, Prod.mk.injEq] at h
      obtain ⟨rfl, rfl⟩ := h
      unfold VR at hv; obtain ⟨b, off, cap, rfl, hle, hv, _⟩ := hv
      obtain ⟨us, g1, g2⟩ := (hv.take (len * size)).vals
      have hu : us.length = len * size := by rw [← g1.length, hl]
      have e1 := run_firstCells_some (P := P) w size len ⟨b, off, none⟩ len cap us hu fun j x hj => by rw [add_eq]; exact g2 j x hj
      rw [h3] at e1
      have e2 : vs = us := by
        simp only [Result.ok.injEq, and_true] at e1
        simpa using congrArg Array.toList e1
      subst e2
      refine run_firstCells_some (P := P) w size k ⟨b, off, none⟩ len cap _ (by rw [List.length_take]; omega) fun j x hj => ?_
      rw [add_eq]
      rw [List.getElem?_take] at hj
      split at hj
      · exact g2 j x hj
      · cases hj
    · cases h
  · rename_i b off len
    split at h
    · rename_i c esz hg
      split at h
      · simp only [Option.some.injEq, Prod.mk.injEq] at h
        obtain ⟨rfl, rfl⟩ := h
        unfold VR at hv; obtain ⟨hb, cap, hle, rfl⟩ := hv
        obtain ⟨d, e, fr, q1, q2, _⟩ := hs.obj b _ hb hg
        have ha := (((at_block q1).take c.length).drop off).take (len * size)
        rw [Nat.zero_add] at ha
        have hlen : (((d.toList.take c.length).drop off).take (len * size)).length = len * size := by rw [← ((q2.drop off).take (len * size)).length, hl]
        have e1 := run_firstCells_some (P := P) w size len ⟨M.blk b, off, none⟩ len cap _ hlen fun j x hj => by rw [add_eq]; exact ha j x hj
        rw [h3] at e1
        have e2 : vs = ((d.toList.take c.length).drop off).take (len * size) := by
          simp only [Result.ok.injEq, and_true] at e1
          simpa using congrArg Array.toList e1
        refine run_firstCells_some (P := P) w size k ⟨M.blk b, off, none⟩ len cap _ (by rw [List.length_take]; omega) fun j x hj => ?_
        rw [add_eq]
        rw [List.getElem?_take, e2] at hj
        split at hj
        · exact ha j x hj
        · cases hj
      · cases h
    · cases h
  · rename_i b len
    split at h
    · rename_i c esz hg
      split at h
      · simp only [Option.some.injEq, Prod.mk.injEq] at h
        obtain ⟨rfl, rfl⟩ := h
        unfold VR at hv; obtain ⟨hb, hle, rfl⟩ := hv
        obtain ⟨d, e, fr, q1, q2, _⟩ := hs.obj b _ hb hg
        have ha := ((at_block q1).take c.length).take (len * size)
        have hlen : ((d.toList.take c.length).take (len * size)).length = len * size := by rw [← (q2.take (len * size)).length, hl]
        have e1 := run_firstCells_some (P := P) w size len ⟨M.blk b, 0, none⟩ len (M.cap b) _ hlen fun j x hj => by rw [add_eq]; exact ha j x hj
        rw [h3] at e1
        have e2 : vs = (d.toList.take c.length).take (len * size) := by
          simp only [Result.ok.injEq, and_true] at e1
          simpa using congrArg Array.toList e1
        refine run_firstCells_some (P := P) w size k ⟨M.blk b, 0, none⟩ len (M.cap b) _ (by rw [List.length_take]; omega) fun j x hj => ?_
        rw [add_eq]
        rw [List.getElem?_take, e2] at hj
        split at hj
        · exact ha j x hj
        · cases hj
      · cases h
    · cases h
  · split at h
    · rename_i x hsz
      have hsz := nbe hsz
      subst hsz
      simp only [Option.some.injEq, Prod.mk.injEq] at h
      obtain ⟨rfl, rfl⟩ := h
      obtain ⟨rfl, _⟩ := VR_v.1 hv
      have e1 := h3
      simp only [Builtin.firstCells, Sem.run_pure, Result.ok.injEq, and_true] at e1
      rw [extract_map] at e1
      have e2 : vs = x.data.toList.map fun b => Value.int .u8 b.toNat := by
        have := congrArg Array.toList e1
        simp only at this
        rw [← this, List.take_of_length_le (by simp)]
      simp only [Builtin.firstCells, Sem.run_pure]
      rw [extract_map, e2, Nat.mul_one]
    · cases h
  · cases h

theorem s_copy {o : Oper} {a : Act} {T : Tm} {c : Go.Call} {t0 e : TypeId} {y : AV} {b off len n size esz : Nat} {ys ds : List AV} (hs : Sim G B0 w0 w s M) (hT : TmR w s M T a) (hop : o.op = .call c) (hc : c.callee = .builtin .copy) (hA0 : c.argTypes[0]? = some t0) (ht0 : P.underlying t0 = some (.slice e))
    (hargs : opds G T c.args.toList = some [.ms b off len, y]) (hn : sizeT P e = some size) (hh : heldBy s size y = some (ys, n)) (hyl : ys.length = n * size) (hg : s.get b = some (.box ds esz)) (h1 : off + Nat.min n len * size ≤ ds.length) (h3 : (ys.take (Nat.min n len * size)).all isCell = true) :
    OpOk P G B0 w0 w s M o a (.v (goInt (Nat.min n len))) (s.put b (.box (ds.take off ++ ys.take (Nat.min n len * size) ++ ds.drop (off + Nat.min n len * size)) esz)) := by
  have va := opds_sound hs hT hargs
  rw [← Array.toList_map] at va
  unfold VRl at va; obtain ⟨v1, t1, e1, k1, va⟩ := va
  unfold VRl at va; obtain ⟨v2, t2, rfl, k2, va⟩ := va
  unfold VRl at va; subst va
  unfold VR at k1; obtain ⟨hb, cap, hle, rfl⟩ := k1
  obtain ⟨vs, hvs, hlen, hf⟩ := heldBy_first (P := P) hs hh k2 hyl
  have hargs' : c.args.map a.eval = #[.slice (some ⟨M.blk b, off, none⟩) len cap, v2] := by apply Array.toList_inj.1; rw [e1]
  have hk : Nat.min n len ≤ n := Nat.min_le_left _ _
  have htl : (ys.take (Nat.min n len * size)).length = Nat.min n len * size := by rw [List.length_take, hyl]; have := Nat.mul_le_mul_right size hk; omega
  have hf := hf _ hk
  have hvt := hvs.take (Nat.min n len * size)
  obtain ⟨hr, hs', hE⟩ := write_box (P := P) hs hb hg hvt (by rw [htl]; exact h1) h3
  rw [htl] at hs' hE
  refine ok_value (v := goInt (Nat.min n len)) ?_ (VR_v_of rfl) hs' hE
  have key : (Builtin.copy_ c.argTypes o.type (c.args.map a.eval)).run P w = .ok (goInt (Nat.min n len)) (w.setCells (M.blk b) off (vs.take (Nat.min n len * size))) := by
    rw [hargs']
    simp [Builtin.copy_, hA0, run_underlying ht0, hlen, run_sizeOf hn, hf, hr]
  simp [execOp, hop, resolve, hc, invoke, builtin, key]

/-! ### Structs and rows built of their parts -/
theorem fold_set (off : Nat) : ∀ (vs : List Value) (k : Nat) (cells : Array Value), off + k + vs.length ≤ cells.size →
    ((vs.zipIdx k).foldl (fun cs (x : Value × Nat) => cs.setIfInBounds (off + x.2) x.1) cells).toList = cells.toList.take (off + k) ++ vs ++ cells.toList.drop (off + k + vs.length)
  | [], k, cells, h => by simp
  | v :: r, k, cells, h => by
    simp only [List.length_cons] at h
    rw [List.zipIdx_cons, List.foldl_cons, fold_set off r (k + 1) _ (by simp; omega)]
    rw [Array.toList_setIfInBounds]
    have hlen : off + k < cells.toList.length := by simp; omega
    rw [List.set_eq_take_append_cons_drop, if_pos hlen]
    have e1 : (cells.toList.take (off + k) ++ v :: cells.toList.drop (off + k + 1)).take (off + (k + 1)) = cells.toList.take (off + k) ++ [v] := by
      rw [List.take_append, List.take_of_length_le (by simp; omega)]
      congr 1
      simp only [List.length_take]
      rw [show off + (k + 1) - min (off + k) cells.toList.length = 1 by omega]; rfl
    have e2 : (cells.toList.take (off + k) ++ v :: cells.toList.drop (off + k + 1)).drop (off + (k + 1) + r.length) = cells.toList.drop (off + k + (v :: r).length) := by
      rw [List.drop_append, List.drop_eq_nil_of_le (by simp; omega), List.nil_append]
      simp only [List.length_take, List.length_cons]
      rw [show off + (k + 1) + r.length - min (off + k) cells.toList.length = r.length + 1 by omega, List.drop_succ_cons, List.drop_drop]
      congr 1
      omega
    rw [e1, e2]
    simp
def PR (w : World) (s : St) (M : Mp) : List (Nat × AV) → List (Nat × Value) → Prop
  | [], ps => ps = []
  | (i, x) :: r, ps => ∃ v t, ps = (i, v) :: t ∧ VR w s M x v ∧ PR w s M r t
theorem fill_sound {place : Nat → Option (Nat × Nat)} : ∀ {ps : List (Nat × AV)} {pv : List (Nat × Value)} {z cs : List AV} {zv : Array Value}, fillA place z ps = some cs → PR w s M ps pv → VRl w s M z zv.toList →
    ∃ cv, Instr.fill place zv pv = some cv ∧ VRl w s M cs cv.toList
  | [], pv, z, cs, zv, h, hp, hz => by
    simp only [fillA, Option.some.injEq] at h; subst h
    simp only [PR] at hp; subst hp
    exact ⟨zv, rfl, hz⟩
  | (i, x) :: r, pv, z, cs, zv, h, hp, hz => by
    obtain ⟨v, t, rfl, k1, k2⟩ := hp
    simp only [fillA] at h
    cases hpl : place i with
    | none => rw [hpl] at h; cases h
    | some q =>
      obtain ⟨off, size⟩ := q
      rw [hpl] at h
      simp only at h
      split at h
      · rename_i hc
        rw [Bool.and_eq_true, Bool.and_eq_true] at hc
        have h1 := nbe hc.1.1
        have h2 := Nat.le_of_ble_eq_true hc.1.2
        have hcv := VR_cellsOf hc.2 k1
        have hvs : v.cells.size = size := by have := hcv.length; rw [h1] at this; simp at this; exact this.symm
        have hzl := hz.length
        simp only [Array.length_toList] at hzl
        have hfs := fold_set off v.cells.toList 0 zv (by simp; omega)
        have hfs' : (v.cells.zipIdx.foldl (fun cs (x : Value × Nat) => cs.setIfInBounds (off + x.2) x.1) zv).toList = zv.toList.take off ++ v.cells.toList ++ zv.toList.drop (off + size) := by
          rw [← Array.foldl_toList, Array.toList_zipIdx, hfs]
          simp [hvs]
        have hz' : VRl w s M (z.take off ++ cellsOf x ++ z.drop (off + size)) (v.cells.zipIdx.foldl (fun cs (x : Value × Nat) => cs.setIfInBounds (off + x.2) x.1) zv).toList := by
          rw [hfs']; exact ((hz.take off).append hcv).append (hz.drop (off + size))
        obtain ⟨cv, g1, g2⟩ := fill_sound h k2 hz'
        refine ⟨cv, ?_, g2⟩
        simp only [Instr.fill, hpl]
        rw [if_neg (by simp [hvs]; omega)]
        exact g1
      · cases h
theorem parts_sound (hs : Sim G B0 w0 w s M) {T : Tm} {a : Act} (hT : TmR w s M T a) : ∀ {ps : List (Nat × Operand)} {qs : List (Nat × AV)}, parts G T ps = some qs → PR w s M qs (ps.map fun (i, x) => (i, a.eval x))
  | [], qs, h => by simp only [parts, Option.some.injEq] at h; subst h; rfl
  | (i, x) :: r, qs, h => by
    simp only [parts, Option.bind_eq_bind, Option.bind_eq_some_iff, Option.pure_def, Option.some.injEq] at h
    obtain ⟨c, h1, d, h2, rfl⟩ := h
    exact ⟨_, _, rfl, opd_sound hs hT h1, parts_sound hs hT h2⟩
theorem run_places : ∀ {fs : List Field} {pl : List (Nat × Nat)}, places P fs = some pl → (fs.mapM fun f => do pure (f.offset, ← sizeOf f.type) : Sem (List (Nat × Nat))).run P w = .ok pl w
  | [], pl, h => by simp only [places, Option.some.injEq] at h; subst h; rfl
  | f :: r, pl, h => by
    simp only [places, Option.bind_eq_bind, Option.bind_eq_some_iff, Option.pure_def, Option.some.injEq] at h
    obtain ⟨n, h1, q, h2, rfl⟩ := h
    rw [List.mapM_cons]
    have ih := run_places h2
    simp only [Sem.run_bind, run_sizeOf h1, Result.andThen_ok, Sem.run_pure, ih]
theorem s_build_struct {o : Oper} {a : Act} {T : Tm} {t : TypeId} {ps : Array (Nat × Operand)} {z cs : List AV} {qs : List (Nat × AV)} {fs : Array Field} {pl : List (Nat × Nat)} (hs : Sim G B0 w0 w s M) (hT : TmR w s M T a) (hop : o.op = .build t ps) (hz : zeroCellsT P t = some z) (hps : parts G T ps.toList = some qs)
    (hu : P.underlying t = some (.struct fs)) (hpl : places P fs.toList = some pl) (hf : fillA (pl[·]?) z qs = some cs) : OpOk P G B0 w0 w s M o a (.agg cs) s := by
  obtain ⟨zv, hz1, hz2⟩ := zeroCells_some hz
  obtain ⟨cv, g1, g2⟩ := fill_sound (zv := zv.cells) hf (parts_sound hs hT hps) (VRl_scAll hz2)
  refine ok_here hs (v := .agg cv) ?_ (by unfold VR; exact ⟨cv, rfl, g2⟩)
  have hm : (fs.mapM fun f => do pure (f.offset, ← sizeOf f.type) : Sem (Array (Nat × Nat))).run P w = .ok pl.toArray w := by
    rw [Array.mapM_eq_mapM_toList, Sem.run_map, run_places hpl]; rfl
  have g1' : Instr.fill (fun i => pl.toArray[i]?) zv.cells (ps.toList.map fun (i, x) => (i, a.eval x)) = some cv := by
    rw [← g1]; congr 1; funext i; simp
  have hrun : (Instr.build t (ps.map fun (i, x) => (i, a.eval x))).run P w = .ok (.agg cv) w := by
    simp only [Instr.build, Sem.run_bind, run_zeroValue hz1, Result.andThen_ok, run_underlying hu, hm, Array.toList_map, g1', Sem.run_pure]
  simp only [execOp, hop, Sem.run_bind]
  exact (congrArg (fun r => Result.andThen r _) hrun).trans rfl
theorem s_build_array {o : Oper} {a : Act} {T : Tm} {t e : TypeId} {n size : Nat} {ps : Array (Nat × Operand)} {z cs : List AV} {qs : List (Nat × AV)} (hs : Sim G B0 w0 w s M) (hT : TmR w s M T a) (hop : o.op = .build t ps) (hz : zeroCellsT P t = some z) (hps : parts G T ps.toList = some qs)
    (hu : P.underlying t = some (.array n e)) (hsz : sizeT P e = some size) (hf : fillA (fun i => some (i * size, size)) z qs = some cs) : OpOk P G B0 w0 w s M o a (.agg cs) s := by
  obtain ⟨zv, hz1, hz2⟩ := zeroCells_some hz
  obtain ⟨cv, g1, g2⟩ := fill_sound (zv := zv.cells) hf (parts_sound hs hT hps) (VRl_scAll hz2)
  refine ok_here hs (v := .agg cv) ?_ (by unfold VR; exact ⟨cv, rfl, g2⟩)
  have hrun : (Instr.build t (ps.map fun (i, x) => (i, a.eval x))).run P w = .ok (.agg cv) w := by
    simp only [Instr.build, Sem.run_bind, run_zeroValue hz1, Result.andThen_ok, run_underlying hu, run_sizeOf hsz, Array.toList_map, g1, Sem.run_pure]
  simp only [execOp, hop, Sem.run_bind]
  exact (congrArg (fun r => Result.andThen r _) hrun).trans rfl
theorem s_buildSlice {o : Oper} {a : Act} {T : Tm} {t e : TypeId} {len size : Nat} {ps : Array (Nat × Operand)} {z cs : List AV} {qs : List (Nat × AV)} (hs : Sim G B0 w0 w s M) (hT : TmR w s M T a) (hop : o.op = .buildSlice t len ps) (hu : P.underlying t = some (.slice e)) (hsz : sizeT P e = some size)
    (hz : zeroCellsT P e = some z) (hps : parts G T ps.toList = some qs) (hzl : z.length = size) (hm : len * size ≤ 2 ^ 24) (hf : fillA (fun i => some (i * size, size)) (rep z len) qs = some cs) (hc : cs.all isCell = true) :
    OpOk P G B0 w0 w s M o a (.sl cs len none) s := by
  obtain ⟨zv, hz1, hz2⟩ := zeroCells_some hz
  have hzs : zv.cells.size = size := by have := (VRl_scAll (w := w) (s := s) (M := M) hz2).length; rw [hzl] at this; simp at this; exact this.symm
  obtain ⟨cv, g1, g2⟩ := fill_sound (w := w) (s := s) (M := M) (zv := ((List.replicate len zv.cells.toList).flatten).toArray) hf (parts_sound hs hT hps) (VRl_rep (VRl_scAll hz2) len)
  have flen : ∀ {place : Nat → Option (Nat × Nat)} {ps : List (Nat × AV)} {z cs : List AV}, fillA place z ps = some cs → cs.length = z.length := by
    intro place ps
    induction ps with
    | nil => intro z cs h; simp only [fillA, Option.some.injEq] at h; rw [h]
    | cons p r ih =>
      intro z cs h
      obtain ⟨i, x⟩ := p
      simp only [fillA] at h
      split at h
      · cases h
      · split at h
        · rename_i hcc
          rw [Bool.and_eq_true, Bool.and_eq_true] at hcc
          have h1 := nbe hcc.1.1
          have h2 := Nat.le_of_ble_eq_true hcc.1.2
          rw [ih h]
          simp only [List.length_append, List.length_take, List.length_drop, h1]
          omega
        · cases h
  have hcl : cs.length = len * size := by rw [flen hf, length_rep, hzl]
  have hcv : cv.size = len * size := by have := g2.length; rw [hcl] at this; simp at this; exact this.symm
  obtain ⟨hs', hE⟩ := sim_frame hs (w' := w.alloc (.cells cv e)) ((Below.refl _ _).alloc (Nat.le_refl _) _)
  have hzc : (Array.range (len * size)).map (fun i => zv.cells[i % zv.cells.size]!) = ((List.replicate len zv.cells.toList).flatten).toArray := by rw [← hzs]; exact cyc_eq _ _
  have hrun : (Instr.buildSlice t len (ps.map fun (i, x) => (i, a.eval x))).run P w = .ok (.slice (some ⟨w.heap.size, 0, none⟩) len len) (w.alloc (.cells cv e)) := by
    have hm' : ¬ (16777216 < len * size) := by omega
    by_cases h0 : len * size = 0
    · have hemp : ((List.replicate len zv.cells.toList).flatten).toArray = (#[] : Array Value) := by
        apply Array.eq_empty_of_size_eq_zero
        simp [hzs, h0]
      rw [hemp] at g1
      have g1' : Instr.fill (fun i => some (i * size, size)) ((Array.range 0).map fun (_ : Nat) => (default : Value)) (ps.toList.map fun x => (x.fst, a.eval x.snd)) = some cv := by
        have e0 : ((Array.range 0).map fun (_ : Nat) => (default : Value)) = #[] := by simp [Array.range_zero']
        rw [e0]; exact g1
      simp only [Instr.buildSlice, Sem.run_bind, run_underlying hu, Result.andThen_ok, run_sizeOf hsz, h0, Array.toList_map, Sem.run_ite, Sem.run_pure]
      simp only [Nat.not_lt_zero, if_false, if_true, Nat.reducePow, gt_iff_lt]
      simp [g1', newRow]
    · simp only [Instr.buildSlice, Sem.run_bind, run_underlying hu, Result.andThen_ok, run_sizeOf hsz, Array.toList_map, Sem.run_ite, Sem.run_pure]
      simp only [h0, if_false, run_zeroValue hz1, Result.andThen_ok, Nat.reducePow, gt_iff_lt, hm', hzc, g1]
      simp [newRow]
  refine ok_value (v := .slice (some ⟨w.heap.size, 0, none⟩) len len) ?_ ?_ hs' hE
  · simp only [execOp, hop, Sem.run_bind]
    exact (congrArg (fun r => Result.andThen r _) hrun).trans rfl
  · unfold VR
    refine ⟨w.heap.size, 0, len, rfl, Nat.le_refl _, ?_, fun t' ht' => by cases ht'⟩
    refine VRs.of_get fun i c hi => ?_
    rcases g2.get i with ⟨h1, _⟩ | ⟨c', v, h1, h2, h3⟩
    · rw [h1] at hi; cases hi
    · rw [h1] at hi; cases hi
      refine ⟨v, ?_, h3.ext hE, (List.all_eq_true.1 hc) c (List.mem_of_getElem? h1), fun j o' hj hg hbk => ?_, out_new hs (Nat.le_refl _)⟩
      · simp only [Nat.zero_add]
        rw [show (w.alloc (.cells cv e)).cell? ⟨w.heap.size, i, none⟩ = cv[i]? by simp only [World.cell?, heap_new]; rfl]
        simpa using h2
      · have := (hs.blk j hj).2
        omega
theorem s_buildSliceRow {o : Oper} {a : Act} {T : Tm} {t e : TypeId} {len size : Nat} {ps : Array (Nat × Operand)} {z cs : List AV} {qs : List (Nat × AV)} (hs : Sim G B0 w0 w s M) (hT : TmR w s M T a) (hop : o.op = .buildSlice t len ps) (hu : P.underlying t = some (.slice e)) (hsz : sizeT P e = some size)
    (hz : zeroCellsT P e = some z) (hps : parts G T ps.toList = some qs) (hzl : z.length = size) (hm : len * size ≤ 2 ^ 24) (hr : s.room = true) (hf : fillA (fun i => some (i * size, size)) (rep z len) qs = some cs) (hc : cs.all isCell = true) :
    OpOk P G B0 w0 w s M o a (.sl cs len (some s.n)) (s.new (.row (.c (len * size)) size)) := by
  obtain ⟨zv, hz1, hz2⟩ := zeroCells_some hz
  have hzs : zv.cells.size = size := by have := (VRl_scAll (w := w) (s := s) (M := M) hz2).length; rw [hzl] at this; simp at this; exact this.symm
  obtain ⟨cv, g1, g2⟩ := fill_sound (w := w) (s := s) (M := M) (zv := ((List.replicate len zv.cells.toList).flatten).toArray) hf (parts_sound hs hT hps) (VRl_rep (VRl_scAll hz2) len)
  have flen : ∀ {place : Nat → Option (Nat × Nat)} {ps : List (Nat × AV)} {z cs : List AV}, fillA place z ps = some cs → cs.length = z.length := by
    intro place ps
    induction ps with
    | nil => intro z cs h; simp only [fillA, Option.some.injEq] at h; rw [h]
    | cons p r ih =>
      intro z cs h
      obtain ⟨i, x⟩ := p
      simp only [fillA] at h
      split at h
      · cases h
      · split at h
        · rename_i hcc
          rw [Bool.and_eq_true, Bool.and_eq_true] at hcc
          have h1 := nbe hcc.1.1
          have h2 := Nat.le_of_ble_eq_true hcc.1.2
          rw [ih h]
          simp only [List.length_append, List.length_take, List.length_drop, h1]
          omega
        · cases h
  have hcl : cs.length = len * size := by rw [flen hf, length_rep, hzl]
  have hcv : cv.size = len * size := by have := g2.length; rw [hcl] at this; simp at this; exact this.symm
  obtain ⟨hs', hE⟩ := new_row hs hr (vs := cv) e (0, 0) (.c (len * size)) size len hcv (show len * size ≤ _ by omega) (.inl rfl)
  have hzc : (Array.range (len * size)).map (fun i => zv.cells[i % zv.cells.size]!) = ((List.replicate len zv.cells.toList).flatten).toArray := by rw [← hzs]; exact cyc_eq _ _
  have hrun : (Instr.buildSlice t len (ps.map fun (i, x) => (i, a.eval x))).run P w = .ok (.slice (some ⟨w.heap.size, 0, none⟩) len len) (w.alloc (.cells cv e)) := by
    have hm' : ¬ (16777216 < len * size) := by omega
    by_cases h0 : len * size = 0
    · have hemp : ((List.replicate len zv.cells.toList).flatten).toArray = (#[] : Array Value) := by
        apply Array.eq_empty_of_size_eq_zero
        simp [hzs, h0]
      rw [hemp] at g1
      have g1' : Instr.fill (fun i => some (i * size, size)) ((Array.range 0).map fun (_ : Nat) => (default : Value)) (ps.toList.map fun x => (x.fst, a.eval x.snd)) = some cv := by
        have e0 : ((Array.range 0).map fun (_ : Nat) => (default : Value)) = #[] := by simp [Array.range_zero']
        rw [e0]; exact g1
      simp only [Instr.buildSlice, Sem.run_bind, run_underlying hu, Result.andThen_ok, run_sizeOf hsz, h0, Array.toList_map, Sem.run_ite, Sem.run_pure]
      simp only [Nat.not_lt_zero, if_false, if_true, Nat.reducePow, gt_iff_lt]
      simp [g1', newRow]
    · simp only [Instr.buildSlice, Sem.run_bind, run_underlying hu, Result.andThen_ok, run_sizeOf hsz, Array.toList_map, Sem.run_ite, Sem.run_pure]
      simp only [h0, if_false, run_zeroValue hz1, Result.andThen_ok, Nat.reducePow, gt_iff_lt, hm', hzc, g1]
      simp [newRow]
  refine ok_value (v := .slice (some ⟨w.heap.size, 0, none⟩) len len) ?_ ?_ hs' hE
  · simp only [execOp, hop, Sem.run_bind]
    exact (congrArg (fun r => Result.andThen r _) hrun).trans rfl
  · have hgn : (s.new (.row (.c (len * size)) size)).get s.n = some (.row (.c (len * size)) size) := by rw [St.get_new _ _ _ (room_lt hr)]; exact if_pos rfl
    have hbn : (M.add s.n w.heap.size len).blk s.n = w.heap.size := by simp [Mp.add]
    have hlt : s.n < (s.new (.row (.c (len * size)) size)).n := by simp [St.new]
    unfold VR
    refine ⟨w.heap.size, 0, len, rfl, Nat.le_refl _, ?_, fun t' ht' => ?_⟩
    · have := VRs_row hs' hlt hgn (c := cv) (e := e) (fr := (0, 0)) (by rw [hbn]; exact heap_new w _) (cs := cs) (by rw [List.take_of_length_le (by simp; omega)]; exact g2.ext hE) (by show _ ≤ len * size; omega) hc
      rw [hbn] at this; exact this
    · cases ht'
      exact ⟨hlt, fun tip e' _ => by simp [Mp.add]⟩
end
end Go.Ab
/- The evaluator's operations against the model's: pointers held against themselves, unsafe pointers and texts (strings.Builder), methods behind interfaces. -/
namespace Go.Ab
set_option linter.unusedVariables false
set_option linter.unusedSimpArgs false
set_option linter.unusedSectionVars false
set_option linter.constructorNameAsVariable false
open Go Go.RowKit

section
variable [Interp] {P : Program} {G : Nat → Option (List AV)} {B0 : Nat} {w0 w : World} {s : St} {M : Mp}

theorem s_ptrEq {o : Oper} {a : Act} {T : Tm} {op : BinOp} {t yt : TypeId} {x y : Operand} {c d : AV} {r : Bool} (hs : Sim G B0 w0 w s M) (hT : TmR w s M T a) (hop : o.op = .binOp op t x y yt) (hx : opd G T x = some c) (hy : opd G T y = some d)
    (hr : ptrEq P t c d = some r) (ho : op = .eql ∨ op = .neq) : OpOk P G B0 w0 w s M o a (.v (.bool (if op = .eql then r else !r))) s := by
  have h1 := opd_sound hs hT hx
  have h2 := opd_sound hs hT hy
  unfold ptrEq at hr
  split at hr
  · rename_i e i p j q hu
    split at hr
    · rename_i hc
      simp only [Bool.and_eq_true] at hc
      obtain ⟨⟨e1, e2⟩, e3⟩ := hc
      have e1 := nbe e1; have e2 := nbe e2
      subst e1; subst e2
      cases hr
      obtain ⟨inf, hi⟩ := Option.isSome_iff_exists.1 e3
      unfold VR at h1 h2
      obtain ⟨_, h1⟩ := h1; obtain ⟨_, h2⟩ := h2
      have heq : (Op.equal t (.pointer (some ⟨M.blk i, p, none⟩)) (.pointer (some ⟨M.blk i, p, none⟩))).run P w = .ok true w := by
        have h : ∀ d : Nat, (Op.equalIn (d + 1) t (.pointer (some ⟨M.blk i, p, none⟩)) (.pointer (some ⟨M.blk i, p, none⟩))).run P w = .ok true w := fun d => by
          simp [Op.equalIn, run_underlying hu, sizeOf, typeInfo, hi, run_sameAddr_same]
        simp [Op.equal, Op.maxDepth, h 9999]
      refine ok_here hs (v := .bool (if op = .eql then true else !true)) ?_ (VR_v_of rfl)
      have k2 : (eqGuard op t x y (a.eval x) (a.eval y)).run P w = .ok () w := by rw [h1, h2]; rcases ho with rfl | rfl <;> rfl
      have k3 : binOp .eql t (a.eval x) (a.eval y) = (do pure (.bool (← Op.equal t (a.eval x) (a.eval y)))) := by rw [h1, h2]; rfl
      have k4 : binOp .neq t (a.eval x) (a.eval y) = (do pure (.bool (!(← Op.equal t (a.eval x) (a.eval y))))) := by rw [h1, h2]; rfl
      have heq : (Op.equal t (a.eval x) (a.eval y)).run P w = .ok true w := by rw [h1, h2]; exact heq
      rcases ho with rfl | rfl
      · simp only [execOp, hop, Sem.run_bind, k2, Result.andThen_ok, k3, heq, Sem.run_pure, if_true]
      · simp only [execOp, hop, Sem.run_bind, k2, Result.andThen_ok, k4, heq, Sem.run_pure]
        rfl
    · cases hr
  · cases hr
theorem s_eqRef {o : Oper} {a : Act} {T : Tm} {op : BinOp} {t yt : TypeId} {x y : Operand} {c d : AV} {r : Bool} (hs : Sim G B0 w0 w s M) (hT : TmR w s M T a) (hop : o.op = .binOp op t x y yt) (hx : opd G T x = some c) (hy : opd G T y = some d)
    (hr : eqRef P t c d = some r) (ho : op = .eql ∨ op = .neq) : OpOk P G B0 w0 w s M o a (.v (.bool (if op = .eql then r else !r))) s := by
  unfold eqRef at hr
  split at hr
  · rename_i r' h
    cases hr; exact s_eqNil hs hT hop hx hy h ho
  · exact s_ptrEq hs hT hop hx hy hr ho

theorem cmpV_run {op : BinOp} {x y : Value} {b : Bool} (t : TypeId) (h : cmpV op x y = some b) (w : World) : (binOp op t x y).run P w = .ok (.bool b) w := by
  unfold cmpV at h
  split at h
  · rename_i k a k' c
    split at h
    · rename_i hk
      subst hk
      split at h <;> first | (cases h; done) | (cases h; simp [binOp, Op.intCmp])
    · cases h
  · rename_i a c
    split at h <;> first | (cases h; done) | (cases h; simp [binOp, Op.stringOp])
  · cases h
theorem cmpV_guard {op : BinOp} {x y : Value} {b : Bool} (t : TypeId) (ox oy : Operand) (h : cmpV op x y = some b) (w : World) : (eqGuard op t ox oy x y).run P w = .ok () w := by
  unfold cmpV at h
  split at h
  · unfold eqGuard; split <;> rfl
  · unfold eqGuard; split <;> rfl
  · cases h
theorem keyIs_eq {l m : Value} (h : keyIs l m = true) : m = l := by
  unfold keyIs at h
  split at h
  · rename_i hk; exact sameKey_eq hk
  · cases h
theorem symLook_some {op : BinOp} {l x : Value} {r : Bool} : ∀ {bits : List (BinOp × Value × Bool)}, symLook op l bits = some r → (∀ e ∈ bits, cmpV e.1 x e.2.1 = some e.2.2) → cmpV op x l = some r
  | [], h, _ => by cases h
  | (o, m, b) :: rest, h, hb => by
    unfold symLook at h
    split at h
    · rename_i hc
      rw [Bool.and_eq_true] at hc
      have h1 : o = op := by simpa using hc.1
      have h2 := keyIs_eq hc.2
      have h3 := hb (o, m, b) (by simp)
      simp only at h3
      rw [h2, h1] at h3
      rw [h3]; exact h
    · exact symLook_some h fun e he => hb e (List.mem_cons_of_mem _ he)
theorem cmpV_comm {x y : Value} {b : Bool} (h : cmpV .eql x y = some b) : cmpV .eql y x = some b := by
  unfold cmpV at h
  split at h
  · rename_i k a k' c
    split at h
    · rename_i hk
      subst hk
      unfold cmpV
      simp only [if_true] at h ⊢
      rw [← h]
      congr 1
      rw [Bool.eq_iff_iff, beq_iff_eq, beq_iff_eq]; exact ⟨Eq.symm, Eq.symm⟩
    · cases h
  · rename_i a c
    unfold cmpV
    simp only at h ⊢
    rw [← h]
    congr 1
    rw [Bool.eq_iff_iff, beq_iff_eq, beq_iff_eq]; exact ⟨Eq.symm, Eq.symm⟩
  · cases h
theorem s_symCmp {o : Oper} {a : Act} {T : Tm} {op : BinOp} {t yt : TypeId} {x y : Operand} {c d : AV} {r : Bool} (hs : Sim G B0 w0 w s M) (hT : TmR w s M T a) (hop : o.op = .binOp op t x y yt) (hx : opd G T x = some c) (hy : opd G T y = some d)
    (hr : symCmp op c d = some r) : OpOk P G B0 w0 w s M o a (.v (.bool r)) s := by
  have h1 := opd_sound hs hT hx
  have h2 := opd_sound hs hT hy
  have key : cmpV op (a.eval x) (a.eval y) = some r := by
    unfold symCmp at hr
    split at hr
    · rename_i xv bits l
      unfold VR at h1
      obtain ⟨e1, _, _, hb⟩ := h1
      rw [e1, (VR_v.1 h2).1]
      exact symLook_some hr hb
    · rename_i l xv bits
      unfold VR at h2
      obtain ⟨e1, _, _, hb⟩ := h2
      rw [e1, (VR_v.1 h1).1]
      split at hr
      · rename_i ho
        subst ho
        exact cmpV_comm (symLook_some hr hb)
      · cases hr
    · cases hr
  refine ok_here hs (v := .bool r) ?_ (VR_v_of rfl)
  simp only [execOp, hop, Sem.run_bind, cmpV_guard t x y key w, Result.andThen_ok, cmpV_run t key w, Sem.run_pure]

theorem s_toUnsafe {o : Oper} {a : Act} {T : Tm} {src dst e : TypeId} {x : Operand} {c r : AV} {s' : St} (hs : Sim G B0 w0 w s M) (hT : TmR w s M T a) (hop : o.op = .convert src dst x) (hu : P.underlying src = some (.pointer e)) (hd : P.underlying dst = some .unsafePointer)
    (hx : opd G T x = some c) (h : toUnsafe P e s c = some (r, s')) : OpOk P G B0 w0 w s M o a r s' := by
  have hv := opd_sound hs hT hx
  unfold toUnsafe at h
  split at h
  · rename_i i off
    split at h
    · rename_i cs k n hg hn
      split at h
      · rename_i hc
        simp only [Bool.and_eq_true, Bool.not_eq_true'] at hc
        cases h
        have hv' := hv
        unfold VR at hv
        obtain ⟨hi, ev⟩ := hv
        obtain ⟨vs, el, fr, h1, h2, _⟩ := hs.obj i _ hi hg
        unfold sizeT at hn
        obtain ⟨inf, hinf, rfl⟩ := Option.map_eq_some_iff.1 hn
        have hl := h2.length
        have hle := Nat.le_of_ble_eq_true hc.1
        refine ok_here hs (v := a.eval x) ?_ hv'
        have := Lib.run_to_unsafe (P := P) (src := src) (dst := dst) w ⟨M.blk i, off, none⟩ hu hd hinf (fun e0 => by rw [e0] at hc; cases hc.2) (e := el) (cells := vs.size) (by unfold World.shape?; rw [h1]) (by simp only; simp at hl; omega)
        rw [ev]
        simp [execOp, hop, ev, this]
      · cases h
    · cases h
  · cases h
theorem s_fromUnsafe {o : Oper} {a : Act} {T : Tm} {src dst e : TypeId} {x : Operand} {c r : AV} {s' : St} (hs : Sim G B0 w0 w s M) (hT : TmR w s M T a) (hop : o.op = .convert src dst x) (hu : P.underlying src = some .unsafePointer) (hd : P.underlying dst = some (.pointer e))
    (hx : opd G T x = some c) (h : fromUnsafe P e s c = some (r, s')) : OpOk P G B0 w0 w s M o a r s' := by
  have hv := opd_sound hs hT hx
  unfold fromUnsafe at h
  split at h
  · rename_i i off
    split at h
    · rename_i cs k hg
      split at h
      · rename_i hc
        simp only [Bool.and_eq_true] at hc
        obtain ⟨⟨⟨c1, c2⟩, c3⟩, c4⟩ := hc
        cases h
        have hv' := hv
        unfold VR at hv
        obtain ⟨hi, ev⟩ := hv
        obtain ⟨vs, el, fr, h1, h2, _, _, h5⟩ := hs.obj i _ hi hg
        obtain ⟨inf, hinf⟩ := Option.isSome_iff_exists.1 c3
        obtain ⟨rfl, hsz⟩ := h5.2 (Nat.le_of_ble_eq_true c1)
        have hsz := hsz (nbe c2)
        refine ok_here hs (v := a.eval x) ?_ hv'
        have := Lib.run_from_unsafe (P := P) (src := src) (dst := dst) w ⟨M.blk i, off, none⟩ hu hd hinf (e := k / tyBase - 1) (cells := vs.size) (by unfold World.shape?; rw [h1]) (by rw [hsz]; exact c4)
        rw [ev]
        simp [execOp, hop, ev, this]
      · cases h
    · cases h
  · cases h

theorem s_sliceData {o : Oper} {a : Act} {T : Tm} {c : Go.Call} {x r : AV} (hs : Sim G B0 w0 w s M) (hT : TmR w s M T a) (hop : o.op = .call c) (hc : c.callee = .builtin .unsafeSliceData) (ha : opds G T c.args.toList = some [x]) (h : sliceData x = some r) :
    OpOk P G B0 w0 w s M o a r s := by
  have hv := opds_sound hs hT ha
  unfold VRl at hv
  obtain ⟨v, t, e, hv, ht⟩ := hv
  unfold VRl at ht
  subst ht
  have eargs : c.args.map a.eval = #[v] := by apply Array.toList_inj.1; rw [Array.toList_map, e]
  unfold sliceData at h
  split at h
  · rename_i b len
    split at h
    · rename_i hl
      cases h
      unfold VR at hv
      obtain ⟨hb, hcap, rfl⟩ := hv
      have hl := Nat.le_of_ble_eq_true hl
      refine ok_here hs (v := .pointer (some ⟨M.blk b, 0, none⟩)) ?_ (by unfold VR; exact ⟨hb, rfl⟩)
      have := Lib.run_unsafeSliceData_row (P := P) w c.argTypes o.type ⟨M.blk b, 0, none⟩ len (M.cap b) (by omega)
      simp [execOp, hop, resolve, hc, invoke, builtin, eargs, this]
    · cases h
  · cases h
    obtain ⟨rfl, _⟩ := VR_v.1 hv
    refine ok_here hs (v := .pointer none) ?_ (VR_v_of rfl)
    have := Lib.run_unsafeSliceData_nil (P := P) w c.argTypes o.type
    simp [execOp, hop, resolve, hc, invoke, builtin, eargs, this]
  · cases h

theorem bytesEx_cells : ∀ {l : List AV} {vs : List Value} {bs : List UInt8}, bytesEx l = some bs → VRl w s M l vs → vs = Lib.byteCells bs ∧ bs.length = l.length
  | [], vs, bs, h, hv => by
    simp only [bytesEx, Option.some.injEq] at h
    unfold VRl at hv
    subst h; subst hv
    exact ⟨rfl, rfl⟩
  | c :: r, vs, bs, h, hv => by
    unfold VRl at hv
    obtain ⟨v, u, rfl, h1, h2⟩ := hv
    unfold bytesEx at h
    split at h
    · rename_i e; cases e
    · rename_i m r' e
      cases e
      split at h
      · rename_i hm
        split at h
        · rename_i l hl
          cases h
          obtain ⟨rfl, _⟩ := VR_v.1 h1
          obtain ⟨rfl, k⟩ := bytesEx_cells hl h2
          have hm := Nat.le_of_ble_eq_true hm
          refine ⟨?_, by simp [k]⟩
          simp only [Lib.byteCells, List.map_cons, List.cons.injEq, and_true, Value.int.injEq, true_and]
          rw [UInt8.toNat_ofNat_of_lt' (by simp [UInt8.size]; omega)]
          rfl
        · cases h
      · cases h
    · cases h

theorem s_unsafeStr {o : Oper} {a : Act} {T : Tm} {c : Go.Call} {pt : TypeId} {x r : AV} {n : Nat} {s' : St} (hs : Sim G B0 w0 w s M) (hT : TmR w s M T a) (hop : o.op = .call c) (hc : c.callee = .builtin .unsafeString) {it : TypeId} (hA : c.argTypes.toList = [pt, it])
    (ha : opds G T c.args.toList = some [x, .v (.int .i64 (.ofNat n))]) (h : unsafeStr P pt s x n = some (r, s')) : OpOk P G B0 w0 w s M o a r s' := by
  have hv := opds_sound hs hT ha
  unfold VRl at hv
  obtain ⟨v, t, e, hv, ht⟩ := hv
  unfold VRl at ht
  obtain ⟨v2, t2, rfl, hv2, ht2⟩ := ht
  unfold VRl at ht2
  subst ht2
  have eargs : c.args.map a.eval = #[v, v2] := by apply Array.toList_inj.1; rw [Array.toList_map, e]
  have eA : c.argTypes = #[pt, it] := by apply Array.toList_inj.1; rw [hA]
  obtain ⟨rfl, _⟩ := VR_v.1 hv2
  unfold unsafeStr at h
  split at h
  · split at h
    · rename_i hz
      have hz := nbe hz
      subst hz
      cases h
      obtain ⟨rfl, _⟩ := VR_v.1 hv
      refine ok_here hs (v := .string .empty) ?_ (VR_v_of rfl)
      have := Lib.run_unsafeString_none (P := P) w pt it o.type none
      simp [execOp, hop, resolve, hc, invoke, builtin, eargs, eA, this]
    · cases h
  · rename_i b
    split at h
    · rename_i cs kk ee hrow hu
      split at h
      · rename_i hcond
        simp only [Bool.and_eq_true] at hcond
        obtain ⟨⟨⟨⟨⟨c1, c2⟩, c3⟩, c4⟩, c5⟩, c6⟩ := hcond
        have c1 := Nat.le_of_ble_eq_true c1; have c2 := Nat.le_of_ble_eq_true c2; have c3 := Nat.le_of_ble_eq_true c3
        have c4 := nbe c4; have c5 := nbe c5; have c6 := nbe c6
        split at h
        · rename_i l hl
          cases h
          unfold VR at hv
          obtain ⟨hb, rfl⟩ := hv
          -- the row
          obtain ⟨ob, hg, hlive, hrw, vs, el, fr, h1, h2, h3, h5⟩ : ∃ ob, s.get b = some ob ∧ ob.live ∧ (∀ tip e, ob ≠ .row tip e) ∧ ∃ vs el fr, w.heap[M.blk b]? = some (.cells vs el fr) ∧ VRl w s M cs (vs.toList.take cs.length) ∧ cs.all isCell = true ∧ BoxK kk cs.length vs.size (M.cap b) el := by
            unfold rowOf at hrow
            split at hrow
            · rename_i cs' k' hg
              cases hrow
              obtain ⟨vs, el, fr, h1, h2, h3, _, h5⟩ := hs.obj b _ hb hg
              exact ⟨_, hg, trivial, fun _ _ => by simp, vs, el, fr, h1, h2, h3, h5⟩
            · rename_i cs' k' hg
              cases hrow
              obtain ⟨vs, el, fr, h1, h2, h3, h5⟩ := hs.obj b _ hb hg
              exact ⟨_, hg, trivial, fun _ _ => by simp, vs, el, fr, h1, h2, h3, h5⟩
            · cases hrow
          have hbase : tyBase ≤ kk := by
            rcases Nat.lt_or_ge kk tyBase with q | q
            · rw [Nat.div_eq_of_lt q] at c5; omega
            · exact q
          have hel : el = ee := by rw [(h5.2 hbase).1, c5]; rfl
          subst hel
          have hlen := h2.length
          obtain ⟨hbytes, hll⟩ := bytesEx_cells hl (h2.take n)
          rw [List.length_take, Nat.min_eq_left c2] at hll
          have htake : vs.toList.take n = Lib.byteCells l := by
            rw [List.take_take, Nat.min_eq_left c2] at hbytes
            exact hbytes
          have hsz : n ≤ vs.size := by
            have := congrArg List.length htake
            rw [Lib.byteCells_length, List.length_take] at this
            simp at this; omega
          have hUS : (Builtin.unsafeString_ #[pt, it] o.type #[.pointer (some ⟨M.blk b, 0, none⟩), .int .i64 (Int.ofNat n)]).run P w = .ok (.string ⟨l.toArray⟩) (w.freeze ⟨M.blk b, 0, none⟩ l.length) := by
            have hcell : ∀ j x, l[j]? = some x → w.cell? ((⟨M.blk b, 0, none⟩ : Addr).add j) = some (.int .u8 x.toNat) := fun j x hx => by
              have hj : j < l.length := (List.getElem?_eq_some_iff.1 hx).1
              have h7 : (vs.toList.take n)[j]? = some (.int .u8 x.toNat) := by rw [htake]; simp [Lib.byteCells, hx]
              rw [List.getElem?_take, if_pos (by omega)] at h7
              have : Addr.add ⟨M.blk b, 0, none⟩ j = ⟨M.blk b, j, none⟩ := by
                unfold Addr.add
                by_cases e0 : j = 0
                · subst e0; rfl
                · rw [if_neg e0]; simp
              rw [this]
              simp only [World.cell?, h1]
              simpa using h7
            have hsh : w.shape? (M.blk b) = some (el, vs.size) := by unfold World.shape?; rw [h1]
            have := Lib.run_unsafeString_row (P := P) w pt it o.type el hu c6 (M.blk b) vs.size hsh l (by intro e; rw [e] at hll; simp at hll; omega) (by omega) (by omega) hcell
            rw [hll] at this ⊢
            exact this
          have hw1 : (w.freeze ⟨M.blk b, 0, none⟩ l.length).heap[M.blk b]? = some (.cells vs el (if fr.1 == fr.2 then (0, 0 + l.length) else (min fr.1 0, max fr.2 (0 + l.length)))) := by
            simp only [World.freeze]
            rw [if_neg (by omega)]
            simp only [Array.getElem?_modify, if_true, h1, Option.map_some]
          have hw2 : ∀ k, k ≠ M.blk b → (w.freeze ⟨M.blk b, 0, none⟩ l.length).heap[k]? = w.heap[k]? := fun k hk => by
            simp only [World.freeze]
            rw [if_neg (by omega)]
            simp only [Array.getElem?_modify]
            rw [if_neg (Ne.symm hk)]
          have hw3 : (w.freeze ⟨M.blk b, 0, none⟩ l.length).heap.size = w.heap.size := by
            simp only [World.freeze]
            rw [if_neg (by omega)]
            simp
          have hbel : Below B0 w0 (w.freeze ⟨M.blk b, 0, none⟩ l.length) := Lib.below_freeze hs.below (p := ⟨M.blk b, 0, none⟩) (hs.blk b hb).1 _
          have hE := ext_write (w' := w.freeze ⟨M.blk b, 0, none⟩ l.length) (y := .fz cs kk) hs hb hg hrw hlive (fun _ _ => by simp) trivial hw2 (by omega)
          have hs' := sim_write (w' := w.freeze ⟨M.blk b, 0, none⟩ l.length) (y := .fz cs kk) hs hb hg hrw hlive (fun _ _ => by simp) trivial hw2 hbel hw3 ⟨vs, el, _, hw1, h2.ext hE, h3, h5⟩
          refine ok_value (v := .string ⟨l.toArray⟩) ?_ (VR_v_of rfl) hs' hE
          rw [Int.ofNat_eq_natCast] at hUS eargs
          simp [execOp, hop, resolve, hc, invoke, builtin, eargs, eA, hUS]
        · cases h
      · cases h
    · cases h
  · cases h

/-! ### Methods -/
theorem method_run {t : TypeId} {name : String} {f : FuncId} {v : Value} (h : methodA P t name = some f) (w : World) (fuel : Nat) : (method (fuel + 1) t v name).run P w = .ok (f, v) w := by
  unfold methodA at h
  split at h
  · cases h
  · rename_i i hi
    split at h
    · cases h
    · rename_i m hm
      split at h
      · cases h
      · rename_i hp
        have hp : m.path = #[] := by simpa using hp
        unfold method
        simp only [Sem.run_bind, typeInfo, run_program, Result.andThen_ok, hi, Sem.run_pure, hm, hp, follow]
        split at h
        · rename_i f' e hmf hu
          cases h
          simp [hmf, follow, receiverAt, run_underlying hu, Place.get]
        · cases h
        · rename_i f' d hne hmf hu
          cases h
          simp only [hmf, follow, Sem.run_bind, Sem.run_pure, Result.andThen_ok, receiverAt, run_underlying hu]
          cases d <;> first | (simp [Place.get]; done) | exact absurd hu (by intro hu'; exact (hne _ _ hmf hu').elim)
        · cases h

theorem noEscape_run {f : FuncId} {fn : Func} (hP : (fn.name == "runtime.NumGoroutine") = false) (hf : P.funcs[f]? = some fn) (hb : fn.body = none) (hn : (fn.name == "internal/abi.NoEscape") = true) (hx : (Extern.findNext fn).isNone = true) (x : Value) (w : World) : (callFunc f #[x]).run P w = .ok (.value x) w := by
  have hn : fn.name = "internal/abi.NoEscape" := by simpa using hn
  have e2 : Extern.find fn = some Extern.AbiNoEscape.same := by
    unfold Extern.find
    rw [hn]
    have a1 : Extern.allGenericRows.lookup "internal/abi.NoEscape" = none := by kernel_rfl
    have a2 : Extern.allTypedRows.lookup "internal/abi.NoEscape" = none := by kernel_rfl
    have a3 : Extern.allRows.lookup "internal/abi.NoEscape" = some Extern.AbiNoEscape.same := by kernel_rfl
    simp [a1, a2, a3]
  rw [run_callFunc_extern hf hP (by rw [hb]; rfl) (by simpa using hx) e2, Lib.run_noEscape]
  rfl
end
end Go.Ab
/- The evaluator's operations against the model's: symbols. -/
namespace Go.Ab
set_option linter.unusedVariables false
set_option linter.unusedSimpArgs false
set_option linter.unusedSectionVars false
set_option linter.constructorNameAsVariable false
open Go Go.RowKit

section
variable [Interp] {P : Program} {G : Nat → Option (List AV)} {B0 : Nat} {w0 w : World} {s : St} {M : Mp}

theorem fact_of (hs : Sim G B0 w0 w s M) {e : E} (h : hasE e s.k.fx = true) : e.den M.env = .v (.bool true) := hs.fx e (hasE_mem h)
theorem ofBool_true {b : Bool} (h : D.ofBool b = .v (.bool true)) : b = true := by
  unfold D.ofBool at h; cases h; rfl
theorem selfCmp_sound {env : Nat → D} : ∀ {e : E} {b c : Bool}, e.den env = D.ofBool b → selfCmp e = some c → c = b := by
  intro e b c he h
  unfold selfCmp at h
  split at h
  · rename_i op x y
    split at h
    · rename_i hab
      have := eEq_eq hab
      subst this
      simp only [E.den, E.denL, Prim.den] at he
      have he : cmpI op (x.den env).int (x.den env).int = b := by
        unfold D.ofBool at he; cases he; rfl
      subst he
      cases op <;> simp only [Option.some.injEq, reduceCtorEq] at h <;> subst h <;> simp [cmpI]
    · cases h
  · cases h
theorem ask_sound (hs : Sim G B0 w0 w s M) {e : E} {b c : Bool} (he : e.den M.env = D.ofBool b) (h : ask s.k e = some c) : c = b := by
  unfold ask at h
  split at h
  · rename_i h1
    cases h
    have := fact_of hs h1
    rw [he] at this
    exact (ofBool_true this).symm
  · split at h
    · rename_i h1
      cases h
      have := fact_of hs h1
      simp only [E.den, E.denL, Prim.den, he] at this
      have := ofBool_true this
      cases b
      · rfl
      · cases this
    · split at h
      · rename_i c0 hc
        split at h
        · rename_i h1
          cases h
          have h2 := fact_of hs h1
          unfold unNot at hc
          split at hc
          · cases hc
            simp only [E.den, E.denL, Prim.den, h2] at he
            cases b
            · rfl
            · cases he
          · cases hc
        · cases h
      · exact selfCmp_sound he h
theorem mkB_sound (hs : Sim G B0 w0 w s M) {e : E} {b : Bool} (he : e.den M.env = D.ofBool b) : VR w s M (mkB s.k e) (.bool b) := by
  unfold mkB
  split
  · rename_i c h
    rw [ask_sound hs he h]; exact VR_v_of rfl
  · unfold VR; exact ⟨he, rfl⟩
theorem toE_sound {a : AV} {t : Ty} {e : E} {v : Value} (h : toE a = some (t, e)) (k : VR w s M a v) : e.den M.env = .v v ∧ tyV t v = true := by
  unfold toE at h
  split at h
  · cases h; obtain ⟨rfl, _⟩ := VR_v.1 k; exact ⟨rfl, by simp [tyV]⟩
  · cases h; obtain ⟨rfl, _⟩ := VR_v.1 k; exact ⟨rfl, rfl⟩
  · cases h; obtain ⟨rfl, _⟩ := VR_v.1 k; exact ⟨rfl, rfl⟩
  · cases h; unfold VR at k; exact k
  · cases h
theorem tyV_int {k : IntKind} {v : Value} (h : tyV (.i k) v = true) : ∃ i, v = .int k i := by
  cases v <;> simp [tyV] at h
  subst h; exact ⟨_, rfl⟩
theorem tyV_b {v : Value} (h : tyV .b v = true) : ∃ i, v = .bool i := by cases v <;> simp [tyV] at h; exact ⟨_, rfl⟩
theorem tyV_s {v : Value} (h : tyV .s v = true) : ∃ i, v = .string i := by cases v <;> simp [tyV] at h; exact ⟨_, rfl⟩
theorem litI_den {e : E} {i : Int} {env : Nat → D} (h : litI e = some i) : (e.den env).int = i := by
  unfold litI at h
  split at h
  · cases h; rfl
  · cases h
theorem nonNeg_sound (hs : Sim G B0 w0 w s M) {e : E} (h : nonNeg s.k e = true) : 0 ≤ (e.den M.env).int := by
  unfold nonNeg at h
  split at h
  · rename_i i hi
    rw [litI_den hi]; simpa using h
  · rw [Bool.or_eq_true] at h
    rcases h with h | h
    · unfold isLen at h
      split at h
      · rename_i l
        simp only [E.den]
        unfold Prim.den
        split <;> simp_all [D.int, D.ofInt]
      · rename_i l
        simp only [E.den]
        unfold Prim.den
        split <;> simp_all [D.int, D.ofInt]
      · cases h
    · have := fact_of hs h
      simp only [E.den, E.denL, Prim.den] at this
      have := ofBool_true this
      simpa [cmpI, eInt, E.den, D.int] using this
theorem below_sound (hs : Sim G B0 w0 w s M) {a b : E} (h : below s.k a b = true) : (a.den M.env).int < (b.den M.env).int := by
  have := fact_of hs h
  simp only [E.den, E.denL, Prim.den] at this
  simpa [cmpI] using ofBool_true this
theorem upTo_sound (hs : Sim G B0 w0 w s M) {a b : E} (h : upTo s.k a b = true) : (a.den M.env).int ≤ (b.den M.env).int := by
  unfold upTo at h
  rw [Bool.or_eq_true, Bool.or_eq_true] at h
  rcases h with (h | h) | h
  · rw [eEq_eq h]; exact Int.le_refl _
  · split at h
    · rename_i i hi
      rw [Bool.and_eq_true, decide_eq_true_eq] at h
      rw [litI_den hi]
      exact Int.le_trans h.1 (nonNeg_sound hs h.2)
    · cases h
  · have := fact_of hs h
    simp only [E.den, E.denL, Prim.den] at this
    simpa [cmpI] using ofBool_true this
theorem short_sound (hs : Sim G B0 w0 w s M) {e : E} {x : ByteArray} (he : e.den M.env = .v (.string x)) (h : short s.k e = true) : (x.size : Int) ≤ textMax := by
  unfold short at h
  split at h
  · simp only [E.den, D.v.injEq, Value.string.injEq] at he
    subst he
    simpa using h
  · have := fact_of hs h
    simp only [E.den, E.denL, Prim.den, he] at this
    simpa [cmpI, eInt, E.den, D.int, D.ofInt, D.str] using ofBool_true this

theorem guard_scalar {op : BinOp} {t : TypeId} {ox oy : Operand} {x y : Value} (hx : okScalar x) (w : World) : (eqGuard op t ox oy x y).run P w = .ok () w := by
  cases x <;> first | exact hx.elim | (unfold eqGuard; split <;> rfl)

theorem s_symBin {o : Oper} {a : Act} {T : Tm} {op : BinOp} {t yt : TypeId} {x y : Operand} {c d r : AV} {ub : Bool} (hub : ub = true → P.underlying t = some .bool) (hs : Sim G B0 w0 w s M) (hT : TmR w s M T a) (hop : o.op = .binOp op t x y yt) (hx : opd G T x = some c) (hy : opd G T y = some d)
    (h : symBin s.k ub op c d = some r) : OpOk P G B0 w0 w s M o a r s := by
  have h1 := opd_sound hs hT hx
  have h2 := opd_sound hs hT hy
  have fin : ∀ {v : Value}, okScalar (a.eval x) → (binOp op t (a.eval x) (a.eval y)).run P w = .ok v w → VR w s M r v → OpOk P G B0 w0 w s M o a r s := fun {v} g1 g2 g3 => by
    refine ok_here hs (v := v) ?_ g3
    simp only [execOp, hop, Sem.run_bind, guard_scalar g1 w, Result.andThen_ok, g2, Sem.run_pure]
  unfold symBin at h
  split at h
  · rename_i k1 ex k2 ey e1 e2
    obtain ⟨d1, t1⟩ := toE_sound e1 h1
    obtain ⟨d2, t2⟩ := toE_sound e2 h2
    obtain ⟨i, hi⟩ := tyV_int t1
    obtain ⟨j, hj⟩ := tyV_int t2
    rw [hi] at d1; rw [hj] at d2
    have hok : okScalar (a.eval x) := by rw [hi]; trivial
    have hcmp : ∀ op', isCmp op' = true → op = op' → k1 = k2 → r = mkB s.k (.pr (.icmp op) [ex, ey]) → OpOk P G B0 w0 w s M o a r s := fun op' g0 g1 g2 g3 => by
      subst g1; subst g2; subst g3
      refine fin (v := .bool (cmpI op i j)) hok ?_ (mkB_sound hs (by simp only [E.den, E.denL, Prim.den, d1, d2]; rfl))
      rw [hi, hj]
      cases op <;> first | (cases g0; done) | (simp [binOp, Op.intCmp, cmpI])
    have har : ∀ op', (op' = .add ∨ op' = .sub ∨ op' = .mul ∨ op' = .and ∨ op' = .or ∨ op' = .xor ∨ op' = .andNot) → op = op' → k1 = k2 → r = .x (.i k1) (.pr (.iop op k1) [ex, ey]) → OpOk P G B0 w0 w s M o a r s := fun op' g0 g1 g2 g3 => by
      subst g1; subst g2; subst g3
      refine fin (v := .int k1 (iopV op k1 i j)) hok ?_ ?_
      · rw [hi, hj]
        rcases g0 with rfl | rfl | rfl | rfl | rfl | rfl | rfl <;> simp [binOp, Op.intArith, Op.intBits, iopV]
      · unfold VR
        refine ⟨?_, by simp [tyV]⟩
        simp only [E.den, E.denL, Prim.den, d1, d2]; rfl
    have hsh : ∀ op', (op' = .shl ∨ op' = .shr) → op = op' → nonNeg s.k ey = true → r = .x (.i k1) (.pr (.iop op k1) [ex, ey]) → OpOk P G B0 w0 w s M o a r s := fun op' g0 g1 g2 g3 => by
      subst g1; subst g3
      have hnn := nonNeg_sound hs g2
      rw [d2] at hnn
      have hnn : 0 ≤ j := hnn
      have hnn' : ¬ j < 0 := by omega
      refine fin (v := .int k1 (iopV op k1 i j)) hok ?_ ?_
      · rw [hi, hj]
        rcases g0 with rfl | rfl <;> simp [binOp, Op.shift, iopV, hnn']
      · unfold VR
        refine ⟨?_, by simp [tyV]⟩
        simp only [E.den, E.denL, Prim.den, d1, d2]; rfl
    cases op <;> simp only at h
    case add => split at h <;> first | (cases h; done) | (rename_i hk; cases h; exact har .add (by simp) rfl hk rfl)
    case sub => split at h <;> first | (cases h; done) | (rename_i hk; cases h; exact har .sub (by simp) rfl hk rfl)
    case mul => split at h <;> first | (cases h; done) | (rename_i hk; cases h; exact har .mul (by simp) rfl hk rfl)
    case quo =>
      split at h
      · rename_i hk
        split at h
        · rename_i l hl
          split at h
          · cases h
          · rename_i hz
            cases h
            subst hk
            have hjl : j = l := by
              have := litI_den (env := M.env) hl
              rw [d2] at this
              exact this
            have hz' : ¬ j = 0 := by rw [hjl]; exact hz
            refine fin (v := .int k1 (iopV .quo k1 i j)) hok ?_ ?_
            · rw [hi, hj]
              simp [binOp, Op.intDiv, iopV, hz']
            · unfold VR
              refine ⟨?_, by simp [tyV]⟩
              simp only [E.den, E.denL, Prim.den, d1, d2]; rfl
        · split at h
          · rename_i hz
            cases h
            subst hk
            have hf := fact_of hs hz
            simp only [E.den, E.denL, Prim.den, d2] at hf
            have hz' : ¬ j = 0 := by
              have := ofBool_true hf
              simpa [cmpI, D.int] using this
            refine fin (v := .int k1 (iopV .quo k1 i j)) hok ?_ ?_
            · rw [hi, hj]
              simp [binOp, Op.intDiv, iopV, hz']
            · unfold VR
              refine ⟨?_, by simp [tyV]⟩
              simp only [E.den, E.denL, Prim.den, d1, d2]; rfl
          · cases h
      · cases h
    case rem =>
      split at h
      · rename_i hk
        split at h
        · rename_i l hl
          split at h
          · cases h
          · rename_i hz
            cases h
            subst hk
            have hjl : j = l := by
              have := litI_den (env := M.env) hl
              rw [d2] at this
              exact this
            have hz' : ¬ j = 0 := by rw [hjl]; exact hz
            refine fin (v := .int k1 (iopV .rem k1 i j)) hok ?_ ?_
            · rw [hi, hj]
              simp [binOp, Op.intDiv, iopV, hz']
            · unfold VR
              refine ⟨?_, by simp [tyV]⟩
              simp only [E.den, E.denL, Prim.den, d1, d2]; rfl
        · split at h
          · rename_i hz
            cases h
            subst hk
            have hf := fact_of hs hz
            simp only [E.den, E.denL, Prim.den, d2] at hf
            have hz' : ¬ j = 0 := by
              have := ofBool_true hf
              simpa [cmpI, D.int] using this
            refine fin (v := .int k1 (iopV .rem k1 i j)) hok ?_ ?_
            · rw [hi, hj]
              simp [binOp, Op.intDiv, iopV, hz']
            · unfold VR
              refine ⟨?_, by simp [tyV]⟩
              simp only [E.den, E.denL, Prim.den, d1, d2]; rfl
          · cases h
      · cases h
    case and => split at h <;> first | (cases h; done) | (rename_i hk; cases h; exact har .and (by simp) rfl hk rfl)
    case or => split at h <;> first | (cases h; done) | (rename_i hk; cases h; exact har .or (by simp) rfl hk rfl)
    case xor => split at h <;> first | (cases h; done) | (rename_i hk; cases h; exact har .xor (by simp) rfl hk rfl)
    case andNot => split at h <;> first | (cases h; done) | (rename_i hk; cases h; exact har .andNot (by simp) rfl hk rfl)
    case shl => split at h <;> first | (cases h; done) | (rename_i hn; cases h; exact hsh .shl (by simp) rfl hn rfl)
    case shr => split at h <;> first | (cases h; done) | (rename_i hn; cases h; exact hsh .shr (by simp) rfl hn rfl)
    case eql => split at h <;> first | (cases h; done) | (rename_i hk; cases h; exact hcmp .eql rfl rfl hk rfl)
    case neq => split at h <;> first | (cases h; done) | (rename_i hk; cases h; exact hcmp .neq rfl rfl hk rfl)
    case lss => split at h <;> first | (cases h; done) | (rename_i hk; cases h; exact hcmp .lss rfl rfl hk rfl)
    case leq => split at h <;> first | (cases h; done) | (rename_i hk; cases h; exact hcmp .leq rfl rfl hk rfl)
    case gtr => split at h <;> first | (cases h; done) | (rename_i hk; cases h; exact hcmp .gtr rfl rfl hk rfl)
    case geq => split at h <;> first | (cases h; done) | (rename_i hk; cases h; exact hcmp .geq rfl rfl hk rfl)
  · rename_i ex ey e1 e2
    obtain ⟨d1, t1⟩ := toE_sound e1 h1
    obtain ⟨d2, t2⟩ := toE_sound e2 h2
    obtain ⟨i, hi⟩ := tyV_s t1
    obtain ⟨j, hj⟩ := tyV_s t2
    rw [hi] at d1; rw [hj] at d2
    have hok : okScalar (a.eval x) := by rw [hi]; trivial
    have hcmp : ∀ op', isCmp op' = true → op = op' → r = mkB s.k (.pr (.scmp op) [ex, ey]) → OpOk P G B0 w0 w s M o a r s := fun op' g0 g1 g3 => by
      subst g1; subst g3
      refine fin (v := .bool (cmpS op i j)) hok ?_ (mkB_sound hs (by simp only [E.den, E.denL, Prim.den, d1, d2]; rfl))
      rw [hi, hj]
      cases op <;> first | (cases g0; done) | (simp [binOp, Op.stringOp, cmpS])
    split at h
    · split at h
      · rename_i hc
        rw [Bool.and_eq_true] at hc
        cases h
        have l1 := short_sound hs d1 hc.1
        have l2 := short_sound hs d2 hc.2
        have hbig : ¬ (((i.size + j.size : Nat) : Int) > IntKind.i64.max) := by
          have : IntKind.i64.max = 9223372036854775807 := rfl
          unfold textMax at l1 l2
          omega
        refine fin (v := .string (i ++ j)) hok ?_ ?_
        · rw [hi, hj]
          simp only [binOp, Op.stringOp]
          rw [if_neg hbig]
          rfl
        · unfold VR
          refine ⟨?_, rfl⟩
          simp only [E.den, E.denL, Prim.den, d1, d2]; rfl
      · cases h
    all_goals first | (cases h; exact hcmp _ rfl rfl rfl) | cases h
  · rename_i ex ey e1 e2
    obtain ⟨d1, t1⟩ := toE_sound e1 h1
    obtain ⟨d2, t2⟩ := toE_sound e2 h2
    obtain ⟨i, hi⟩ := tyV_b t1
    obtain ⟨j, hj⟩ := tyV_b t2
    rw [hi] at d1; rw [hj] at d2
    have hok : okScalar (a.eval x) := by rw [hi]; trivial
    have hb : ∀ op', (op' = .eql ∨ op' = .neq) → op = op' → (if ub then some (mkB s.k (.pr (.bcmp op) [ex, ey])) else none) = some r → OpOk P G B0 w0 w s M o a r s := fun op' g0 g1 g2 => by
      subst g1
      split at g2
      · rename_i hu
        have hu := hub hu
        cases g2
        have heq : (Op.equal t (.bool i) (.bool j)).run P w = .ok (i == j) w := by
          have : ∀ d, (Op.equalIn (d + 1) t (.bool i) (.bool j)).run P w = .ok (i == j) w := fun d => by simp [Op.equalIn, run_underlying hu]
          exact this 9999
        rcases g0 with rfl | rfl
        · refine fin (v := .bool (i == j)) hok ?_ (mkB_sound hs (by simp only [E.den, E.denL, Prim.den, d1, d2]; rfl))
          rw [hi, hj]
          have : binOp .eql t (.bool i) (.bool j) = (do pure (.bool (← Op.equal t (.bool i) (.bool j)))) := rfl
          rw [this]
          simp only [Sem.run_bind, heq, Result.andThen_ok, Sem.run_pure]
        · refine fin (v := .bool (i != j)) hok ?_ (mkB_sound hs (by simp only [E.den, E.denL, Prim.den, d1, d2]; rfl))
          rw [hi, hj]
          have : binOp .neq t (.bool i) (.bool j) = (do pure (.bool (!(← Op.equal t (.bool i) (.bool j))))) := rfl
          rw [this]
          simp only [Sem.run_bind, heq, Result.andThen_ok, Sem.run_pure]
          rfl
      · cases g2
    split at h
    · exact hb _ (.inl rfl) rfl h
    · exact hb _ (.inr rfl) rfl h
    · cases h
  · cases h
theorem s_symUn {o : Oper} {a : Act} {T : Tm} {op : UnOp} {t : TypeId} {x : Operand} {c r : AV} (hs : Sim G B0 w0 w s M) (hT : TmR w s M T a) (hop : o.op = .unOp op t x) (hx : opd G T x = some c) (h : symUn s.k op c = some r) : OpOk P G B0 w0 w s M o a r s := by
  have h1 := opd_sound hs hT hx
  unfold symUn at h
  split at h
  · rename_i e e1
    cases h
    obtain ⟨d1, t1⟩ := toE_sound e1 h1
    obtain ⟨i, hi⟩ := tyV_b t1
    rw [hi] at d1
    refine ok_here hs (v := .bool (!i)) ?_ (mkB_sound hs (by simp only [E.den, E.denL, Prim.den, d1]; rfl))
    simp [execOp, hop, hi, Op.unary]
  · rename_i k1 e e1
    cases h
    obtain ⟨d1, t1⟩ := toE_sound e1 h1
    obtain ⟨i, hi⟩ := tyV_int t1
    rw [hi] at d1
    refine ok_here hs (v := .int k1 (k1.wrap (-i))) ?_ ?_
    · simp [execOp, hop, hi, Op.unary, Op.intArith]
    · unfold VR
      refine ⟨?_, by simp [tyV]⟩
      simp only [E.den, E.denL, Prim.den, d1]; rfl
  · cases h
theorem bytes_beq (i j : ByteArray) : (i == j) = (i.toList == j.toList) := by
  rw [ByteArray.toList_eq, ByteArray.toList_eq]
  show (i.data == j.data) = _
  by_cases h : i.data = j.data
  · rw [h]; simp
  · rw [beq_eq_false_iff_ne.2 h, beq_eq_false_iff_ne.2 (fun e => h (Array.toList_inj.1 e))]
def eqBody (d : Nat) (xs ys : Array Value) (f : Field) (_s : Option Bool × Unit) : Sem (ForInStep (Option Bool × Unit)) :=
  if f.name ≠ "_" then do
    let a ← part f.type xs f.offset
    let b ← part f.type ys f.offset
    let c ← Op.equalIn d f.type a b
    if (!c) = true then pure (ForInStep.done (some false, ())) else pure (ForInStep.yield (none, ()))
  else pure (ForInStep.yield (none, ()))
theorem eqFs_sound {g : TypeId → AV → AV → Option E} {d : Nat} {xs ys : List AV} {vs us : Array Value} (hg : ∀ t a b e va vb, g t a b = some e → VR w s M a va → VR w s M b vb → ∃ r : Bool, (Op.equalIn d t va vb).run P w = .ok r w ∧ e.den M.env = D.ofBool r)
    (hx : VRl w s M xs vs.toList) (hy : VRl w s M ys us.toList) : ∀ {fs : List Field} {es : List E}, eqFs g P fs xs ys = some es →
    ∃ r : Bool, (forIn fs ((none, ()) : Option Bool × Unit) (eqBody d vs us)).run P w = .ok (if r then (none, ()) else (some false, ())) w ∧ (E.denL M.env es).all D.bool = r
  | [], es, h => by
    simp only [eqFs, Option.some.injEq] at h
    subst h
    exact ⟨true, by simp, by simp [E.denL]⟩
  | f :: r, es, h => by
    unfold eqFs at h
    split at h
    · cases h
    · rename_i hn
      split at h
      · rename_i a b ha hb
        split at h
        · rename_i e es' he hes
          cases h
          obtain ⟨va, pa, qa⟩ := run_part (P := P) (w := w) hx ha
          obtain ⟨vb, pb, qb⟩ := run_part (P := P) (w := w) hy hb
          obtain ⟨r1, k1, k2⟩ := hg _ _ _ _ _ _ he qa qb
          obtain ⟨r2, j1, j2⟩ := eqFs_sound hg hx hy hes
          have hn' : f.name ≠ "_" := fun e => hn (by rw [e]; rfl)
          refine ⟨r1 && r2, ?_, ?_⟩
          · rw [List.forIn_cons]
            simp only [eqBody, if_pos hn', Sem.run_bind, pa, pb, k1, Result.andThen_ok]
            cases r1
            · simp
            · simp only [Bool.not_true, Bool.false_eq_true, if_false, Sem.run_pure, Result.andThen_ok, Bool.true_and]
              exact j1
          · simp only [E.denL, List.all_cons, k2, j2]
            cases r1 <;> rfl
        · cases h
      · cases h
theorem eqT_sound : ∀ (n : Nat) {t : TypeId} {a b : AV} {e : E} {va vb : Value}, eqT P n t a b = some e → VR w s M a va → VR w s M b vb → ∀ d, n ≤ d → ∃ r : Bool, (Op.equalIn d t va vb).run P w = .ok r w ∧ e.den M.env = D.ofBool r
  | 0, _, _, _, _, _, _, h, _, _, _, _ => by cases h
  | n + 1, t, a, b, e, va, vb, h, h1, h2, d, hd => by
    obtain ⟨d, rfl⟩ : ∃ d', d = d' + 1 := ⟨d - 1, by omega⟩
    unfold eqT at h
    split at h
    · rename_i fs xs ys hu
      split at h
      · cases h
      · rename_i hst
        simp only [Bool.not_eq_true] at hst
        obtain ⟨es, hes, rfl⟩ := Option.map_eq_some_iff.1 h
        unfold VR at h1 h2
        obtain ⟨vs, rfl, h1⟩ := h1
        obtain ⟨us, rfl, h2⟩ := h2
        obtain ⟨r, k1, k2⟩ := eqFs_sound (d := d) (fun t a b e va vb q g1 g2 => eqT_sound n q g1 g2 d (by omega)) h1 h2 hes
        refine ⟨r, ?_, by simp only [E.den, Prim.den, k2]⟩
        unfold Op.equalIn
        have hprog : ∀ w, (program : Sem Program).run P w = .ok P w := fun _ => rfl
        simp only [Sem.run_bind, run_underlying hu, Result.andThen_ok, hprog, hst, Bool.false_eq_true, if_false]
        rw [← Array.forIn_toList]
        have k1' := k1
        unfold eqBody at k1'
        rw [k1']
        cases r <;> rfl
    · rename_i a b hu
      split at h
      · rename_i ex ey e1 e2
        cases h
        obtain ⟨d1, t1⟩ := toE_sound e1 h1
        obtain ⟨d2, t2⟩ := toE_sound e2 h2
        obtain ⟨i, rfl⟩ := tyV_b t1
        obtain ⟨j, rfl⟩ := tyV_b t2
        exact ⟨i == j, by simp [Op.equalIn, run_underlying hu], by simp only [E.den, E.denL, Prim.den, d1, d2]; rfl⟩
      · cases h
    · rename_i kk a b hu
      split at h
      · rename_i k ex l ey e1 e2
        split at h
        · rename_i hk
          subst hk
          cases h
          obtain ⟨d1, t1⟩ := toE_sound e1 h1
          obtain ⟨d2, t2⟩ := toE_sound e2 h2
          obtain ⟨i, rfl⟩ := tyV_int t1
          obtain ⟨j, rfl⟩ := tyV_int t2
          exact ⟨i == j, by simp [Op.equalIn, run_underlying hu], by simp only [E.den, E.denL, Prim.den, d1, d2]; rfl⟩
        · cases h
      · cases h
    · rename_i a b hu
      split at h
      · rename_i ex ey e1 e2
        cases h
        obtain ⟨d1, t1⟩ := toE_sound e1 h1
        obtain ⟨d2, t2⟩ := toE_sound e2 h2
        obtain ⟨i, rfl⟩ := tyV_s t1
        obtain ⟨j, rfl⟩ := tyV_s t2
        exact ⟨i == j, by simp [Op.equalIn, run_underlying hu], by simp only [E.den, E.denL, Prim.den, d1, d2]; rw [bytes_beq]; rfl⟩
      · cases h
    · cases h
theorem s_symEqA {o : Oper} {a : Act} {T : Tm} {op : BinOp} {t yt : TypeId} {x y : Operand} {c d r : AV} (hs : Sim G B0 w0 w s M) (hT : TmR w s M T a) (hop : o.op = .binOp op t x y yt) (hx : opd G T x = some c) (hy : opd G T y = some d) (h : symEqA P s.k op t c d = some r) : OpOk P G B0 w0 w s M o a r s := by
  have h1 := opd_sound hs hT hx
  have h2 := opd_sound hs hT hy
  unfold symEqA at h
  split at h
  · rename_i xs ys
    split at h
    · cases h
    · rename_i hg
      simp only [Bool.not_eq_true] at hg
      split at h
      · rename_i e he
        obtain ⟨q, k1, k2⟩ := eqT_sound 10 he h1 h2 10000 (by omega)
        unfold VR at h1 h2
        obtain ⟨vs, e1, _⟩ := h1
        obtain ⟨us, e2, _⟩ := h2
        rw [e1, e2] at k1
        have k1 : (Op.equal t (.agg vs) (.agg us)).run P w = .ok q w := k1
        have guard : ∀ op', (eqGuard op' t x y (.agg vs) (.agg us)).run P w = .ok () w := fun op' => by
          unfold eqGuard
          split <;> simp [hg]
        split at h
        · cases h
          refine ok_here hs (v := .bool q) ?_ (mkB_sound hs k2)
          have hb : binOp .eql t (.agg vs) (.agg us) = (do pure (.bool (← Op.equal t (.agg vs) (.agg us)))) := rfl
          simp [execOp, hop, e1, e2, guard, hb, k1]
        · cases h
          refine ok_here hs (v := .bool (!q)) ?_ (mkB_sound hs (by simp only [E.den, E.denL, Prim.den, k2]; rfl))
          have hb : binOp .neq t (.agg vs) (.agg us) = (do pure (.bool (!(← Op.equal t (.agg vs) (.agg us))))) := rfl
          simp [execOp, hop, e1, e2, guard, hb, k1]
        · cases h
      · cases h
  · cases h
theorem s_symMM {o : Oper} {a : Act} {T : Tm} {c : Go.Call} {mx : Bool} {l : List AV} {r : AV} (hs : Sim G B0 w0 w s M) (hT : TmR w s M T a) (hop : o.op = .call c) (hc : c.callee = .builtin (bif mx then .max else .min)) (hargs : opds G T c.args.toList = some l) (h : symMM mx l = some r) : OpOk P G B0 w0 w s M o a r s := by
  have hv := opds_sound hs hT hargs
  unfold symMM at h
  split at h
  · rename_i x y
    split at h
    · rename_i k1 ex k2 ey e1 e2
      split at h
      · rename_i hk
        subst hk
        cases h
        unfold VRl at hv
        obtain ⟨v1, l1, hl, g1, hv⟩ := hv
        unfold VRl at hv
        obtain ⟨v2, l2, rfl, g2, hv⟩ := hv
        unfold VRl at hv
        subst hv
        obtain ⟨d1, t1⟩ := toE_sound e1 g1
        obtain ⟨d2, t2⟩ := toE_sound e2 g2
        obtain ⟨i, rfl⟩ := tyV_int t1
        obtain ⟨j, rfl⟩ := tyV_int t2
        have hcm : (c.args.map a.eval).toList = [.int k1 i, .int k1 j] := by rw [Array.toList_map]; exact hl
        refine ok_here hs (v := .int k1 (bif mx then (if j > i then j else i) else (if j < i then j else i))) ?_ ?_
        · cases mx
          · simp only [cond_false] at hc ⊢
            have key : (Builtin.min_ c.argTypes o.type (c.args.map a.eval)).run P w = .ok (.int k1 (if j < i then j else i)) w := by
              unfold Builtin.min_; rw [hcm]; rfl
            simp [execOp, hop, resolve, hc, invoke, builtin, key]
          · simp only [cond_true] at hc ⊢
            have key : (Builtin.max_ c.argTypes o.type (c.args.map a.eval)).run P w = .ok (.int k1 (if j > i then j else i)) w := by
              unfold Builtin.max_; rw [hcm]; rfl
            simp [execOp, hop, resolve, hc, invoke, builtin, key]
        · unfold VR
          refine ⟨?_, by simp [tyV]⟩
          simp only [E.den, E.denL, Prim.den, d1, d2, D.int, D.bool, D.ofBool, cmpI]
          cases mx
          · by_cases hij : j < i <;> simp [hij]
          · by_cases hij : i < j <;> simp [hij]
      · cases h
    · cases h
  · cases h
theorem s_symConv {o : Oper} {a : Act} {T : Tm} {src dst : TypeId} {x : Operand} {c r : AV} (hs : Sim G B0 w0 w s M) (hT : TmR w s M T a) (hop : o.op = .convert src dst x) (hx : opd G T x = some c) (h : symConv (P.underlying src) (P.underlying dst) c = some r) : OpOk P G B0 w0 w s M o a r s := by
  have h1 := opd_sound hs hT hx
  unfold symConv at h
  split at h
  · rename_i sd k k1 e hsd hd e1
    cases h
    obtain ⟨d1, t1⟩ := toE_sound e1 h1
    obtain ⟨i, hi⟩ := tyV_int t1
    rw [hi] at d1
    refine ok_here hs (v := .int k (k.wrap i)) ?_ ?_
    · simp only [execOp, hop, convert, Sem.run_bind, run_underlying hsd, run_underlying hd, hi, Result.andThen_ok]
      cases sd <;> simp [Conv.intToInt]
    · unfold VR
      refine ⟨?_, by simp [tyV]⟩
      simp only [E.den, E.denL, Prim.den, d1]; rfl
  · rename_i sd e hsd hd e1
    cases h
    obtain ⟨d1, t1⟩ := toE_sound e1 h1
    obtain ⟨i, hi⟩ := tyV_s t1
    rw [hi] at d1
    refine ok_here hs (v := .string i) ?_ ?_
    · simp only [execOp, hop, convert, Sem.run_bind, run_underlying hsd, run_underlying hd, hi, Result.andThen_ok]
      cases sd <;> simp
    · unfold VR; exact ⟨d1, rfl⟩
  · cases h
theorem s_symIndex {o : Oper} {a : Act} {T : Tm} {t : TypeId} {x ix : Operand} {c ci r : AV} (hs : Sim G B0 w0 w s M) (hT : TmR w s M T a) (hop : o.op = .index t x ix) (hu : P.underlying t = some .string) (hx : opd G T x = some c) (hi : opd G T ix = some ci) (h : symIndex s.k c ci = some r) : OpOk P G B0 w0 w s M o a r s := by
  have h1 := opd_sound hs hT hx
  have h2 := opd_sound hs hT hi
  unfold symIndex at h
  split at h
  · rename_i ex k ei e1 e2
    split at h
    · rename_i hc
      rw [Bool.and_eq_true] at hc
      cases h
      obtain ⟨d1, t1⟩ := toE_sound e1 h1
      obtain ⟨d2, t2⟩ := toE_sound e2 h2
      obtain ⟨i, hi'⟩ := tyV_s t1
      obtain ⟨j, hj⟩ := tyV_int t2
      rw [hi'] at d1; rw [hj] at d2
      have g1 := nonNeg_sound hs hc.1
      have g2 := below_sound hs hc.2
      rw [d2] at g1 g2
      simp only [E.den, E.denL, Prim.den, d1] at g2
      have g1 : 0 ≤ j := g1
      have g2 : j < (i.size : Int) := g2
      have hlt : j.toNat < i.size := by omega
      have hlt' : j.toNat < i.data.toList.length := by simpa using hlt
      refine ok_here hs (v := .int .u8 (i.data.toList.getD j.toNat 0).toNat) ?_ ?_
      · have hget : i[j.toNat]? = some (i.data.toList.getD j.toNat 0) := by
          rw [List.getD_eq_getElem?_getD, List.getElem?_eq_getElem hlt']
          rw [getElem?_pos i j.toNat hlt]
          rfl
        simp [execOp, hop, Instr.index, hj, asIntOf, run_underlying hu, hi', g1, hget]
      · unfold VR
        refine ⟨?_, rfl⟩
        simp only [E.den, E.denL, Prim.den, d1, d2]; rfl
    · cases h
  · cases h
theorem boundE_sound {d e : E} {c : Option AV} {ox : Option Operand} {T : Tm} {a : Act} (hs : Sim G B0 w0 w s M) (hT : TmR w s M T a) (ho : opdO G T ox = some c) (h : boundE d c = some e) :
    (ox = none ∧ e = d) ∨ ∃ x k i, ox = some x ∧ a.eval x = .int k i ∧ e.den M.env = .v (.int k i) := by
  cases ox with
  | none =>
    simp only [opdO, Option.some.injEq] at ho
    subst ho
    simp only [boundE, Option.some.injEq] at h
    exact .inl ⟨rfl, h.symm⟩
  | some x =>
    simp only [opdO, Option.map_eq_some_iff] at ho
    obtain ⟨v, hv, rfl⟩ := ho
    simp only [boundE] at h
    split at h
    · rename_i k l e1
      cases h
      obtain ⟨d1, t1⟩ := toE_sound e1 (opd_sound hs hT hv)
      obtain ⟨i, hi⟩ := tyV_int t1
      rw [hi] at d1
      exact .inr ⟨x, k, i, rfl, hi, d1⟩
    · cases h
theorem s_symSub {o : Oper} {a : Act} {T : Tm} {t : TypeId} {x : Operand} {lo hi : Option Operand} {c r : AV} {cl ch : Option AV} (hs : Sim G B0 w0 w s M) (hT : TmR w s M T a) (hop : o.op = .slice t x lo hi none) (hu : P.underlying t = some .string) (hx : opd G T x = some c)
    (hl : opdO G T lo = some cl) (hh : opdO G T hi = some ch) (h : symSub s.k c cl ch = some r) : OpOk P G B0 w0 w s M o a r s := by
  have h1 := opd_sound hs hT hx
  unfold symSub at h
  split at h
  · rename_i ex e1
    obtain ⟨d1, t1⟩ := toE_sound e1 h1
    obtain ⟨i, hi'⟩ := tyV_s t1
    rw [hi'] at d1
    split at h
    · rename_i l hh2 b1 b2
      split at h
      · rename_i hc
        simp only [Bool.and_eq_true] at hc
        obtain ⟨⟨⟨c1, c2⟩, c3⟩, c4⟩ := hc
        cases h
        have g1 := nonNeg_sound hs c1
        have g2 := nonNeg_sound hs c2
        have g3 := upTo_sound hs c3
        have g4 := upTo_sound hs c4
        simp only [E.den, E.denL, Prim.den, d1] at g4
        have g4 : (hh2.den M.env).int ≤ (i.size : Int) := g4
        refine ok_here hs (v := .string (i.extract (l.den M.env).int.toNat (hh2.den M.env).int.toNat)) ?_ ?_
        · rcases boundE_sound hs hT hh b2 with ⟨rfl, rfl⟩ | ⟨y, k, j, rfl, q1, q2⟩
          · have eh : ((E.pr Prim.slen [ex]).den M.env).int = (i.size : Int) := by simp only [E.den, E.denL, Prim.den, d1]; rfl
            rw [eh] at g3 ⊢
            rcases boundE_sound hs hT hl b1 with ⟨rfl, rfl⟩ | ⟨y, k, j, rfl, q1, q2⟩
            · have el : ((eInt 0).den M.env).int = 0 := rfl
              rw [el]
              simp [execOp, hop, Instr.sliceAt, hi', run_underlying hu, Instr.slice, Instr.sliceBounds]
            · rw [q2] at g1 g3 ⊢
              have g1 : 0 ≤ j := g1
              have g3 : j ≤ (i.size : Int) := g3
              simp [execOp, hop, Instr.sliceAt, hi', run_underlying hu, Instr.slice, Instr.sliceBounds, Instr.sliceBound, q1, asIntOf, g1, g3, D.int]
          · rw [q2] at g2 g3 g4 ⊢
            have g2 : 0 ≤ j := g2
            have g4 : j ≤ (i.size : Int) := g4
            have g3 : (l.den M.env).int ≤ j := g3
            rcases boundE_sound hs hT hl b1 with ⟨rfl, rfl⟩ | ⟨y', k', j', rfl, q1', q2'⟩
            · have el : ((eInt 0).den M.env).int = 0 := rfl
              rw [el]
              simp [execOp, hop, Instr.sliceAt, hi', run_underlying hu, Instr.slice, Instr.sliceBounds, Instr.sliceBound, q1, asIntOf, g2, g4, D.int]
            · rw [q2'] at g1 g3 ⊢
              have g1 : 0 ≤ j' := g1
              have g3 : j' ≤ j := g3
              have g5 : j' ≤ ((j.toNat : Nat) : Int) := by omega
              have g6 : j' ≤ max j 0 := by omega
              simp [execOp, hop, Instr.sliceAt, hi', run_underlying hu, Instr.slice, Instr.sliceBounds, Instr.sliceBound, q1, q1', asIntOf, g1, g2, g3, g4, g5, g6, D.int]
        · unfold VR
          refine ⟨?_, rfl⟩
          simp only [E.den, E.denL, Prim.den, d1]; rfl
      · cases h
    · cases h
  · cases h
/-! ### Rows -/
theorem fitsC_get {tb : Nat → List CT} : ∀ {cs : List D} {ct : List CT}, fitsC tb cs ct → cs.length = ct.length ∧ ∀ (j : Nat) (c : CT), ct[j]? = some c → ∃ d, cs[j]? = some d ∧ fits tb d c
  | [], [], _ => ⟨rfl, fun j c h => by simp at h⟩
  | d :: r, c :: t, h => by
    unfold fitsC at h
    obtain ⟨h1, h2⟩ := fitsC_get h.2
    refine ⟨by simp [h1], fun j c' hj => ?_⟩
    cases j with
    | zero => simp only [List.getElem?_cons_zero, Option.some.injEq] at hj; subst hj; exact ⟨d, rfl, h.1⟩
    | succ j => rw [List.getElem?_cons_succ] at hj ⊢; exact h2 j c' hj
  | [], _ :: _, h => by unfold fitsC at h; exact h.elim
  | _ :: _, [], h => by unfold fitsC at h; exact h.elim
theorem DVs_get {C : Nat → Nat → Option Value} {I : Nat → Nat → Prop} : ∀ {cs : List D} {b off : Nat}, DVs C I cs b off → ∀ (j : Nat) (d : D), cs[j]? = some d → ∃ v, C b (off + j) = some v ∧ DV C I d v ∧ I b (off + j)
  | [], _, _, _ => fun j d h => by simp at h
  | c :: r, b, off, k => fun j d hj => by
    unfold DVs at k
    obtain ⟨⟨v, k0, k1⟩, k2, k3⟩ := k
    cases j with
    | zero => simp only [List.getElem?_cons_zero, Option.some.injEq] at hj; subst hj; exact ⟨v, k0, k1, k2⟩
    | succ j =>
      rw [List.getElem?_cons_succ] at hj
      obtain ⟨u, g1, g2, g3⟩ := DVs_get k3 j d hj
      rw [show off + 1 + j = off + (j + 1) by omega] at g1 g3
      exact ⟨u, g1, g2, g3⟩
theorem denL_get {env : Nat → D} : ∀ {l : List E} (j : Nat), (E.denL env l)[j]? = (l[j]?).map (E.den env)
  | [], j => by simp [E.denL]
  | e :: r, 0 => by simp [E.denL]
  | e :: r, j + 1 => by simp only [E.denL, List.getElem?_cons_succ]; exact denL_get j
theorem cellE_den {env : Nat → D} {e : E} {cs : List D} {j : Nat} {d : D} (he : e.den env = .row cs) (hj : cs[j]? = some d) : (cellE e j).den env = d := by
  unfold cellE
  split
  · rename_i l
    simp only [E.den, Prim.den, D.row.injEq] at he
    subst he
    rw [denL_get, Option.map_eq_some_iff] at hj
    obtain ⟨x, hx, rfl⟩ := hj
    rw [List.getD_eq_getElem?_getD, hx]; rfl
  · simp only [E.den, E.denL, Prim.den, he, D.cells]
    rw [List.getD_eq_getElem?_getD, hj]; rfl
theorem cellA_VR {e : E} {cs : List D} {j : Nat} {d : D} {c : CT} {v : Value} (he : e.den M.env = .row cs) (hj : cs[j]? = some d) (hf : fits s.k.shape d c) (hd : DV (fun b off => w.cell? ⟨b, off, none⟩) (Imm s M) d v) : VR w s M (cellA e j c) v := by
  have h := cellE_den he hj
  cases c with
  | sc t =>
    cases d with
    | v x =>
      unfold DV at hd
      unfold fits at hf
      obtain ⟨rfl, _⟩ := hd
      unfold cellA VR
      exact ⟨h, hf⟩
    | nil => unfold fits at hf; exact hf.elim
    | lst _ => unfold fits at hf; exact hf.elim
    | row _ => unfold fits at hf; exact hf.elim
  | sl t =>
    unfold cellA VR
    rw [h]
    exact ⟨hd, hf, fun t ht => by cases ht⟩
theorem cellsA_isCell {e : E} : ∀ {j : Nat} {l : List CT}, (cellsA e j l).all isCell = true
  | _, [] => rfl
  | j, c :: r => by
    unfold cellsA
    rw [List.all_cons, cellsA_isCell]
    cases c <;> rfl
theorem cellsA_length {e : E} : ∀ {j : Nat} {l : List CT}, (cellsA e j l).length = l.length
  | _, [] => rfl
  | j, c :: r => by unfold cellsA; rw [List.length_cons, List.length_cons, cellsA_length]
theorem cellsA_take {e : E} : ∀ {j : Nat} {l : List CT} (n : Nat), (cellsA e j l).take n = cellsA e j (l.take n)
  | _, _, 0 => by simp [cellsA]
  | _, [], n + 1 => rfl
  | j, c :: r, n + 1 => by
    show (cellA e j c :: cellsA e (j + 1) r).take (n + 1) = cellsA e j (c :: r.take n)
    rw [List.take_succ_cons, cellsA_take n]; rfl
/-- The cells of a row from a place on. -/
theorem cellsA_VRl {e : E} {cs : List D} {b o : Nat} (he : e.den M.env = .row cs) (hd : DVs (fun b off => w.cell? ⟨b, off, none⟩) (Imm s M) cs b o) : ∀ {j : Nat} {l : List CT}, (∀ (i : Nat) (c : CT), l[i]? = some c → ∃ d, cs[j + i]? = some d ∧ fits s.k.shape d c) →
    ∃ vs, VRl w s M (cellsA e j l) vs ∧ At w b (o + j) vs
  | j, [], _ => ⟨[], VRl_nil, fun i v h => by simp at h⟩
  | j, c :: r, hf => by
    obtain ⟨d, h1, h2⟩ := hf 0 c rfl
    obtain ⟨v, g1, g2, _⟩ := DVs_get hd j d h1
    obtain ⟨vs, k1, k2⟩ := cellsA_VRl he hd (j := j + 1) (l := r) fun i c' hi => by
      obtain ⟨d', q1, q2⟩ := hf (i + 1) c' (by simpa using hi)
      exact ⟨d', by rw [show j + 1 + i = j + (i + 1) by omega]; exact q1, q2⟩
    refine ⟨v :: vs, ?_, fun i u hi => ?_⟩
    · unfold cellsA
      exact VRl_cons (cellA_VR he h1 h2 g2) k1
    · cases i with
      | zero => simp only [List.getElem?_cons_zero, Option.some.injEq] at hi; subst hi; exact g1
      | succ i =>
        rw [List.getElem?_cons_succ] at hi
        have := k2 i u hi
        rw [show o + (j + 1) + i = o + j + (i + 1) by omega] at this
        exact this
theorem s_loadRow {o : Oper} {a : Act} {T : Tm} {t rt : Nat} {x : Operand} {e : E} {off : Nat} {r : AV} (hs : Sim G B0 w0 w s M) (hT : TmR w s M T a) (hop : o.op = .load t x) (h : opd G T x = some (.rd rt e off)) (hl : loadRow P s.k t rt e off = some r) : OpOk P G B0 w0 w s M o a r s := by
  have hv := opd_sound hs hT h
  unfold VR at hv
  obtain ⟨b, bo, cs, ev, he, hd, hf⟩ := hv
  obtain ⟨hlen, hfg⟩ := fitsC_get hf
  obtain ⟨vs, k1, k2⟩ := cellsA_VRl he hd (j := off) (l := (s.k.shape rt).drop off) fun i c hi => by
    rw [List.getElem?_drop] at hi
    exact hfg _ c hi
  have ht : takeT P t (cellsA e off ((s.k.shape rt).drop off)) = some r := by
    simp only [loadRow, Option.bind_eq_bind, Option.bind_eq_some_iff] at hl
    obtain ⟨g, h1, hl⟩ := hl
    unfold takeT
    simp only [h1, Option.bind_eq_bind, Option.bind_some]
    cases g with
    | true =>
      simp only [if_true, Option.bind_eq_some_iff] at hl ⊢
      obtain ⟨n, h2, hl⟩ := hl
      refine ⟨n, h2, ?_⟩
      split at hl
      · rename_i hc
        cases hl
        have hc := Nat.le_of_ble_eq_true hc
        rw [if_pos (Nat.ble_eq_true_of_le (by rw [cellsA_length, List.length_drop]; omega)), cellsA_take]
      · cases hl
    | false =>
      simp only [Bool.false_eq_true, if_false, Option.bind_eq_some_iff, Option.pure_def, Option.some.injEq] at hl ⊢
      obtain ⟨c, h2, rfl⟩ := hl
      have hlt := (List.getElem?_eq_some_iff.1 h2).1
      rw [List.drop_eq_getElem_cons hlt]
      unfold cellsA
      rw [List.getElem?_eq_getElem hlt, Option.some.injEq] at h2
      rw [h2]; rfl
  obtain ⟨v, hr, hv⟩ := run_loadVar (P := P) k1 k2 ht
  exact ok_here hs (by simp [execOp, hop, Instr.loadAt, ev, Instr.sureAddr, hr]) hv
theorem s_fieldRow {o : Oper} {a : Act} {T : Tm} {st : TypeId} {x : Operand} {i : Nat} {fs : Array Field} {f : Field} {n rt off : Nat} {e : E} (hs : Sim G B0 w0 w s M) (hT : TmR w s M T a) (hop : o.op = .fieldAddr st x i) (hu : P.underlying st = some (.struct fs)) (hf : fs[i]? = some f)
    (hn : sizeT P f.type = some n) (h0 : n ≠ 0) (h : opd G T x = some (.rd rt e off)) : OpOk P G B0 w0 w s M o a (.rd rt e (off + f.offset)) s := by
  have hv := opd_sound hs hT h
  unfold VR at hv
  obtain ⟨b, bo, cs, ev, he, hd, hf'⟩ := hv
  refine ok_here hs (v := .pointer (some ⟨b, bo + off + f.offset, none⟩)) ?_ ?_
  · simp [execOp, hop, Instr.fieldAt, run_underlying hu, hf, ev, Instr.sureAddr, run_fieldPlace hn h0]
  · unfold VR; exact ⟨b, bo, cs, by rw [Nat.add_assoc], he, hd, hf'⟩
theorem rows_get {rt L : Nat} (hL : (s.k.shape rt).length = L) : ∀ {rows : List D} {b off : Nat}, DVr (fun b off => w.cell? ⟨b, off, none⟩) (Imm s M) rows b off → fitsR s.k.shape rows rt → ∀ (i : Nat) (d : D), rows[i]? = some d →
    ∃ cs, d = .row cs ∧ DVs (fun b off => w.cell? ⟨b, off, none⟩) (Imm s M) cs b (off + i * L) ∧ fitsC s.k.shape cs (s.k.shape rt)
  | [], _, _, _, _ => fun i d h => by simp at h
  | x :: r, b, off, hd, hf => fun i d hi => by
    unfold DVr at hd
    unfold fitsR at hf
    have hx : ∃ cs, x = .row cs ∧ DVs (fun b off => w.cell? ⟨b, off, none⟩) (Imm s M) cs b off ∧ fitsC s.k.shape cs (s.k.shape rt) := by
      cases x with
      | row cs => exact ⟨cs, rfl, by have := hd.1; unfold DVw at this; exact this, by have := hf.1; unfold fitsW at this; exact this⟩
      | v _ => have := hf.1; unfold fitsW at this; exact this.elim
      | nil => have := hf.1; unfold fitsW at this; exact this.elim
      | lst _ => have := hf.1; unfold fitsW at this; exact this.elim
    obtain ⟨cs, rfl, q1, q2⟩ := hx
    cases i with
    | zero =>
      simp only [List.getElem?_cons_zero, Option.some.injEq] at hi
      subst hi
      exact ⟨cs, rfl, by simpa using q1, q2⟩
    | succ i =>
      rw [List.getElem?_cons_succ] at hi
      obtain ⟨cs', g1, g2, g3⟩ := rows_get hL hd.2 hf.2 i d hi
      refine ⟨cs', g1, ?_, g3⟩
      have hlen : cs.length = L := (fitsC_get q2).1.trans hL
      simp only [D.cells, hlen] at g2
      rw [show off + L + i * L = off + (i + 1) * L by rw [Nat.add_mul]; omega] at g2
      exact g2
theorem s_symAt {o : Oper} {a : Act} {T : Tm} {t el rt size : Nat} {x ix : Operand} {e e' : E} {v : AV} (hs : Sim G B0 w0 w s M) (hT : TmR w s M T a) (hop : o.op = .indexAddr t x ix) (hu : P.underlying t = some (.slice el)) (hn : sizeT P el = some size) (hL : (s.k.shape rt).length = size)
    {tok : Option Nat} (h : opd G T x = some (.d rt e tok)) (hi : opd G T ix = some v) (ha : symAt s.k e v = some e') : OpOk P G B0 w0 w s M o a (.rd rt e' 0) s := by
  have hv := opd_sound hs hT h
  have hiv := opd_sound hs hT hi
  unfold symAt at ha
  split at ha
  · rename_i k i e1
    split at ha
    · rename_i hc
      rw [Bool.and_eq_true] at hc
      cases ha
      obtain ⟨d1, t1⟩ := toE_sound e1 hiv
      obtain ⟨j, hj⟩ := tyV_int t1
      rw [hj] at d1
      have g1 := nonNeg_sound hs hc.1
      have g2 := below_sound hs hc.2
      rw [d1] at g1 g2
      have g1 : 0 ≤ j := g1
      rcases VR_d hv with ⟨q, _⟩ | ⟨rows, b, off, cap, q1, q2, q3, q4, q5⟩
      · exfalso
        simp only [lenE, E.den, E.denL, Prim.den, q] at g2
        have g2 : j < 0 := g2
        omega
      · simp only [lenE, E.den, E.denL, Prim.den, q1] at g2
        have g2 : j < (rows.length : Int) := g2
        have hlt : j.toNat < rows.length := by omega
        obtain ⟨cs, w1, w2, w3⟩ := rows_get hL q4 q5 j.toNat rows[j.toNat] (List.getElem?_eq_getElem hlt)
        refine ok_here hs (v := .pointer (some ⟨b, off + j.toNat * size, none⟩)) ?_ ?_
        · simp [execOp, hop, Instr.indexAt, hj, asIntOf, run_underlying hu, q2, g1, g2, run_sizeOf hn, add_eq]
        · unfold VR
          refine ⟨b, off + j.toNat * size, cs, by simp, ?_, w2, w3⟩
          simp only [E.den, E.denL, Prim.den, q1, d1, D.rows, D.int]
          rw [List.getD_eq_getElem?_getD, List.getElem?_eq_getElem hlt]
          exact w1
    · cases ha
  · cases ha
theorem s_lenD {o : Oper} {a : Act} {T : Tm} {c : Go.Call} {t0 rt el : TypeId} {cs : List AV} {e : E} (hs : Sim G B0 w0 w s M) (hT : TmR w s M T a) (hop : o.op = .call c) (hc : c.callee = .builtin .len) (hA0 : c.argTypes[0]? = some t0)
    (h : opds G T c.args.toList = some cs) {tok : Option Nat} (hx : cs.head? = some (.d rt e tok)) (hd : P.underlying t0 = some (.slice el)) : OpOk P G B0 w0 w s M o a (.x (.i .i64) (lenE e)) s := by
  obtain ⟨v, hv, vx⟩ := args_head (hs := hs) hT h hx
  obtain ⟨n, e1, e2⟩ : ∃ n, (∃ b k, v = .slice b n k) ∧ (lenE e).den M.env = .v (goInt n) := by
    rcases VR_d vx with ⟨q, _, _, rfl⟩ | ⟨rows, b, off, cap, q1, rfl, _⟩
    · exact ⟨0, ⟨_, _, rfl⟩, by simp only [lenE, E.den, E.denL, Prim.den, q]; rfl⟩
    · exact ⟨rows.length, ⟨_, _, rfl⟩, by simp only [lenE, E.den, E.denL, Prim.den, q1]; rfl⟩
  obtain ⟨b, k, rfl⟩ := e1
  have key : (Builtin.len_ c.argTypes o.type (c.args.map a.eval)).run P w = .ok (goInt n) w := by
    unfold Builtin.len_
    rw [hA0, hv]
    simp only [Sem.run_bind, run_underlying hd, Result.andThen_ok]
    rfl
  refine ok_here hs (v := goInt n) ?_ ?_
  · simp [execOp, hop, resolve, hc, invoke, builtin, key]
  · unfold VR; exact ⟨e2, rfl⟩
theorem s_lenS {o : Oper} {a : Act} {T : Tm} {c : Go.Call} {t0 : TypeId} {cs : List AV} {e : E} (hs : Sim G B0 w0 w s M) (hT : TmR w s M T a) (hop : o.op = .call c) (hc : c.callee = .builtin .len) (hA0 : c.argTypes[0]? = some t0)
    (h : opds G T c.args.toList = some cs) (hx : cs.head? = some (.x .s e)) (hd : P.underlying t0 = some .string) : OpOk P G B0 w0 w s M o a (.x (.i .i64) (.pr .slen [e])) s := by
  obtain ⟨v, hv, vx⟩ := args_head (hs := hs) hT h hx
  unfold VR at vx
  obtain ⟨x, rfl⟩ := tyV_s vx.2
  have key : (Builtin.len_ c.argTypes o.type (c.args.map a.eval)).run P w = .ok (goInt x.size) w := by
    unfold Builtin.len_
    rw [hA0, hv]
    simp only [Sem.run_bind, run_underlying hd, Result.andThen_ok]
    rfl
  refine ok_here hs (v := goInt x.size) ?_ ?_
  · simp [execOp, hop, resolve, hc, invoke, builtin, key]
  · unfold VR
    refine ⟨?_, rfl⟩
    simp only [E.den, E.denL, Prim.den, vx.1]; rfl
end
end Go.Ab
/- The evaluator's operations against the model's: what is written, of symbols. -/
namespace Go.Ab
set_option linter.unusedVariables false
set_option linter.unusedSimpArgs false
set_option linter.unusedSectionVars false
set_option linter.constructorNameAsVariable false
open Go Go.RowKit

/-! ### Rows as lists of cells -/
def flat (rows : List D) : List D := rows.flatMap D.cells
section
variable {C C' : Nat → Nat → Option Value} {I I' : Nat → Nat → Prop}
def DVl (C : Nat → Nat → Option Value) (I : Nat → Nat → Prop) : List D → List Value → Prop
  | [], vs => vs = []
  | d :: r, vs => ∃ v t, vs = v :: t ∧ DV C I d v ∧ DVl C I r t
theorem DVl.mono (h : ∀ b off v, C b off = some v → I b off → C' b off = some v ∧ I' b off) : ∀ {ds : List D} {vs : List Value}, DVl C I ds vs → DVl C' I' ds vs
  | [], _, k => k
  | _ :: _, _, ⟨v, t, e, k1, k2⟩ => ⟨v, t, e, k1.mono h, DVl.mono h k2⟩
theorem DVl.append : ∀ {ds es : List D} {vs us : List Value}, DVl C I ds vs → DVl C I es us → DVl C I (ds ++ es) (vs ++ us)
  | [], _, _, _, k, k' => by
    obtain rfl : _ = [] := k
    exact k'
  | _ :: _, _, _, _, ⟨v, t, rfl, k1, k2⟩, k' => ⟨v, t ++ _, rfl, k1, DVl.append k2 k'⟩
theorem DVl.length : ∀ {ds : List D} {vs : List Value}, DVl C I ds vs → vs.length = ds.length
  | [], _, k => by
    obtain rfl : _ = [] := k
    rfl
  | _ :: _, _, ⟨v, t, rfl, k1, k2⟩ => by rw [List.length_cons, List.length_cons, DVl.length k2]
theorem DVs_vals : ∀ {cs : List D} {b off : Nat}, DVs C I cs b off → ∃ vs, DVl C I cs vs ∧ ∀ (j : Nat) (v : Value), vs[j]? = some v → C b (off + j) = some v
  | [], _, _, _ => ⟨[], rfl, fun j v h => by simp at h⟩
  | d :: r, b, off, k => by
    unfold DVs at k
    obtain ⟨⟨v, k0, k1⟩, _, k3⟩ := k
    obtain ⟨vs, g1, g2⟩ := DVs_vals k3
    refine ⟨v :: vs, ⟨v, vs, rfl, k1, g1⟩, fun j u hj => ?_⟩
    cases j with
    | zero => simp only [List.getElem?_cons_zero, Option.some.injEq] at hj; subst hj; exact k0
    | succ j =>
      have := g2 j u (by simpa using hj)
      rw [show off + (j + 1) = off + 1 + j by omega]; exact this
theorem DVs_of : ∀ {cs : List D} {vs : List Value} {b off : Nat}, DVl C I cs vs → (∀ (j : Nat) (v : Value), vs[j]? = some v → C b (off + j) = some v ∧ I b (off + j)) → DVs C I cs b off
  | [], _, _, _, _, _ => by unfold DVs; trivial
  | d :: r, vs, b, off, ⟨v, t, e, k1, k2⟩, h => by
    subst e
    unfold DVs
    have h0 := h 0 v rfl
    refine ⟨⟨v, h0.1, k1⟩, h0.2, DVs_of k2 fun j u hj => ?_⟩
    have := h (j + 1) u (by simpa using hj)
    rw [show off + 1 + j = off + (j + 1) by omega]; exact this
theorem DVr_vals : ∀ {rows : List D} {b off : Nat}, DVr C I rows b off → ∃ vs, DVl C I (flat rows) vs ∧ ∀ (j : Nat) (v : Value), vs[j]? = some v → C b (off + j) = some v
  | [], _, _, _ => ⟨[], rfl, fun j v h => by simp at h⟩
  | d :: r, b, off, k => by
    unfold DVr at k
    cases d with
    | row cs =>
      obtain ⟨k1, k2⟩ := k
      unfold DVw at k1
      obtain ⟨us, g1, g2⟩ := DVs_vals k1
      obtain ⟨vs, g3, g4⟩ := DVr_vals k2
      have hl := g1.length
      refine ⟨us ++ vs, g1.append g3, fun j u hj => ?_⟩
      rw [List.getElem?_append] at hj
      split at hj
      · exact g2 j u hj
      · rename_i hge
        have := g4 _ u hj
        simp only [D.cells] at this
        rw [show off + cs.length + (j - us.length) = off + j by omega] at this; exact this
    | v _ => unfold DVw at k; exact k.1.elim
    | nil => unfold DVw at k; exact k.1.elim
    | lst _ => unfold DVw at k; exact k.1.elim
theorem DVr_of : ∀ {rows : List D} {vs : List Value} {b off : Nat}, (∀ d, d ∈ rows → ∃ cs, d = .row cs) → DVl C I (flat rows) vs → (∀ (j : Nat) (v : Value), vs[j]? = some v → C b (off + j) = some v ∧ I b (off + j)) → DVr C I rows b off
  | [], _, _, _, _, _, _ => by unfold DVr; trivial
  | d :: r, vs, b, off, hr, k, h => by
    obtain ⟨cs, rfl⟩ := hr d (List.mem_cons_self ..)
    have hsplit : ∀ {as bs : List D} {vs : List Value}, DVl C I (as ++ bs) vs → ∃ xs ys, vs = xs ++ ys ∧ DVl C I as xs ∧ DVl C I bs ys := by
      intro as
      induction as with
      | nil => intro bs vs k; exact ⟨[], vs, rfl, rfl, k⟩
      | cons a as ih =>
        rintro bs vs ⟨v, t, rfl, k1, k2⟩
        obtain ⟨xs, ys, rfl, g1, g2⟩ := ih k2
        exact ⟨v :: xs, ys, rfl, ⟨v, xs, rfl, k1, g1⟩, g2⟩
    obtain ⟨xs, ys, rfl, g1, g2⟩ := hsplit (as := cs) (bs := flat r) k
    have hl := g1.length
    unfold DVr
    refine ⟨by unfold DVw; exact DVs_of g1 fun j v hj => h j v (by rw [List.getElem?_append_left (List.getElem?_eq_some_iff.1 hj).1]; exact hj), ?_⟩
    refine DVr_of (fun d hd => hr d (List.mem_cons_of_mem _ hd)) g2 fun j v hj => ?_
    have := h (xs.length + j) v (by rw [List.getElem?_append_right (Nat.le_add_right _ _)]; simpa using hj)
    simp only [D.cells]
    rw [show off + cs.length + j = off + (xs.length + j) by omega]; exact this
end
section
variable [Interp] {tb : Nat → List CT}
theorem fitsR_row {t : Nat} : ∀ {rows : List D}, fitsR tb rows t → ∀ d, d ∈ rows → ∃ cs, d = .row cs ∧ fitsC tb cs (tb t)
  | [], _, d, h => by cases h
  | x :: r, k, d, h => by
    unfold fitsR at k
    rcases List.mem_cons.1 h with rfl | h
    · cases d with
      | row cs => have := k.1; unfold fitsW at this; exact ⟨cs, rfl, this⟩
      | v _ => have := k.1; unfold fitsW at this; exact this.elim
      | nil => have := k.1; unfold fitsW at this; exact this.elim
      | lst _ => have := k.1; unfold fitsW at this; exact this.elim
    · exact fitsR_row k.2 d h
theorem fitsR_append {t : Nat} : ∀ {rows us : List D}, fitsR tb rows t → fitsR tb us t → fitsR tb (rows ++ us) t
  | [], _, _, k => k
  | _ :: _, _, h, k => by
    unfold fitsR at h
    rw [List.cons_append]
    unfold fitsR
    exact ⟨h.1, fitsR_append h.2 k⟩
theorem flat_length {t : Nat} : ∀ {rows : List D}, fitsR tb rows t → (flat rows).length = rows.length * (tb t).length
  | [], _ => by simp [flat]
  | d :: r, k => by
    obtain ⟨cs, rfl, hc⟩ := fitsR_row k d (List.mem_cons_self ..)
    unfold fitsR at k
    have := flat_length k.2
    show (cs ++ flat r).length = _
    rw [List.length_append, this, (fitsC_get hc).1, List.length_cons, Nat.add_mul]; omega
theorem flat_append (a b : List D) : flat (a ++ b) = flat a ++ flat b := by simp [flat]
end

section
variable [Interp] {P : Program} {G : Nat → Option (List AV)} {B0 : Nat} {w0 w : World} {s : St} {M : Mp}

/-! ### Values as expressions -/
theorem tyV_ok {t : Ty} {v : Value} (h : tyV t v = true) : okScalar v := by
  rcases tyV_scalar h with ⟨_, _, rfl⟩ | ⟨_, rfl⟩ | ⟨_, rfl⟩ <;> trivial
theorem VRs_take_get {cs : List AV} {b off : Nat} (h : VRs w s M cs b off) : ∀ i c, cs[i]? = some c → ∃ v, w.cell? ⟨b, off + i, none⟩ = some v ∧ VR w s M c v ∧ isCell c = true ∧ Imm s M b (off + i) := fun i c hi => VRs.get h i c hi
mutual
theorem cellX_sound : ∀ (n : Nat) {c : CT} {a : AV} {e : E} {v : Value}, cellX s.k n c a = some e → VR w s M a v → DV (fun b off => w.cell? ⟨b, off, none⟩) (Imm s M) (e.den M.env) v ∧ fits s.k.shape (e.den M.env) c
  | 0, _, _, _, _, h, _ => by unfold cellX at h; cases h
  | n + 1, c, a, e, v, h, hv => by
    unfold cellX at h
    split at h
    · rename_i t t' e' tok
      split at h
      · rename_i ht
        cases h
        subst ht
        unfold VR at hv
        exact ⟨hv.1, hv.2.1⟩
      · cases h
    · cases h
      obtain ⟨rfl, _⟩ := VR_v.1 hv
      simp only [E.den, E.denL, Prim.den]
      unfold DV fits fitsR
      exact ⟨.inl ⟨rfl, _, _, rfl⟩, trivial⟩
    · cases h
      unfold VR at hv
      obtain ⟨b, off, rfl⟩ := hv
      simp only [E.den, E.denL, Prim.den]
      unfold DV fits fitsR
      exact ⟨.inr ⟨b, off, 0, rfl, Nat.le_refl _, by unfold DVr; trivial⟩, trivial⟩
    · rename_i t cs len tok
      obtain ⟨l, hl, rfl⟩ := Option.map_eq_some_iff.1 h
      unfold VR at hv
      obtain ⟨b, off, cap, rfl, hle, hv, _⟩ := hv
      obtain ⟨k1, k2, k3⟩ := rowsX_sound n hl hv
      simp only [E.den, Prim.den]
      unfold DV fits
      exact ⟨.inr ⟨b, off, cap, by rw [k3], by rw [k3]; exact hle, k1⟩, k2⟩
    · rename_i t a'
      split at h
      · rename_i t' e' he
        split at h
        · rename_i ht
          cases h
          subst ht
          obtain ⟨d1, t1⟩ := toE_sound he hv
          rw [d1]
          unfold DV fits
          exact ⟨⟨rfl, tyV_ok t1⟩, t1⟩
        · cases h
      · cases h
    · cases h
theorem rowsX_sound : ∀ (n : Nat) {t len : Nat} {cs : List AV} {l : List E} {b off : Nat}, rowsX s.k n t len cs = some l → VRs w s M cs b off →
    DVr (fun b off => w.cell? ⟨b, off, none⟩) (Imm s M) (E.denL M.env l) b off ∧ fitsR s.k.shape (E.denL M.env l) t ∧ (E.denL M.env l).length = len
  | 0, _, _, _, _, _, _, h, _ => by unfold rowsX at h; cases h
  | n + 1, t, len, cs, l, b, off, h, hv => by
    unfold rowsX at h
    split at h
    · cases h
      unfold E.denL DVr fitsR
      exact ⟨trivial, trivial, rfl⟩
    · rename_i len
      split at h
      · rename_i r rest h1 h2
        cases h
        obtain ⟨k1, k2⟩ := cellsX_sound n h1 hv
        obtain ⟨k3, k4, k5⟩ := rowsX_sound n h2 (hv.drop _)
        have hlen := (fitsC_get k2).1
        unfold E.denL
        simp only [E.den, Prim.den]
        refine ⟨?_, ?_, by rw [List.length_cons, k5]⟩
        · unfold DVr
          refine ⟨by unfold DVw; exact k1, ?_⟩
          simp only [D.cells, hlen]
          exact k3
        · unfold fitsR
          exact ⟨by unfold fitsW; exact k2, k4⟩
      · cases h
theorem cellsX_sound : ∀ (n : Nat) {ct : List CT} {cs : List AV} {l : List E} {b off : Nat}, cellsX s.k n ct cs = some l → VRs w s M cs b off →
    DVs (fun b off => w.cell? ⟨b, off, none⟩) (Imm s M) (E.denL M.env l) b off ∧ fitsC s.k.shape (E.denL M.env l) ct
  | 0, _, _, _, _, _, h, _ => by unfold cellsX at h; cases h
  | n + 1, ct, cs, l, b, off, h, hv => by
    unfold cellsX at h
    split at h
    · cases h
      unfold E.denL DVs fitsC
      exact ⟨trivial, trivial⟩
    · rename_i c r a as
      split at h
      · rename_i x y h1 h2
        cases h
        unfold VRs at hv
        obtain ⟨⟨v, g0, g1⟩, _, g3, g4⟩ := hv
        obtain ⟨k1, k2⟩ := cellX_sound n h1 g1
        obtain ⟨k3, k4⟩ := cellsX_sound n h2 g4
        unfold E.denL DVs fitsC
        exact ⟨⟨⟨v, g0, k1⟩, g3, k3⟩, k2, k4⟩
      · cases h
    · cases h
end

theorem cellsX_pre : ∀ (n : Nat) {ct : List CT} {cs : List AV} {l : List E} {vs : List Value}, cellsX s.k n ct cs = some l → VRl w s M cs vs → DVl (fun b off => w.cell? ⟨b, off, none⟩) (Imm s M) (E.denL M.env l) (vs.take ct.length) ∧ fitsC s.k.shape (E.denL M.env l) ct
  | 0, _, _, _, _, h, _ => by unfold cellsX at h; cases h
  | n + 1, ct, cs, l, vs, h, hv => by
    unfold cellsX at h
    split at h
    · cases h
      unfold E.denL fitsC
      exact ⟨rfl, trivial⟩
    · rename_i c r a as
      split at h
      · rename_i x y h1 h2
        cases h
        unfold VRl at hv
        obtain ⟨v, t, rfl, g1, g4⟩ := hv
        obtain ⟨k1, k2⟩ := cellX_sound n h1 g1
        obtain ⟨k3, k4⟩ := cellsX_pre n h2 g4
        unfold E.denL fitsC
        exact ⟨⟨v, _, rfl, k1, k3⟩, k2, k4⟩
      · cases h
    · cases h
theorem rowsX_VRl : ∀ (n : Nat) {t len : Nat} {cs : List AV} {l : List E} {vs : List Value}, rowsX s.k n t len cs = some l → cs.length = len * (s.k.shape t).length → VRl w s M cs vs →
    DVl (fun b off => w.cell? ⟨b, off, none⟩) (Imm s M) (flat (E.denL M.env l)) vs ∧ fitsR s.k.shape (E.denL M.env l) t ∧ (E.denL M.env l).length = len
  | 0, _, _, _, _, _, h, _, _ => by unfold rowsX at h; cases h
  | n + 1, t, len, cs, l, vs, h, hl, hv => by
    unfold rowsX at h
    split at h
    · cases h
      have : vs = [] := List.length_eq_zero_iff.1 (by rw [← hv.length, hl]; simp)
      subst this
      unfold E.denL fitsR
      exact ⟨rfl, trivial, rfl⟩
    · rename_i len
      split at h
      · rename_i r rest h1 h2
        cases h
        obtain ⟨k1, k2⟩ := cellsX_pre n h1 hv
        have hl' : (cs.drop (s.k.shape t).length).length = len * (s.k.shape t).length := by rw [List.length_drop, hl, Nat.succ_eq_add_one, Nat.add_mul]; omega
        obtain ⟨k3, k4, k5⟩ := rowsX_VRl n h2 hl' (hv.drop _)
        unfold E.denL
        simp only [E.den, Prim.den]
        refine ⟨?_, ?_, by rw [List.length_cons, k5]⟩
        · show DVl _ _ (E.denL M.env r ++ flat (E.denL M.env rest)) vs
          have := k1.append k3
          rw [List.take_append_drop] at this
          exact this
        · unfold fitsR
          exact ⟨by unfold fitsW; exact k2, k4⟩
      · cases h

/-! ### Appending -/
theorem append_own_core {o : Oper} {a : Act} {c : Go.Call} {t0 t1 e : TypeId} {d : TypeDesc} {ox oy : Operand} (hs : Sim G B0 w0 w s M) (hop : o.op = .call c) (hc : c.callee = .builtin .append)
    (hA0 : c.argTypes[0]? = some t0) (hA1 : c.argTypes[1]? = some t1) (ht0 : P.underlying t0 = some (.slice e)) (ht1 : P.underlying t1 = some d) (hd : ∀ k, d ≠ .int k) (hargs : c.args = #[ox, oy])
    {i : TypeInfo} {zv : Value} (hi : P.info? e = some i) (hzv : i.zero = some zv) (hzs : zv.cells.size = i.size)
    {t len n : Nat} {tip tip' : Tip} (ht : t < s.n) (hg : s.get t = some (.row tip i.size)) (htip : tip.val M.env = len * i.size) (htip' : tip'.val M.env = (len + n) * i.size) (hroom : s.room = true)
    (ex : a.eval ox = .slice (some ⟨M.blk t, 0, none⟩) len (M.cap t)) {ovs vs : List Value} (hat : ∀ (j : Nat) (q : Value), ovs[j]? = some q → w.cell? ⟨M.blk t, j, none⟩ = some q) (hovl : ovs.length = len * i.size)
    (hlen : ∀ W : World, (Builtin.lenOf (a.eval oy)).run P W = .ok n W) (hf1 : (Builtin.firstCells i.size n (a.eval oy)).run P w = .ok vs.toArray w) (hf2 : (Builtin.firstCells i.size n (a.eval oy)).run P w.drew = .ok vs.toArray w.drew)
    (hvl : vs.length = n * i.size) (h6 : ∀ v ∈ vs, v.oneCell' = true) (htl : tooLong i.bytes (len + n) = false) :
    ∃ w' M' b cap, (execOp a.eval o).run P w = .ok (.value (.slice (some ⟨b, 0, none⟩) (len + n) cap)) w' ∧ Sim G B0 w0 w' ((s.put t .dead).new (.row tip' i.size)) M' ∧ Ext w s M w' ((s.put t .dead).new (.row tip' i.size)) M' ∧
      len + n ≤ cap ∧ M'.blk s.n = b ∧ M'.cap s.n = cap ∧ ∀ (j : Nat) (v : Value), (ovs ++ vs)[j]? = some v → w'.cell? ⟨b, j, none⟩ = some v ∧ Imm ((s.put t .dead).new (.row tip' i.size)) M' b j := by
  have hargs' : c.args.map a.eval = #[a.eval ox, a.eval oy] := by rw [hargs]; simp
  have htll : t < Tr.lid := Nat.lt_of_lt_of_le ht hs.bound
  have hgn : ((s.put t .dead).new (.row tip' i.size)).get s.n = some (.row tip' i.size) := by rw [St.get_new _ _ _ (by simpa [St.put] using room_lt hroom)]; exact if_pos rfl
  have hlt : s.n < ((s.put t .dead).new (.row tip' i.size)).n := by simp [St.new, St.put]
  have hnl : (ovs ++ vs).length = (len + n) * i.size := by rw [List.length_append, hovl, hvl, Nat.add_mul]
  obtain ⟨hb1, hb2⟩ := tooLong_no htl
  have hneed : len + n ≤ 2 ^ 47 := by
    have h1 : (2 * (len + n) + 2048) * 1 ≤ (2 * (len + n) + 2048) * i.bytes := Nat.mul_le_mul_left _ hb2
    omega
  by_cases hroomy : len + n ≤ M.cap t
  · obtain ⟨c0, e0', fr, a1, a2, a3, a4⟩ := hs.obj t _ ht hg
    have hfits : len * i.size + n * i.size ≤ c0.size := by rw [a2, ← Nat.add_mul]; exact Nat.mul_le_mul_right _ hroomy
    obtain ⟨k1, k2, k3⟩ := heap_setCells vs (len * i.size) w c0 a1 (by rw [hvl]; exact hfits)
    have hst : (storeCells ⟨M.blk t, len * i.size, none⟩ vs).run P w = .ok () (w.setCells (M.blk t) (len * i.size) vs) := by
      have := run_storeCells_cells (P := P) (M.blk t) (len * i.size) vs 0 w (fun j hj => ?_) (fun j hj => ?_) h6
      · simpa using this
      · simp only [World.cell?, a1]
        simp
        omega
      · simp only [World.frozen?, a1]
        have := a4.no (show len * i.size + 0 + j < c0.size by omega)
        simp only [Bool.and_eq_false_iff, decide_eq_false_iff_not]
        rcases Classical.em (fr.1 ≤ len * i.size + 0 + j) with q | q
        · exact .inr fun q' => this ⟨q, q'⟩
        · exact .inl q
    have hrun := run_append_room' (w := w) t0 t1 o.type e c.argTypes hA0 hA1 i d ht0 ht1 hd hi (some ⟨M.blk t, 0, none⟩) len (M.cap t) n (a.eval oy) vs hlen hf1 hroomy (fun q hq => by cases hq; rw [add_eq, Nat.zero_add]; exact hst) (fun h => by cases h)
    have hnewsz : (c0.toList.take (len * i.size) ++ vs ++ c0.toList.drop (len * i.size + vs.length)).toArray.size = c0.size := by
      simp only [List.size_toArray, List.length_append, List.length_take, List.length_drop, Array.length_toList, hvl]; omega
    obtain ⟨hs2, hE2⟩ := grow_in (tip' := tip') hs hroom ht hg (by rw [htip, htip', Nat.add_mul]; omega) a1 k1 hnewsz (by rw [htip', Nat.add_mul]; exact hfits) (fun j hj => by
      have hj : j < len * i.size := by rw [← htip]; exact hj
      rw [List.getElem?_toArray, List.append_assoc, List.getElem?_append_left (by simp; omega), List.getElem?_take, if_pos hj, Array.getElem?_toList]) k2 (below_setCells (hs.blk t ht).1 vs _ w hs.below) k3
    have hbn : (M.add s.n (M.blk t) (M.cap t)).blk s.n = M.blk t := by simp [Mp.add]
    refine ⟨_, _, M.blk t, M.cap t, exec_append hop hc (by rw [hargs', ex]; exact hrun), hs2, hE2, hroomy, hbn, by simp [Mp.add], fun j v hj => ?_⟩
    have hjl : j < (len + n) * i.size := by rw [← hnl]; exact (List.getElem?_eq_some_iff.1 hj).1
    refine ⟨?_, ?_⟩
    · have e2 : c0.toList.take (len * i.size) = ovs := by
        apply List.ext_getElem?
        intro j
        rw [List.getElem?_take]
        by_cases hj : j < len * i.size
        · rw [if_pos hj]
          obtain ⟨q, hq⟩ : ∃ q, ovs[j]? = some q := ⟨ovs[j], List.getElem?_eq_getElem (by omega)⟩
          have := hat j q hq
          simp only [World.cell?, a1] at this
          rw [hq, Array.getElem?_toList]; simpa using this
        · rw [if_neg hj, List.getElem?_eq_none (by omega)]
      simp only [World.cell?, k1, List.getElem?_toArray]
      rw [e2, List.getElem?_append_left (by rw [hnl]; exact hjl)]
      simpa using hj
    · have := imm_row hs2 hlt hgn (i := j) (by show j < tip'.val M.env; rw [htip']; exact hjl)
      rw [hbn] at this; exact this
  · have hs1 := sim_kill hs t ht
    have hE1 : Ext w s M w (s.put t .dead) M := ext_kill t htll
    have hs2 := sim_drew hs1
    have hEd : Ext w s M w.drew (s.put t .dead) M := hE1.trans ext_drew
    have hg' : M.cap t < len + n := by omega
    have hfit : Builtin.nextslicecap (len + n) (M.cap t) * i.bytes ≤ 281474976710656 := growslice_fits hg' (by
      have h1 : (len + n) * i.bytes ≤ (2 * (len + n) + 2048) * i.bytes := Nat.mul_le_mul_right _ (by omega)
      omega)
    have hold : (Builtin.firstCells i.size len (.slice (some ⟨M.blk t, 0, none⟩) len (M.cap t))).run P w.drew = .ok ovs.toArray w.drew :=
      run_firstCells_some (P := P) w.drew i.size len ⟨M.blk t, 0, none⟩ len (M.cap t) ovs hovl fun j q hq => by rw [add_eq, Nat.zero_add]; exact hat j q hq
    have hrun := run_append_grow' (w := w) t0 t1 o.type e c.argTypes hA0 hA1 i zv d ht0 ht1 hd hi hzv (some ⟨M.blk t, 0, none⟩) len (M.cap t) n (a.eval oy) ovs vs hlen hold hf2 hg' (by omega) hfit
    have hcapge := grownCap_ge w (len + n) (M.cap t) e
    have hcells : (ovs.toArray ++ vs.toArray ++ Builtin.zeroCells zv.cells (grownCap w (len + n) (M.cap t) e - (len + n))).size = grownCap w (len + n) (M.cap t) e * i.size := by
      simp only [Array.size_append, size_zeroCells, hzs, List.size_toArray, hvl, hovl]
      rw [← Nat.add_mul, ← Nat.add_mul]; congr 1; omega
    have hroom1 : (s.put t .dead).room = true := by simpa [St.room, St.put] using hroom
    obtain ⟨hs3, hE3⟩ := new_row hs2 hroom1 (vs := ovs.toArray ++ vs.toArray ++ Builtin.zeroCells zv.cells (grownCap w (len + n) (M.cap t) e - (len + n))) e (0, 0) tip' i.size (grownCap w (len + n) (M.cap t) e) hcells
      (by rw [htip', hcells]; exact Nat.mul_le_mul_right _ hcapge) (.inl rfl)
    have hbn : (M.add s.n w.drew.heap.size (grownCap w (len + n) (M.cap t) e)).blk s.n = w.heap.size := by simp [Mp.add]
    refine ⟨_, _, w.heap.size, grownCap w (len + n) (M.cap t) e, exec_append hop hc (by rw [hargs', ex]; exact hrun), hs3, hEd.trans hE3, hcapge, hbn, by simp [Mp.add, St.put], fun j v hj => ?_⟩
    have hjl : j < (len + n) * i.size := by rw [← hnl]; exact (List.getElem?_eq_some_iff.1 hj).1
    refine ⟨?_, ?_⟩
    · have := heap_new w.drew (.cells (ovs.toArray ++ vs.toArray ++ Builtin.zeroCells zv.cells (grownCap w (len + n) (M.cap t) e - (len + n))) e (0, 0))
      have hsz : w.drew.heap.size = w.heap.size := rfl
      rw [hsz] at this
      simp only [World.cell?, this]
      show (ovs.toArray ++ vs.toArray ++ _)[j]? = some v
      rw [Array.getElem?_append_left (by simp only [Array.size_append, List.size_toArray, ← List.length_append, hnl]; exact hjl)]
      rw [← Array.getElem?_toList]
      simpa using hj
    · have := imm_row hs3 hlt hgn (i := j) (by show j < tip'.val M.env; rw [htip']; exact hjl)
      have hbn' : (M.add (s.put t .dead).n w.drew.heap.size (grownCap w (len + n) (M.cap t) e)).blk s.n = w.heap.size := hbn
      rw [hbn'] at this; exact this
theorem DV_oneCell {C : Nat → Nat → Option Value} {I : Nat → Nat → Prop} : ∀ {d : D} {v : Value}, DV C I d v → v.oneCell' = true
  | .v x, v, k => by
    unfold DV at k
    obtain ⟨rfl, h⟩ := k
    cases v <;> first | rfl | exact h.elim
  | .nil, v, k => by unfold DV at k; exact k.elim
  | .lst rows, v, k => by
    unfold DV at k
    rcases k with ⟨_, _, _, rfl⟩ | ⟨b, off, cap, rfl, _⟩ <;> rfl
  | .row _, v, k => by unfold DV at k; exact k.elim
theorem DVl_oneCell {C : Nat → Nat → Option Value} {I : Nat → Nat → Prop} : ∀ {ds : List D} {vs : List Value}, DVl C I ds vs → ∀ v ∈ vs, v.oneCell' = true
  | [], vs, k, v, hv => by
    obtain rfl : vs = [] := k
    cases hv
  | _ :: _, _, ⟨u, t, rfl, k1, k2⟩, v, hv => by
    rcases List.mem_cons.1 hv with rfl | hv
    · exact DV_oneCell k1
    · exact DVl_oneCell k2 v hv
theorem rowsE_sound (hs : Sim G B0 w0 w s M) {t size : Nat} {y : AV} {e : E} {v : Value} (hL : (s.k.shape t).length = size) (h : rowsE s t size y = some e) (hv : VR w s M y v) :
    ∃ rows vs, e.den M.env = .lst rows ∧ fitsR s.k.shape rows t ∧ DVl (fun b off => w.cell? ⟨b, off, none⟩) (Imm s M) (flat rows) vs ∧ vs.length = rows.length * size ∧
      (∀ W : World, (Builtin.lenOf v).run P W = .ok rows.length W) ∧ (Builtin.firstCells size rows.length v).run P w = .ok vs.toArray w ∧ (Builtin.firstCells size rows.length v).run P w.drew = .ok vs.toArray w.drew := by
  unfold rowsE at h
  split at h
  · rename_i t' e' tok
    split at h
    · rename_i ht
      cases h
      subst ht
      rcases VR_d hv with ⟨q, a0, c0, rfl⟩ | ⟨rows, b, off, cap, q1, rfl, q3, q4, q5⟩
      · exact ⟨[], [], q, by unfold fitsR; trivial, rfl, by simp, fun W => by simp [Builtin.lenOf], by cases a0 <;> simp [Builtin.firstCells, loadCells, loadCellsFrom], by cases a0 <;> simp [Builtin.firstCells, loadCells, loadCellsFrom]⟩
      · obtain ⟨vs, g1, g2⟩ := DVr_vals q4
        have hl : vs.length = rows.length * size := by rw [g1.length, flat_length q5, hL]
        refine ⟨rows, vs, q1, q5, g1, hl, fun W => by simp [Builtin.lenOf], ?_, ?_⟩
        · exact run_firstCells_some (P := P) w size rows.length ⟨b, off, none⟩ rows.length cap vs hl fun j x hj => by rw [add_eq]; exact g2 j x hj
        · exact run_firstCells_some (P := P) w.drew size rows.length ⟨b, off, none⟩ rows.length cap vs hl fun j x hj => by rw [add_eq]; exact g2 j x hj
    · cases h
  · split at h
    · rename_i ys n hh
      split at h
      · rename_i hn
        have hn := nbe hn
        obtain ⟨l, hl, rfl⟩ := Option.map_eq_some_iff.1 h
        obtain ⟨vs, k1, k2, k3, k4⟩ := heldBy_sound (P := P) hs hh hv hn
        obtain ⟨j1, j2, j3⟩ := rowsX_VRl 1000 hl (by rw [hL]; exact hn) k1
        refine ⟨E.denL M.env l, vs, rfl, j2, j1, by rw [← k1.length, hn, j3], by rw [j3]; exact k2, by rw [j3]; exact k3, by rw [j3]; exact k4⟩
      · cases h
    · cases h
theorem ownE_sound (hs : Sim G B0 w0 w s M) {t size : Nat} {x : AV} {e : E} {tk : Nat} {v : Value} (hL : (s.k.shape t).length = size) (h : ownE s t size x = some (e, tk)) (hv : VR w s M x v) :
    ∃ rows ovs tip, e.den M.env = .lst rows ∧ fitsR s.k.shape rows t ∧ tk < s.n ∧ s.get tk = some (.row tip size) ∧ tip.val M.env = rows.length * size ∧ v = .slice (some ⟨M.blk tk, 0, none⟩) rows.length (M.cap tk) ∧
      DVl (fun b off => w.cell? ⟨b, off, none⟩) (Imm s M) (flat rows) ovs ∧ (∀ (j : Nat) (q : Value), ovs[j]? = some q → w.cell? ⟨M.blk tk, j, none⟩ = some q) := by
  unfold ownE at h
  split at h
  · rename_i t' e' tk'
    split at h
    · rename_i e2 wd esz hg
      split at h
      · rename_i ht
        split at h
        · rename_i hc
          simp only [Option.some.injEq, Prod.mk.injEq] at h
          obtain ⟨rfl, rfl⟩ := h
          subst ht
          simp only [Bool.and_eq_true] at hc
          obtain ⟨⟨⟨c1, c2⟩, c3⟩, c4⟩ := hc
          have c1 := eEq_eq c1
          have c2 := nbe c2
          have c3 := nbe c3
          subst c1 c2 c3
          have c4 := Nat.le_of_ble_eq_true c4
          have hv' := hv
          unfold VR at hv'
          obtain ⟨_, hlt, htok⟩ := hv'.2.2 tk' rfl |>.imp_left id |> fun h => (⟨trivial, h.1, h.2⟩ : True ∧ _ ∧ _)
          obtain ⟨l, hl⟩ := htok _ _ hg
          rcases VR_d hv with ⟨q, a3, cap3, e3⟩ | ⟨rows, b, off, cap, q1, q2, q3, q4, q5⟩
          · rw [e3] at hl
            injection hl with e5 e6 e7
            exact ⟨[], [], _, q, by unfold fitsR; trivial, hlt, hg, by simp only [Tip.val, q, D.rows], by rw [e3, e5, e7]; rfl, rfl, fun j q hj => by simp at hj⟩
          · rw [q2] at hl
            cases hl
            obtain ⟨vs, g1, g2⟩ := DVr_vals q4
            exact ⟨rows, vs, _, q1, q5, hlt, hg, by simp only [Tip.val, q1, D.rows], q2, g1, fun j q hj => by have := g2 j q hj; rw [Nat.zero_add] at this; exact this⟩
        · cases h
      · cases h
    · cases h
  · rename_i cs len tk'
    split at h
    · rename_i tip esz hg
      split at h
      · rename_i hc
        obtain ⟨l, hl, e1⟩ := Option.map_eq_some_iff.1 h
        simp only [Prod.mk.injEq] at e1
        obtain ⟨rfl, rfl⟩ := e1
        simp only [Bool.and_eq_true] at hc
        obtain ⟨⟨⟨c1, c2⟩, c3⟩, c4⟩ := hc
        have c1 := nbe c1
        have c2 := nbe c2
        subst c1 c2
        have c4 := Nat.le_of_ble_eq_true c4
        unfold VR at hv
        obtain ⟨b, off, cap, rfl, hle, hv, htok⟩ := hv
        obtain ⟨hlt, htok⟩ := htok tk' rfl
        obtain ⟨rfl, rfl, rfl⟩ := htok _ _ hg
        obtain ⟨ovs, k1, k2⟩ := (hv.take (len * esz)).vals
        obtain ⟨j1, j2, j3⟩ := rowsX_VRl 1000 hl (by rw [hL, List.length_take]; omega) k1
        refine ⟨E.denL M.env l, ovs, _, rfl, j2, hlt, hg, by rw [j3]; rfl, by rw [j3], j1, fun j q hj => by have := k2 j q hj; rw [Nat.zero_add] at this; exact this⟩
      · cases h
    · cases h
  · cases h
theorem few_sound (hs : Sim G B0 w0 w s M) {bytes : Nat} {e : E} {rows : List D} (he : e.den M.env = .lst rows) (h : few s.k bytes e = true) : tooLong bytes rows.length = false := by
  unfold few at h
  rw [Bool.and_eq_true, Bool.not_eq_true'] at h
  have h1 := fact_of hs h.1
  simp only [E.den, E.denL, Prim.den, lenE, eInt, he] at h1
  have h1 := ofBool_true h1
  have h1 : (rows.length : Int) ≤ rowMax := by simpa [cmpI, D.int, D.ofInt, D.rows] using h1
  obtain ⟨g1, g2⟩ := tooLong_no h.2
  unfold tooLong
  rw [Bool.or_eq_false_iff, Bool.not_eq_false']
  refine ⟨Nat.ble_eq_true_of_le (Nat.le_trans (Nat.mul_le_mul_right _ (by omega)) g1), nbf (by omega)⟩
theorem s_symAppend {o : Oper} {a : Act} {T : Tm} {c : Go.Call} {t0 t1 e el1 : TypeId} {x y : AV} {ox oy : Operand} {r : AV} {s' : St} (hs : Sim G B0 w0 w s M) (hT : TmR w s M T a) (hop : o.op = .call c) (hc : c.callee = .builtin .append)
    (hA0 : c.argTypes[0]? = some t0) (hA1 : c.argTypes[1]? = some t1) (ht0 : P.underlying t0 = some (.slice e)) (ht1 : P.underlying t1 = some (.slice el1))
    (hargs : c.args.toList = [ox, oy]) (hx : opd G T ox = some x) (hy : opd G T oy = some y) (h : symAppend P e s x y = some (r, s')) : OpOk P G B0 w0 w s M o a r s' := by
  have vx := opd_sound hs hT hx
  have vy := opd_sound hs hT hy
  have hargs : c.args = #[ox, oy] := by rw [← Array.toList_inj, hargs]
  have hargs' : c.args.map a.eval = #[a.eval ox, a.eval oy] := by rw [hargs]; simp
  simp only [symAppend, Option.bind_eq_bind, Option.bind_eq_some_iff] at h
  obtain ⟨size, hsize, bytes, hbytes, z, hz, h⟩ := h
  obtain ⟨zv, hz1, hz2⟩ := zeroCells_some hz
  unfold sizeT at hsize; unfold bytesT at hbytes; unfold zeroT at hz1
  rw [Option.map_eq_some_iff] at hsize hbytes
  rw [Option.bind_eq_some_iff] at hz1
  obtain ⟨i, hi, rfl⟩ := hsize
  obtain ⟨i', hi', rfl⟩ := hbytes
  obtain ⟨i'', hi'', hzv⟩ := hz1
  rw [hi] at hi' hi''; cases hi'; cases hi''
  split at h
  · cases h
  · rename_i hcnd
    simp only [Bool.or_eq_true, Bool.not_eq_true', not_or, Bool.not_eq_false, Bool.not_eq_true] at hcnd
    obtain ⟨⟨⟨c1, c2⟩, c3⟩, hroom⟩ := hcnd
    have hL := nbe c1
    have hz3 := nbe c3
    have hi0 : i.size ≠ 0 := fun e => by rw [e] at c2; cases c2
    have hzs : zv.cells.size = i.size := by have := (VRl_scAll (w := w) (s := s) (M := M) hz2).length; rw [hz3] at this; simp at this; exact this.symm
    simp only [Option.bind_eq_some_iff] at h
    obtain ⟨ey, hey, h⟩ := h
    obtain ⟨rows, vs, d1, f1, g1, hvl, hlen, hf1, hf2⟩ := rowsE_sound (P := P) hs hL hey vy
    have hd : ∀ k, TypeDesc.slice el1 ≠ .int k := fun k => by simp
    split at h
    · -- a nil slice
      split at h
      · rename_i hfew
        simp only [Option.some.injEq, Prod.mk.injEq] at h
        obtain ⟨rfl, rfl⟩ := h
        have htl := few_sound hs d1 hfew
        have ex := (VR_v.1 vx).1
        rcases Nat.eq_zero_or_pos rows.length with h0 | h0
        · have hr0 : rows = [] := List.length_eq_zero_iff.1 h0
          subst hr0
          have hrun := run_append_room' (w := w) (w' := w) t0 t1 o.type e c.argTypes hA0 hA1 i _ ht0 ht1 hd hi none 0 0 0 (a.eval oy) vs hlen hf1 (Nat.le_refl _) (fun a h => by cases h) (fun _ => rfl)
          refine ok_here hs (exec_append hop hc (by rw [hargs', ex]; exact hrun)) ?_
          unfold VR
          rw [d1]
          refine ⟨?_, ?_, fun t ht => by cases ht⟩
          · unfold DV; exact .inl ⟨rfl, _, _, rfl⟩
          · unfold fits; exact f1
        · obtain ⟨hb1, hb2⟩ := tooLong_no htl
          have hneed : rows.length ≤ 2 ^ 47 := by
            have h1 : (2 * rows.length + 2048) * 1 ≤ (2 * rows.length + 2048) * i.bytes := Nat.mul_le_mul_left _ hb2
            omega
          have hfit : Builtin.nextslicecap (0 + rows.length) 0 * i.bytes ≤ 281474976710656 := growslice_fits (by omega) (by
            have h1 : (0 + rows.length) * i.bytes ≤ (2 * rows.length + 2048) * i.bytes := Nat.mul_le_mul_right _ (by omega)
            omega)
          have hrun := run_append_grow' (w := w) t0 t1 o.type e c.argTypes hA0 hA1 i zv _ ht0 ht1 hd hi hzv none 0 0 rows.length (a.eval oy) [] vs hlen (by simp [Builtin.firstCells]) hf2 (by omega) (by omega) hfit
          have hcapge := grownCap_ge w (0 + rows.length) 0 e
          have hB : Below w.heap.size w (w.drew.alloc (.cells (([] : List Value).toArray ++ vs.toArray ++ Builtin.zeroCells zv.cells (grownCap w (0 + rows.length) 0 e - (0 + rows.length))) e)) :=
            (Below.refl _ _).drew.alloc (Nat.le_refl _) _
          obtain ⟨hs2, hE2⟩ := sim_frame hs hB
          refine ok_value (exec_append hop hc (by rw [hargs', ex]; exact hrun)) ?_ hs2 hE2
          unfold VR
          rw [d1]
          refine ⟨?_, ?_, fun t ht => by cases ht⟩
          · unfold DV
            refine .inr ⟨w.heap.size, 0, grownCap w (0 + rows.length) 0 e, by rw [Nat.zero_add], by have := hcapge; omega, ?_⟩
            refine DVr_of (fun d hd => (fitsR_row f1 d hd).imp fun _ h => h.1) (g1.mono hE2.cells) fun j v hj => ⟨?_, fun i' o' hin _ hbk => ?_, out_new hs (Nat.le_refl _)⟩
            · have := heap_new w.drew (.cells (([] : List Value).toArray ++ vs.toArray ++ Builtin.zeroCells zv.cells (grownCap w (0 + rows.length) 0 e - (0 + rows.length))) e (0, 0))
              have hsz : w.drew.heap.size = w.heap.size := rfl
              rw [hsz] at this
              simp only [World.cell?, this]
              rw [Nat.zero_add j]
              show (([] : List Value).toArray ++ vs.toArray ++ _)[j]? = some v
              have hjl := (List.getElem?_eq_some_iff.1 hj).1
              rw [Array.getElem?_append_left (by simpa using hjl)]
              simpa using hj
            · have := (hs.blk i' hin).2
              omega
          · unfold fits; exact f1
      · cases h
    · -- a row of the call's own
      rename_i hno
      obtain ⟨⟨ex, tk⟩, hex, h⟩ := Option.bind_eq_some_iff.1 h
      simp only at h
      split at h
      · rename_i hfew
        simp only [Option.some.injEq, Prod.mk.injEq] at h
        obtain ⟨rfl, rfl⟩ := h
        obtain ⟨xr, ovs, tip, d2, f2, hlt, hg, htip, evx, g2, hat⟩ := ownE_sound hs hL hex vx
        have dc : (E.pr .cat [ex, ey]).den M.env = .lst (xr ++ rows) := by simp only [E.den, E.denL, Prim.den, d1, d2]; rfl
        have htl := few_sound hs dc hfew
        rw [List.length_append] at htl
        have hovl : ovs.length = xr.length * i.size := by rw [g2.length, flat_length f2, hL]
        obtain ⟨w', M', b, cap, q1, q2, q3, q4, q5, q6, q7⟩ := append_own_core (tip' := .e (.pr .cat [ex, ey]) i.size) hs hop hc hA0 hA1 ht0 ht1 hd hargs hi hzv hzs hlt hg htip (by simp only [Tip.val, dc, D.rows, List.length_append]) hroom evx hat hovl hlen hf1 hf2 hvl (DVl_oneCell g1) htl
        refine ok_value q1 ?_ q2 q3
        unfold VR
        rw [q3.keep.1, dc]
        refine ⟨?_, ?_, fun t ht => ?_⟩
        · unfold DV
          refine .inr ⟨b, 0, cap, by rw [List.length_append], by rw [List.length_append]; exact q4, ?_⟩
          refine DVr_of (fun d hd => ?_) (by rw [flat_append]; exact (g2.append g1).mono q3.cells) fun j v hj => by rw [Nat.zero_add]; exact q7 j v hj
          exact (fitsR_row (fitsR_append f2 f1) d hd).imp fun _ h => h.1
        · rw [q3.keep.2.2]; unfold fits; exact fitsR_append f2 f1
        · cases ht
          exact ⟨by simp [St.new, St.put], fun tip' e' hg' => ⟨xr.length + rows.length, by rw [q5, q6]⟩⟩
      · cases h

/-! ### Tables -/
theorem tyT_key {t : TypeId} {kt : Ty} {v : Value} (h : tyT P t = some kt) (hb : kt ≠ .b) (hv : tyV kt v = true) : keyT P t v = true := by
  unfold tyT at h
  unfold keyT
  split at h
  · rename_i k hu
    cases h
    obtain ⟨i, rfl⟩ := tyV_int hv
    rw [hu]
  · cases h; exact absurd rfl hb
  · rename_i hu
    cases h
    obtain ⟨i, rfl⟩ := tyV_s hv
    rw [hu]
  · cases h
theorem entE_sound {kt ct : Ty} : ∀ {es : List (Value × AV)} {l : List E} {ents : List MapEntry}, entE kt ct es = some l → MR w s M es ents → MDr kt ct (E.denL M.env l) ents
  | [], l, ents, h, k => by
    simp only [entE, Option.some.injEq] at h
    subst h
    unfold E.denL
    exact k
  | (x, a) :: r, l, ents, h, k => by
    unfold entE at h
    obtain ⟨e, t', rfl, rfl, k1, k2⟩ := k
    split at h
    · rename_i t ek u ea rest h1 h2 h3
      split at h
      · rename_i ht
        split at h
        · rename_i hu
          cases h
          subst ht hu
          obtain ⟨d2, t2⟩ := toE_sound h2 k1
          have d1 : ek.den M.env = .v e.key ∧ tyV t e.key = true := by
            generalize e.key = kk at h1
            cases kk <;> simp only [toE, Option.some.injEq, Prod.mk.injEq, reduceCtorEq] at h1 <;> (obtain ⟨rfl, rfl⟩ := h1; simp [E.den, tyV])
          unfold E.denL
          exact ⟨e, t', rfl, by simp only [E.den, E.denL, Prim.den, d1.1, d2], d1.2, t2, entE_sound h3 k2⟩
        · cases h
      · cases h
    · cases h
theorem mapE_sound (hs : Sim G B0 w0 w s M) {kt ct : Ty} {m : Nat} {e : E} (hm : m < s.n) (h : mapE kt ct (s.get m) = some e) :
    ∃ ents clock rows ob, s.get m = some ob ∧ ob.live ∧ (∀ tip e, ob ≠ .row tip e) ∧ w.heap[M.blk m]? = some (.map ents clock) ∧ e.den M.env = .lst rows ∧ MDr kt ct rows ents.toList := by
  cases hg : s.get m with
  | none => rw [hg] at h; cases h
  | some ob =>
    rw [hg] at h
    have ho := hs.obj m ob hm hg
    unfold mapE at h
    split at h
    · rename_i es heq
      cases heq
      obtain ⟨l, hl, rfl⟩ := Option.map_eq_some_iff.1 h
      obtain ⟨ents, clock, a1, a2⟩ := ho
      exact ⟨ents, clock, _, _, rfl, trivial, fun _ _ => by simp, a1, rfl, entE_sound hl a2⟩
    · rename_i kt' ct' e' heq
      cases heq
      split at h
      · rename_i h1
        split at h
        · rename_i h2
          cases h
          subst h1 h2
          obtain ⟨ents, clock, rows, a1, a2, a3⟩ := ho
          exact ⟨ents, clock, rows, _, rfl, trivial, fun _ _ => by simp, a1, a2, a3⟩
        · cases h
      · cases h
    · cases h
theorem same_key {t : TypeId} {d : TypeDesc} {kt : Ty} {k x : Value} (hd : P.underlying t = some d) (ht : tyT P t = some kt) (hb : kt ≠ .b) (hk : tyV kt k = true) (hx : tyV kt x = true) : Instr.sameNow d k x = some (dkeyIs (.v k) (.v x)) := by
  refine sameKey_now hd (tyT_key ht hb hk) ?_
  cases kt with
  | i kk =>
    obtain ⟨i, rfl⟩ := tyV_int hk
    obtain ⟨j, rfl⟩ := tyV_int hx
    simp only [sameKey, dkeyIs, if_true, decide_true, Bool.true_and, Option.some.injEq]
    by_cases h : i = j <;> simp [h]
  | b => exact absurd rfl hb
  | s =>
    obtain ⟨i, rfl⟩ := tyV_s hk
    obtain ⟨j, rfl⟩ := tyV_s hx
    simp only [sameKey, dkeyIs, Option.some.injEq]
    by_cases h : i = j
    · subst h; simp [(ba_beq _ _).2 rfl]
    · rw [decide_eq_false h]
      cases hb : (i == j) with
      | false => rfl
      | true => exact absurd ((ba_beq _ _).1 hb) h
theorem mfind_now {t : TypeId} {d : TypeDesc} {kt ct : Ty} {k : Value} (hd : P.underlying t = some d) (ht : tyT P t = some kt) (hb : kt ≠ .b) (hk : tyV kt k = true) : ∀ {rows : List D} {ents : List MapEntry} (i : Nat), MDr kt ct rows ents →
    (mfind (.v k) rows = none ∧ Instr.findNow d k ents i = some none) ∨ ∃ j v, mfind (.v k) rows = some (.v v) ∧ tyV ct v = true ∧ Instr.findNow d k ents i = some (some (j, v))
  | [], ents, i, h => by
    obtain rfl : ents = [] := h
    exact .inl ⟨rfl, rfl⟩
  | _ :: r, _, i, ⟨e, t', rfl, rfl, h1, h2, h3⟩ => by
    have hsk := same_key hd ht hb hk h1
    cases hb' : dkeyIs (.v k) (.v e.key) with
    | true =>
      rw [hb'] at hsk
      exact .inr ⟨i, e.val, by simp [mfind, hb'], h2, by simp [Instr.findNow, hsk]⟩
    | false =>
      rw [hb'] at hsk
      rcases mfind_now hd ht hb hk (i + 1) h3 with ⟨p, q⟩ | ⟨j, v, p, q, q2⟩
      · exact .inl ⟨by simp [mfind, hb', p], by simp [Instr.findNow, hsk, q]⟩
      · exact .inr ⟨j, v, by simp [mfind, hb', p], q, by simp [Instr.findNow, hsk, q2]⟩
theorem dkeyIs_eq {k x : Value} (h : dkeyIs (.v k) (.v x) = true) : x = k := by
  unfold dkeyIs at h
  split at h
  · rename_i e1 e2
    cases e1; cases e2
    rw [Bool.and_eq_true, decide_eq_true_eq, decide_eq_true_eq] at h
    rw [h.1, h.2]
  · rename_i e1 e2
    cases e1; cases e2
    rw [decide_eq_true_eq] at h
    rw [h]
  · cases h
theorem mput_now {t : TypeId} {d : TypeDesc} {kt ct : Ty} {k y : Value} {clock : Nat} (hd : P.underlying t = some d) (ht : tyT P t = some kt) (hb : kt ≠ .b) (hk : tyV kt k = true) (hy : tyV ct y = true) : ∀ {rows : List D} {ents : List MapEntry} (i : Nat), MDr kt ct rows ents →
    (Instr.findNow d k ents i = some none ∧ MDr kt ct (mput (.v k) (.v y) rows) (ents ++ [{ key := k, val := y, born := clock }])) ∨
    ∃ p v e, Instr.findNow d k ents i = some (some (i + p, v)) ∧ ents[p]? = some e ∧ e.key = k ∧ MDr kt ct (mput (.v k) (.v y) rows) (ents.modify p fun e => { e with key := k, val := y })
  | [], ents, i, h => by
    obtain rfl : ents = [] := h
    exact .inl ⟨rfl, _, [], rfl, rfl, hk, hy, rfl⟩
  | _ :: r, _, i, ⟨e, t', rfl, rfl, h1, h2, h3⟩ => by
    have hsk := same_key hd ht hb hk h1
    cases hb' : dkeyIs (.v k) (.v e.key) with
    | true =>
      rw [hb'] at hsk
      have hek := dkeyIs_eq hb'
      refine .inr ⟨0, e.val, e, by simp [Instr.findNow, hsk], rfl, hek, ?_⟩
      simp only [mput, hb', cond_true]
      exact ⟨_, t', rfl, rfl, hk, hy, h3⟩
    | false =>
      rw [hb'] at hsk
      simp only [mput, hb', cond_false]
      rcases mput_now (clock := clock) hd ht hb hk hy (i + 1) h3 with ⟨p, q⟩ | ⟨p, v, e', q1, q2, q3, q4⟩
      · exact .inl ⟨by simp [Instr.findNow, hsk, p], ⟨e, _, rfl, rfl, h1, h2, q⟩⟩
      · refine .inr ⟨p + 1, v, e', ?_, by simpa using q2, q3, ⟨e, _, rfl, rfl, h1, h2, q4⟩⟩
        simp only [Instr.findNow, hsk]
        rw [q1, show i + 1 + p = i + (p + 1) by omega]
theorem mkX_VR (hs : Sim G B0 w0 w s M) {ct : Ty} {e : E} {v : Value} (he : e.den M.env = .v v) (hv : tyV ct v = true) : VR w s M (mkX s.k ct e) v := by
  cases ct with
  | b =>
    obtain ⟨b, rfl⟩ := tyV_b hv
    exact mkB_sound hs he
  | i k => unfold mkX VR; exact ⟨he, hv⟩
  | s => unfold mkX VR; exact ⟨he, hv⟩
theorem desc_of {t : TypeId} {kt : Ty} (h : tyT P t = some kt) : ∃ d, P.underlying t = some d := by
  unfold tyT at h
  split at h <;> first | exact ⟨_, by assumption⟩ | cases h
theorem s_symLookup {o : Oper} {a : Act} {T : Tm} {t : TypeId} {x ix : Operand} {ok : Bool} {c ck r : AV} (hs : Sim G B0 w0 w s M) (hT : TmR w s M T a) (hop : o.op = .lookup t x ix ok) (hx : opd G T x = some c) (hix : opd G T ix = some ck) (h : symLookup P s t c ck ok = some r) : OpOk P G B0 w0 w s M o a r s := by
  have vx := opd_sound hs hT hx
  have vk := opd_sound hs hT hix
  unfold symLookup at h
  split at h
  · rename_i k e m hu
    split at h
    · rename_i kt ct kt' ek zv ht hc he hz
      split at h
      · rename_i hcnd
        simp only [Bool.and_eq_true, decide_eq_true_eq, Bool.not_eq_true', decide_eq_false_iff_not] at hcnd
        obtain ⟨⟨rfl, hb⟩, hzt⟩ := hcnd
        split at h
        · rename_i em hem
          cases h
          unfold VR at vx
          obtain ⟨hm, ex⟩ := vx
          obtain ⟨ents, clock, rows, ob, _, _, _, h1, h2, h3⟩ := mapE_sound hs hm hem
          obtain ⟨d, hd⟩ := desc_of ht
          obtain ⟨dk, tk⟩ := toE_sound he vk
          have hk := tyT_key ht hb tk
          have hgo : (getObj (M.blk m)).run P w = .ok (.map ents clock) w := by simp [getObj, Sem.run, h1]
          have fin : ∀ (v : Value) (b : Bool), tyV ct v = true → (mfind (.v (a.eval ix)) rows).isSome = b → (mfind (.v (a.eval ix)) rows).getD (.v zv) = .v v → (Instr.lookup t (a.eval x) (a.eval ix) ok).run P w = .ok (if ok then .tuple #[v, .bool b] else v) w →
              OpOk P G B0 w0 w s M o a (if ok then .tup [mkX s.k ct (.pr .mget [em, ek, .lit zv]), mkB s.k (.pr .mhas [em, ek])] else mkX s.k ct (.pr .mget [em, ek, .lit zv])) s := by
            intro v b q1 q2 q3 hrun
            have g1 : VR w s M (mkX s.k ct (.pr .mget [em, ek, .lit zv])) v := mkX_VR hs (by simp only [E.den, E.denL, Prim.den, h2, dk, D.rows]; exact q3) q1
            have g2 : VR w s M (mkB s.k (.pr .mhas [em, ek])) (.bool b) := mkB_sound hs (by simp only [E.den, E.denL, Prim.den, h2, dk, D.rows, q2])
            refine ok_here hs (v := if ok then .tuple #[v, .bool b] else v) (by simp [execOp, hop, hrun]) ?_
            cases ok with
            | true => exact VR_tup (VRl_cons g1 (VRl_cons g2 VRl_nil))
            | false => exact g1
          rcases mfind_now hd ht hb tk 0 h3 with ⟨p, q⟩ | ⟨j, v, p, p2, q⟩
          · refine fin zv false hzt (by rw [p]; rfl) (by rw [p]; rfl) ?_
            cases ok <;> simp [Instr.lookup, run_underlying hu, ex, hgo, run_checkKey' hk, Instr.findKey, run_underlying hd, q, run_zeroValue hz]
          · refine fin v true p2 (by rw [p]; rfl) (by rw [p]; rfl) ?_
            cases ok <;> simp [Instr.lookup, run_underlying hu, ex, hgo, run_checkKey' hk, Instr.findKey, run_underlying hd, q]
        · cases h
      · cases h
    · cases h
  · cases h
theorem sameBits_key' {t : TypeId} {k : Value} (hk : keyT P t k = true) (n : Nat) : Instr.sameBits n k k = true := sameBits_key hk n
theorem s_symUpdate {o : Oper} {a : Act} {T : Tm} {t : TypeId} {om okx ox : Operand} {c ck y : AV} {s' : St} (hs : Sim G B0 w0 w s M) (hT : TmR w s M T a) (hop : o.op = .mapUpdate t om okx ox ∨ o.op = .insert t om okx ox) (hx : opd G T om = some c) (hix : opd G T okx = some ck) (hy : opd G T ox = some y)
    (h : symUpdate P s t c ck y = some s') : OpOk P G B0 w0 w s M o a und s' := by
  have vx := opd_sound hs hT hx
  have vk := opd_sound hs hT hix
  have vy := opd_sound hs hT hy
  unfold symUpdate at h
  split at h
  · rename_i k e m hu
    split at h
    · rename_i kt ct kt' ek ct' ey ht hc he hey
      split at h
      · rename_i hcnd
        simp only [Bool.and_eq_true, decide_eq_true_eq, Bool.not_eq_true', decide_eq_false_iff_not] at hcnd
        obtain ⟨⟨rfl, hb⟩, rfl⟩ := hcnd
        split at h
        · rename_i em hem
          cases h
          unfold VR at vx
          obtain ⟨hm, ex⟩ := vx
          obtain ⟨ents, clock, rows, ob, hg, hlive, hnr, h1, h2, h3⟩ := mapE_sound hs hm hem
          obtain ⟨d, hd⟩ := desc_of ht
          obtain ⟨dk, tk⟩ := toE_sound he vk
          obtain ⟨dy, ty⟩ := toE_sound hey vy
          have hk := tyT_key ht hb tk
          have hlt := (hs.blk m hm).2
          have hgo : (getObj (M.blk m)).run P w = .ok (.map ents clock) w := by simp [getObj, Sem.run, h1]
          have hso : ∀ ob : Obj, (setObj (M.blk m) ob).run P w = .ok () { w with heap := w.heap.setIfInBounds (M.blk m) ob } := fun ob => by simp [setObj, Sem.run, h1]
          have hh : ∀ ob : Obj, ({ w with heap := w.heap.setIfInBounds (M.blk m) ob } : World).heap[M.blk m]? = some ob := fun ob => by
            show (w.heap.setIfInBounds (M.blk m) ob)[M.blk m]? = some ob
            rw [Array.getElem?_setIfInBounds_self, if_pos hlt]
          have hh2 : ∀ (ob : Obj) k, k ≠ M.blk m → ({ w with heap := w.heap.setIfInBounds (M.blk m) ob } : World).heap[k]? = w.heap[k]? := fun ob k hk => by
            show (w.heap.setIfInBounds (M.blk m) ob)[k]? = _
            rw [Array.getElem?_setIfInBounds_ne (Ne.symm hk)]
          have fin : ∀ ents' clock', (Instr.mapUpdate t (a.eval om) (a.eval okx) (a.eval ox)).run P w = .ok () { w with heap := w.heap.setIfInBounds (M.blk m) (.map ents' clock') } → MDr kt ct (mput (.v (a.eval okx)) (.v (a.eval ox)) rows) ents'.toList →
              OpOk P G B0 w0 w s M o a und (s.put m (.sym (.map kt ct (.pr .mset [em, ek, ey])))) := by
            intro ents' clock' hrun hmr
            have hE : Ext w s M { w with heap := w.heap.setIfInBounds (M.blk m) (.map ents' clock') } (s.put m (.sym (.map kt ct (.pr .mset [em, ek, ey])))) M := ext_write hs hm hg hnr hlive (fun _ _ => by simp) trivial (hh2 _) (by simp)
            refine ok_skip (by rcases hop with hop | hop <;> simp [execOp, hop, hrun]) (sim_write hs hm hg hnr hlive (fun _ _ => by simp) trivial (hh2 _) ?_ (by simp) ⟨ents', clock', _, hh _, by simp only [E.den, E.denL, Prim.den, h2, dk, dy, D.rows], hmr⟩) hE
            exact hs.below.trans ⟨rfl, rfl, rfl, by simp, fun k hk => hh2 _ k (by have := (hs.blk m hm).1; omega)⟩
          rcases mput_now (clock := clock) hd ht hb tk ty 0 h3 with ⟨q1, q2⟩ | ⟨p, v, e', q1, q2, q3, q4⟩
          · refine fin (ents.push { key := a.eval okx, val := a.eval ox, born := clock }) (clock + 1) ?_ (by simpa using q2)
            simp [Instr.mapUpdate, run_underlying hu, ex, hgo, run_checkKey' hk, Instr.findKey, run_underlying hd, q1, hso]
          · refine fin (ents.modify p fun e => { e with key := a.eval okx, val := a.eval ox }) clock ?_ (by simpa using q4)
            have hkk : (((ents[p]?).map (·.key)).getD (a.eval okx)) = a.eval okx := by rw [← Array.getElem?_toList, q2]; exact q3
            have hst : (Instr.keyThatStays (a.eval okx) (a.eval okx)).run P w = .ok (a.eval okx) w := by unfold Instr.keyThatStays; rw [sameBits_key' hk]; rfl
            simp [Instr.mapUpdate, run_underlying hu, ex, hgo, run_checkKey' hk, Instr.findKey, run_underlying hd, q1, hkk, hst, hso]
        · cases h
      · cases h
    · cases h
  · cases h
theorem MDr_len {kt ct : Ty} : ∀ {rows : List D} {ents : List MapEntry}, MDr kt ct rows ents → ents.length = rows.length
  | [], _, h => by obtain rfl : _ = [] := h; rfl
  | _ :: _, _, ⟨_, _, rfl, _, _, _, h⟩ => by rw [List.length_cons, List.length_cons, MDr_len h]
theorem s_symLen {o : Oper} {a : Act} {T : Tm} {c : Go.Call} {t0 k e : TypeId} {ox : Operand} {m : Nat} {kt ct : Ty} {em : E} (hs : Sim G B0 w0 w s M) (hT : TmR w s M T a) (hop : o.op = .call c) (hc : c.callee = .builtin .len) (hA0 : c.argTypes[0]? = some t0)
    (hargs : c.args.toList = [ox]) (hx : opd G T ox = some (.mp m)) (hg : s.get m = some (.sym (.map kt ct em))) (hd : P.underlying t0 = some (.map k e)) : OpOk P G B0 w0 w s M o a (.x (.i .i64) (lenE em)) s := by
  have vx := opd_sound hs hT hx
  unfold VR at vx
  obtain ⟨hm, ex⟩ := vx
  obtain ⟨ents, clock, rows, h1, h2, h3⟩ := hs.obj m _ hm hg
  have hargs' : c.args.map a.eval = #[a.eval ox] := by rw [← Array.toList_inj, Array.toList_map, hargs]; rfl
  have hgo : (getObj (M.blk m)).run P w = .ok (.map ents clock) w := by simp [getObj, Sem.run, h1]
  have hl : ents.size = rows.length := by rw [← MDr_len h3]; simp
  have key : (Builtin.len_ c.argTypes o.type (c.args.map a.eval)).run P w = .ok (goInt ents.size) w := by
    unfold Builtin.len_
    rw [hA0, hargs', ex]
    simp [run_underlying hd, hgo]
  refine ok_here hs (v := goInt ents.size) ?_ ?_
  · simp [execOp, hop, resolve, hc, invoke, builtin, key]
  · unfold VR
    refine ⟨?_, rfl⟩
    simp only [lenE, E.den, E.denL, Prim.den, h2, hl]
    rfl

theorem bytesE_of : ∀ {cs : List AV} {es : List E} {vs : List Value}, bytesE cs = some es → VRl w s M cs vs → ∃ ns : List Int, vs = ns.map (Value.int .u8) ∧ E.denL M.env es = ns.map fun n => D.v (.int .u8 n)
  | [], es, vs, h, k => by
    unfold bytesE at h; cases h
    unfold VRl at k; subst k
    exact ⟨[], rfl, rfl⟩
  | c :: r, es, vs, h, k => by
    unfold VRl at k; obtain ⟨v, t, rfl, k1, k2⟩ := k
    unfold bytesE at h
    split at h
    · rename_i e l h1 h2
      cases h
      obtain ⟨g1, g2⟩ := toE_sound h1 k1
      obtain ⟨z, rfl⟩ := tyV_int g2
      obtain ⟨ns, rfl, hd⟩ := bytesE_of h2 k2
      exact ⟨z :: ns, rfl, by simp only [E.denL, g1, hd, List.map_cons]⟩
    · cases h
theorem s_bytes_sym {o : Oper} {a : Act} {T : Tm} {src dst e : TypeId} {x : Operand} {cs cs0 : List AV} {n len : Nat} {tok : Option Nat} {es : List E} (hs : Sim G B0 w0 w s M) (hT : TmR w s M T a) (hop : o.op = .convert src dst x) (h1 : P.underlying src = some (.slice e))
    (h2 : P.underlying dst = some .string) (h3 : P.underlying e = some (.int .u8)) (hx : opd G T x = some (.sl cs0 len tok)) (hh : heldBy s 1 (.sl cs0 len tok) = some (cs, n)) (hb : bytesE cs = some es) :
    OpOk P G B0 w0 w s M o a (.x .s (.pr .sofb es)) s := by
  have vx := opd_sound hs hT hx
  have hl : cs.length = n * 1 := by
    simp only [heldBy] at hh
    split at hh
    · rename_i hle; simp only [Option.some.injEq, Prod.mk.injEq] at hh; obtain ⟨rfl, rfl⟩ := hh
      have := Nat.le_of_ble_eq_true hle; rw [List.length_take]; omega
    · cases hh
  obtain ⟨vs, hvs, hlen, hf, _⟩ := heldBy_sound (P := P) hs hh vx hl
  obtain ⟨ns, rfl, hd⟩ := bytesE_of hb hvs
  have key : ∃ b off cap, a.eval x = .slice (some ⟨b, off, none⟩) n cap := by
    unfold VR at vx; obtain ⟨b, off, cap, e1, _⟩ := vx
    have := hlen w; rw [e1] at this; simp [Builtin.lenOf] at this; subst this
    exact ⟨b, off, cap, e1⟩
  obtain ⟨b, off, cap, e1⟩ := key
  rw [e1] at hf
  simp only [Builtin.firstCells, Nat.mul_one] at hf
  refine ok_here hs (v := .string (ns.foldl (fun r n => r.push (UInt8.ofNat n.toNat)) .empty)) (by
    simp only [execOp, hop, Sem.run_bind, e1, run_convert_bytes_string w src dst e _ _ _ h1 h3 h2, run_bytesToString w _ n cap ns hf, Result.andThen_ok, Sem.run_pure]) ?_
  unfold VR
  refine ⟨?_, rfl⟩
  simp only [E.den, hd, Prim.den, List.foldl_map]
  rfl
theorem litOf_sound (hs : Sim G B0 w0 w s M) {kd : IntKind} {e : E} {n i : Nat} {v : Value} (h : litOf s.k kd e n = some i) (hv : VR w s M (.x (.i kd) e) v) : v = .int kd i := by
  have h1 := List.find?_some h
  have h2 := fact_of hs h1
  unfold VR at hv
  obtain ⟨g1, g2⟩ := hv
  obtain ⟨z, rfl⟩ := tyV_int g2
  simp only [E.den, E.denL, Prim.den, g1] at h2
  have h3 := ofBool_true h2
  have h4 : z = (i : Int) := by simpa [cmpI, D.int] using h3
  rw [h4]
theorem evSym_sound {o : Oper} {a : Act} {T : Tm} {x : AV} {s' : St} (hs : Sim G B0 w0 w s M) (hT : TmR w s M T a) (h : evSym P G o T s = some (x, s')) : OpOk P G B0 w0 w s M o a x s' := by
  unfold evSym at h
  split at h
  · rename_i src dst y hop
    split at h
    · rename_i e g1 g2
      split at h
      · rename_i g3
        simp only [Option.bind_eq_bind, Option.bind_eq_some_iff] at h
        obtain ⟨c, h1, h⟩ := h
        split at h
        · simp only [Option.bind_eq_some_iff, Option.pure_def, Option.some.injEq, Prod.mk.injEq] at h
          obtain ⟨p, h2, es, h3, rfl, rfl⟩ := h
          exact s_bytes_sym hs hT hop g1 g2 g3 h1 (by rw [h2]) h3
        · cases h
      · cases h
    · cases h
  · rename_i t y ix hop
    split at h
    · rename_i el hu
      simp only [Option.bind_eq_bind, Option.bind_eq_some_iff] at h
      obtain ⟨v, h1, c, h2, size, h3, h⟩ := h
      split at h
      · simp only [Option.bind_eq_some_iff] at h
        obtain ⟨i, h4, h⟩ := h
        split at h
        · rename_i hlt
          simp only [Option.pure_def, Option.some.injEq, Prod.mk.injEq] at h
          obtain ⟨rfl, rfl⟩ := h
          exact s_indexAddrV hs hT hop (litOf_sound hs h4 (opd_sound hs hT h1)) (Int.natCast_nonneg _) (Int.toNat_natCast _) h3 h2 (.inl ⟨hu, .inl ⟨_, _, _, rfl, Nat.le_of_ble_eq_true hlt, rfl⟩⟩)
        · cases h
      · simp only [Option.bind_eq_some_iff] at h
        obtain ⟨i, h4, h⟩ := h
        split at h
        · rename_i hlt
          simp only [Option.pure_def, Option.some.injEq, Prod.mk.injEq] at h
          obtain ⟨rfl, rfl⟩ := h
          exact s_indexAddrV hs hT hop (litOf_sound hs h4 (opd_sound hs hT h1)) (Int.natCast_nonneg _) (Int.toNat_natCast _) h3 h2 (.inl ⟨hu, .inr (.inl ⟨_, _, _, rfl, Nat.le_of_ble_eq_true hlt, rfl⟩)⟩)
        · cases h
      · simp only [Option.bind_eq_some_iff] at h
        obtain ⟨i, h4, h⟩ := h
        split at h
        · rename_i hlt
          simp only [Option.pure_def, Option.some.injEq, Prod.mk.injEq] at h
          obtain ⟨rfl, rfl⟩ := h
          exact s_indexAddrV hs hT hop (litOf_sound hs h4 (opd_sound hs hT h1)) (Int.natCast_nonneg _) (Int.toNat_natCast _) h3 h2 (.inl ⟨hu, .inr (.inr ⟨_, _, rfl, Nat.le_of_ble_eq_true hlt, rfl⟩)⟩)
        · cases h
      · cases h
    · rename_i len el hu
      simp only [Option.bind_eq_bind, Option.bind_eq_some_iff] at h
      obtain ⟨v, h1, c, h2, size, h3, h⟩ := h
      split at h
      · simp only [Option.bind_eq_some_iff] at h
        obtain ⟨i, h4, h⟩ := h
        split at h
        · rename_i hlt
          simp only [Option.pure_def, Option.some.injEq, Prod.mk.injEq] at h
          obtain ⟨rfl, rfl⟩ := h
          exact s_indexAddrV hs hT hop (litOf_sound hs h4 (opd_sound hs hT h1)) (Int.natCast_nonneg _) (Int.toNat_natCast _) h3 h2 (.inr ⟨_, hu, Nat.le_of_ble_eq_true hlt, .inl ⟨_, rfl, rfl⟩⟩)
        · cases h
      · simp only [Option.bind_eq_some_iff] at h
        obtain ⟨i, h4, h⟩ := h
        split at h
        · rename_i hlt
          simp only [Option.pure_def, Option.some.injEq, Prod.mk.injEq] at h
          obtain ⟨rfl, rfl⟩ := h
          exact s_indexAddrV hs hT hop (litOf_sound hs h4 (opd_sound hs hT h1)) (Int.natCast_nonneg _) (Int.toNat_natCast _) h3 h2 (.inr ⟨_, hu, Nat.le_of_ble_eq_true hlt, .inr ⟨_, _, rfl, rfl⟩⟩)
        · cases h
      · cases h
    · cases h
  · rename_i t y ix ok hop
    simp only [Option.bind_eq_bind, Option.bind_eq_some_iff, Option.pure_def, Option.some.injEq, Prod.mk.injEq] at h
    obtain ⟨c, h1, i, h2, r, h3, rfl, rfl⟩ := h
    exact s_symLookup hs hT hop h1 h2 h3
  · rename_i t m k y hop
    simp only [Option.bind_eq_bind, Option.bind_eq_some_iff, Option.pure_def, Option.some.injEq, Prod.mk.injEq] at h
    obtain ⟨c, h1, i, h2, r, h3, s2, h4, rfl, rfl⟩ := h
    exact s_symUpdate hs hT (.inl hop) h1 h2 h3 h4
  · rename_i t m k y hop
    simp only [Option.bind_eq_bind, Option.bind_eq_some_iff, Option.pure_def, Option.some.injEq, Prod.mk.injEq] at h
    obtain ⟨c, h1, i, h2, r, h3, s2, h4, rfl, rfl⟩ := h
    exact s_symUpdate hs hT (.inr hop) h1 h2 h3 h4
  · rename_i c hop
    split at h
    · rename_i hc
      simp only [Option.bind_eq_bind, Option.bind_eq_some_iff] at h
      obtain ⟨t0, h1, t1, h2, h⟩ := h
      split at h
      · rename_i e el1 ox oy hu hu1 hargs
        simp only [Option.bind_eq_some_iff] at h
        obtain ⟨p, h3, q, h4, h⟩ := h
        exact s_symAppend hs hT hop hc h1 h2 hu hu1 hargs h3 h4 h
      · cases h
    · rename_i hc
      simp only [Option.bind_eq_bind, Option.bind_eq_some_iff] at h
      obtain ⟨t0, h1, h⟩ := h
      split at h
      · rename_i k e ox hu hargs
        simp only [Option.bind_eq_some_iff] at h
        obtain ⟨p, h3, h⟩ := h
        split at h
        · split at h
          · rename_i kt ct em hg
            simp only [Option.pure_def, Option.some.injEq, Prod.mk.injEq] at h
            obtain ⟨rfl, rfl⟩ := h
            exact s_symLen hs hT hop hc h1 hargs h3 hg hu
          · cases h
        · cases h
      · cases h
    · cases h
  · cases h
end
end Go.Ab
/- The evaluator against the model: each operation. -/
namespace Go.Ab
set_option linter.unusedVariables false
set_option linter.unusedSimpArgs false
set_option linter.unusedSectionVars false
set_option linter.constructorNameAsVariable false
open Go Go.RowKit

section
variable [Interp] {P : Program} {G : Nat → Option (List AV)} {B0 : Nat} {w0 w : World} {s : St} {M : Mp}

/-- What an operation does, if it may panic. -/
def OpP (P : Program) (G : Nat → Option (List AV)) (B0 : Nat) (w0 w : World) (s : St) (M : Mp) (o : Oper) (a : Act) (x : AV) (s' : St) : Prop :=
  ∀ (ro : Option Nat) (next : Act → World → Prop) (Q : Exit → Act → World → Prop), (∀ v w' M', VR w' s' M' x v → Sim G B0 w0 w' s' M' → Ext w s M w' s' M' → next (a.put o.dst v) w') →
    (∀ y v w' M', isPan x = some y → VR w' s' M' y v → Sim G B0 w0 w' s' M' → Ext w s M w' s' M' → Q (.panic [{ v, recovered := false }]) a w') → (o.uponIn (FW ro) 0 P a next Q ((execOp a.eval o).run P w))
theorem OpOk.up {o : Oper} {a : Act} {x : AV} {s' : St} (h : OpOk P G B0 w0 w s M o a x s') : OpP P G B0 w0 w s M o a x s' := fun ro next Q hn _ => h ro next Q hn
theorem OpP.down {o : Oper} {a : Act} {x : AV} {s' : St} (h : OpP P G B0 w0 w s M o a x s') (hx : isPan x = none) : OpOk P G B0 w0 w s M o a x s' := fun ro next Q hn => h ro next Q hn fun y v w' M' hy => by rw [hx] at hy; cases hy

def Done0 (G : Nat → Option (List AV)) (B0 : Nat) (w0 w : World) (s : St) (M : Mp) (r : AV) (s' : St) : Ending → World → Prop := fun e w' =>
  ∃ v M', e = .returned v ∧ VR w' s' M' r v ∧ Sim G B0 w0 w' s' M' ∧ Ext w s M w' s' M'
def Done (G : Nat → Option (List AV)) (B0 : Nat) (w0 w : World) (s : St) (M : Mp) (r : AV) (s' : St) : Ending → World → Prop := fun e w' =>
  ∃ M', ((∃ v, e = .returned v ∧ VR w' s' M' r v) ∨ ∃ y v, isPan r = some y ∧ e = .panicked [{ v, recovered := false }] ∧ VR w' s' M' y v) ∧ Sim G B0 w0 w' s' M' ∧ Ext w s M w' s' M'
theorem Done.down {r : AV} {s' : St} {e : Ending} {w' : World} (h : Done G B0 w0 w s M r s' e w') (hr : isPan r = none) : Done0 G B0 w0 w s M r s' e w' := by
  obtain ⟨M', ⟨v, h1, h2⟩ | ⟨y, v, h1, _⟩, h3, h4⟩ := h
  · exact ⟨v, M', h1, h2, h3, h4⟩
  · rw [hr] at h1; cases h1
theorem Done0.up {r : AV} {s' : St} {e : Ending} {w' : World} (h : Done0 G B0 w0 w s M r s' e w') : Done G B0 w0 w s M r s' e w' := by
  obtain ⟨v, M', h1, h2, h3, h4⟩ := h
  exact ⟨M', .inl ⟨v, h1, h2⟩, h3, h4⟩
def CallOk (P : Program) (G : Nat → Option (List AV)) (B0 : Nat) (w0 : World) (call : Ab.Call) : Prop :=
  ∀ fr args s r s', call fr args s = some (r, s') → ∀ (w : World) (M : Mp) (vs : Array Value), Sim G B0 w0 w s M → VRl w s M args vs.toList →
    match fr with
    | .func f => CallsIn (FW none) 0 P f vs w (Done G B0 w0 w s M r s')
    | .yield l => ∃ rc : Loop, l < s.n ∧ w.heap[M.blk l]? = some (.loop rc) ∧ vs.size = rc.params.size ∧
        RoundIn (FW none) 0 P (M.blk l) rc.fn ((rc.params.zip vs).foldl (fun tmps (t, a) => tmps.setIfInBounds t a) rc.tmps) rc.assign rc.body w (Done G B0 w0 w s M r s')
    | _ => False
theorem callsIn_ro {ro : Option Nat} {n : Nat} {f : FuncId} {args : Array Value} {w : World} {R : Ending → World → Prop} (h : CallsIn (FW none) n P f args w R) : CallsIn (FW ro) n P f args w R := by
  cases ro with
  | none => exact h
  | some l => exact h
theorem roundIn_ro {ro : Option Nat} {n l : Nat} {f : FuncId} {tmps : Array Value} {asg body : Code} {w : World} {R : Ending → World → Prop} (h : RoundIn (FW none) n P l f tmps asg body w R) : RoundIn (FW ro) n P l f tmps asg body w R := by
  cases ro with
  | none => exact h
  | some l => exact h

def NoNum (P : Program) : Prop := ∀ (f : Nat) (fn : Func), P.funcs[f]? = some fn → (fn.name == "runtime.NumGoroutine") = false

theorem s_callA {call : Ab.Call} (hP : NoNum P) (hcall : CallOk P G B0 w0 call) {o : Oper} {a : Act} {g : FuncId} {args : List AV} {vs : Array Value} {x : AV} {s' : St} (hs : Sim G B0 w0 w s M) (hex : (execOp a.eval o).run P w = (callFunc g vs).run P w) (hv : VRl w s M args vs.toList)
    (h : callA P call g args s = some (x, s')) : OpP P G B0 w0 w s M o a x s' := by
  unfold callA at h
  split at h
  · cases h
  · rename_i fn hfn
    split at h
    · rename_i body hb
      intro ro next Q hn hp
      have hr : (execOp a.eval o).run P w = .ok (.enter g vs) w := by
        rw [hex]
        unfold callFunc
        have hn' : ¬ fn.name = "runtime.NumGoroutine" := by simpa using hP g fn hfn
        simp [hfn, hn', hb]
      rw [hr, Oper.uponIn_enter]
      refine ⟨fun h => (by cases h), callsIn_ro ((hcall (.func g) args s x s' h w M vs hs hv).mono ?_)⟩
      rintro e w' ⟨M', ⟨v, rfl, k1⟩ | ⟨y, v, hy, rfl, k1⟩, k2, k3⟩
      · exact hn v w' M' k1 k2 k3
      · exact hp y v w' M' hy k1 k2 k3
    · rename_i hb
      split at h
      · rename_i hn
        rw [Bool.and_eq_true] at hn
        split at h
        · cases h
          unfold VRl at hv
          obtain ⟨v, t, e, hv, ht⟩ := hv
          unfold VRl at ht
          subst ht
          have e2 : vs = #[v] := by apply Array.toList_inj.1; rw [e]
          subst e2
          exact OpOk.up (ok_here hs (hex.trans (noEscape_run (hP g fn hfn) hfn hb hn.1 hn.2 v w)) hv)
        · cases h
      · simp only [Option.bind_eq_bind, Option.bind_eq_some_iff] at h
        obtain ⟨us, h1, r, h2, h⟩ := h
        have e1 := unAll_some h1 hv
        have e2 : vs = us.toArray := by apply Array.toList_inj.1; rw [e1]
        subst e2
        have hr := runPure_run h2 w
        rw [← hex] at hr
        split at h
        · simp only [Option.bind_eq_some_iff, Option.pure_def, Option.some.injEq, Prod.mk.injEq] at h
          obtain ⟨y, h3, rfl, rfl⟩ := h
          exact OpOk.up (ok_here hs hr (VR_outValue h3))
        · cases h

theorem callB_calls {call : Ab.Call} (hP : NoNum P) (hcall : CallOk P G B0 w0 call) {g : FuncId} {args : List AV} {vs : Array Value} {x : AV} {s' : St} (hs : Sim G B0 w0 w s M) (hv : VRl w s M args vs.toList)
    (h : callB P call g args s = some (x, s')) : (callFunc g vs).run P w = .ok (.enter g vs) w ∧ CallsIn (FW none) 0 P g vs w (Done0 G B0 w0 w s M x s') := by
  unfold callB at h
  split at h
  · cases h
  · rename_i fn hfn
    split at h
    · rename_i body hb
      split at h
      · rename_i x1 s1 hc
        split at h
        · rename_i hx
          simp only [Option.some.injEq, Prod.mk.injEq] at h
          obtain ⟨rfl, rfl⟩ := h
          have hx : isPan x1 = none := by simpa using hx
          refine ⟨?_, (hcall (.func g) args s x1 s1 hc w M vs hs hv).mono fun e w' k => Done.down k hx⟩
          unfold callFunc
          have hn' : ¬ fn.name = "runtime.NumGoroutine" := by simpa using hP g fn hfn
          simp [hfn, hn', hb]
        · cases h
      · cases h
    · cases h
theorem s_yield {call : Ab.Call} (hcall : CallOk P G B0 w0 call) {o : Oper} {a : Act} {l : Nat} {args : List AV} {vs : Array Value} {x : AV} {s' : St} (hs : Sim G B0 w0 w s M) (hex : execOp a.eval o = Instr.yield (M.blk l) vs) (hv : VRl w s M args vs.toList)
    (h : call (.yield l) args s = some (x, s')) : OpP P G B0 w0 w s M o a x s' := by
  intro ro next Q hn hp
  obtain ⟨rc, _, h1, h2, h3⟩ := hcall (.yield l) args s x s' h w M vs hs hv
  rw [hex, run_yield h1 h2, Oper.uponIn_round]
  refine ⟨fun h => (by cases h), roundIn_ro (h3.mono ?_)⟩
  rintro e w' ⟨M', ⟨v, rfl, k1⟩ | ⟨y, v, hy, rfl, k1⟩, k2, k3⟩
  · exact hn v w' M' k1 k2 k3
  · exact hp y v w' M' hy k1 k2 k3


theorem s_makeInterface {o : Oper} {a : Act} {T : Tm} {t : TypeId} {x : Operand} {c : AV} {d : TypeDesc} (hs : Sim G B0 w0 w s M) (hT : TmR w s M T a) (hop : o.op = .makeInterface t x) (hu : P.underlying t = some d) (hd : ∀ ms, d ≠ .interface ms) (h : opd G T x = some c) : OpOk P G B0 w0 w s M o a (.iface t c) s := by
  have hv := opd_sound hs hT h
  refine ok_here hs (v := .iface t (a.eval x)) ?_ (by unfold VR; exact ⟨_, rfl, hv⟩)
  cases d <;> first | exact absurd rfl (hd _) | simp [execOp, hop, Instr.makeInterface, run_underlying hu]
theorem s_typeAssert {o : Oper} {a : Act} {T : Tm} {xt t : TypeId} {x : Operand} {c : AV} {d : TypeDesc} (hs : Sim G B0 w0 w s M) (hT : TmR w s M T a) (hop : o.op = .typeAssert x xt t false) (hu : P.underlying t = some d) (hd : ∀ ms, d ≠ .interface ms) (h : opd G T x = some (.iface t c)) : OpOk P G B0 w0 w s M o a c s := by
  have hv := opd_sound hs hT h
  unfold VR at hv
  obtain ⟨v, e, hv⟩ := hv
  refine ok_here hs (v := v) ?_ hv
  cases d <;> first | exact absurd rfl (hd _) | simp [execOp, hop, Instr.typeAssert, run_underlying hu, e]
theorem s_typeAssert_ok {o : Oper} {a : Act} {T : Tm} {xt t : TypeId} {x : Operand} {c : AV} {d : TypeDesc} (hs : Sim G B0 w0 w s M) (hT : TmR w s M T a) (hop : o.op = .typeAssert x xt t true) (hu : P.underlying t = some d) (hd : ∀ ms, d ≠ .interface ms) (h : opd G T x = some (.iface t c)) : OpOk P G B0 w0 w s M o a (.tup [c, .v (.bool true)]) s := by
  have hv := opd_sound hs hT h
  unfold VR at hv
  obtain ⟨v, e, hv⟩ := hv
  refine ok_here hs (v := .tuple #[v, .bool true]) ?_ (VR_tup (VRl_cons hv (VRl_cons (VR_v_of rfl) VRl_nil)))
  cases d <;> first | exact absurd rfl (hd _) | simp [execOp, hop, Instr.typeAssert, run_underlying hu, e]
theorem s_typeAssert_no {o : Oper} {a : Act} {T : Tm} {xt t u : TypeId} {x : Operand} {c z : AV} {zv : Value} {d : TypeDesc} (hs : Sim G B0 w0 w s M) (hT : TmR w s M T a) (hop : o.op = .typeAssert x xt t true) (hu : P.underlying t = some d) (hd : ∀ ms, d ≠ .interface ms) (h : opd G T x = some (.iface u c)) (hne : u ≠ t)
    (hz1 : zeroT P t = some zv) (hz2 : ofValue zv = some z) : OpOk P G B0 w0 w s M o a (.tup [z, .v (.bool false)]) s := by
  have hv := opd_sound hs hT h
  unfold VR at hv
  obtain ⟨v, e, hv⟩ := hv
  refine ok_here hs (v := .tuple #[zv, .bool false]) ?_ (VR_tup (VRl_cons (VR_ofValue hz2) (VRl_cons (VR_v_of rfl) VRl_nil)))
  cases d <;> first | exact absurd rfl (hd _) | simp [execOp, hop, Instr.typeAssert, run_underlying hu, e, hne, run_zeroValue hz1]
theorem s_panic {o : Oper} {a : Act} {T : Tm} {t : TypeId} {x : Operand} {c : AV} (hs : Sim G B0 w0 w s M) (hT : TmR w s M T a) (hop : o.op = .panic x) (h : opd G T x = some (.iface t c)) : OpP P G B0 w0 w s M o a (.pan (.iface t c)) s := by
  have hv := opd_sound hs hT h
  have hv' := hv
  unfold VR at hv
  obtain ⟨v, e, hv⟩ := hv
  intro ro next Q hn hp
  have hr : (execOp a.eval o).run P w = .halt (.panic (a.eval x)) w := by
    simp [execOp, hop, Instr.panic, e, goPanic]
  rw [hr, Oper.uponIn_panic]
  exact hp _ _ w M rfl hv' hs (Ext.refl _ _ _)

theorem op1_sound {call : Ab.Call} (hP : NoNum P) (hcall : CallOk P G B0 w0 call) {o : Oper} {a : Act} {T : Tm} {x : AV} {s' : St} (hs : Sim G B0 w0 w s M) (hT : TmR w s M T a) (h : evOp1 P G call o T s = some (x, s')) : OpP P G B0 w0 w s M o a x s' := by
  cases hop : o.op
  case move y =>
    simp only [evOp1, hop, Option.bind_eq_bind, Option.bind_eq_some_iff, Option.pure_def, Option.some.injEq, Prod.mk.injEq] at h
    obtain ⟨c, h1, rfl, rfl⟩ := h
    exact OpOk.up (s_move hs hT (.inl hop) h1)
  case assign y =>
    simp only [evOp1, hop, Option.bind_eq_bind, Option.bind_eq_some_iff, Option.pure_def, Option.some.injEq, Prod.mk.injEq] at h
    obtain ⟨c, h1, rfl, rfl⟩ := h
    exact OpOk.up (s_move hs hT (.inr hop) h1)
  case pick c p q =>
    simp only [evOp1, hop, Option.bind_eq_bind, Option.bind_eq_some_iff] at h
    obtain ⟨cv, h1, h⟩ := h
    split at h
    · simp only [Option.bind_eq_some_iff, Option.pure_def, Option.some.injEq, Prod.mk.injEq] at h
      obtain ⟨d, h2, rfl, rfl⟩ := h
      exact OpOk.up (s_pick hs hT hop h1 h2)
    · simp only [Option.bind_eq_some_iff, Option.pure_def, Option.some.injEq, Prod.mk.injEq] at h
      obtain ⟨d, h2, rfl, rfl⟩ := h
      exact OpOk.up (s_pick hs hT hop h1 h2)
    · cases h
  case alloc t =>
    simp only [evOp1, hop, Option.bind_eq_bind, Option.bind_eq_some_iff] at h
    obtain ⟨z, h1, h⟩ := h
    split at h
    · rename_i hr
      simp only [Option.some.injEq, Prod.mk.injEq] at h
      obtain ⟨rfl, rfl⟩ := h
      exact OpOk.up (s_alloc hs hop h1 hr)
    · cases h
  case box t y =>
    simp only [evOp1, hop, Option.bind_eq_bind, Option.bind_eq_some_iff] at h
    obtain ⟨c, h1, h⟩ := h
    split at h
    · rename_i hr
      rw [Bool.and_eq_true] at hr
      simp only [Option.some.injEq, Prod.mk.injEq] at h
      obtain ⟨rfl, rfl⟩ := h
      exact OpOk.up (s_box hs hT hop h1 hr.1 hr.2)
    · cases h
  case build t ps =>
    simp only [evOp1, hop, Option.bind_eq_bind, Option.bind_eq_some_iff] at h
    obtain ⟨z, h1, qs, h2, h⟩ := h
    split at h
    · rename_i fs hu
      simp only [Option.bind_eq_some_iff, Option.pure_def, Option.some.injEq, Prod.mk.injEq] at h
      obtain ⟨pl, h3, cs, h4, rfl, rfl⟩ := h
      exact OpOk.up (s_build_struct hs hT hop h1 h2 hu h3 h4)
    · rename_i n e hu
      simp only [Option.bind_eq_some_iff, Option.pure_def, Option.some.injEq, Prod.mk.injEq] at h
      obtain ⟨size, h3, cs, h4, rfl, rfl⟩ := h
      exact OpOk.up (s_build_array hs hT hop h1 h2 hu h3 h4)
    · cases h
  case buildSlice t len ps =>
    simp only [evOp1, hop, Option.bind_eq_bind] at h
    split at h
    · rename_i e hu
      simp only [Option.bind_eq_some_iff] at h
      obtain ⟨size, h1, z, h2, qs, h3, h⟩ := h
      split at h
      · cases h
      · rename_i hc
        simp only [Bool.or_eq_true, Bool.not_eq_true', not_or, Bool.not_eq_false] at hc
        obtain ⟨c1, c2⟩ := hc
        simp only [Option.bind_eq_some_iff] at h
        obtain ⟨cs, h4, h⟩ := h
        split at h
        · split at h
          · rename_i hcell
            simp only [Option.some.injEq, Prod.mk.injEq] at h
            obtain ⟨rfl, rfl⟩ := h
            exact OpOk.up (s_buildSlice hs hT hop hu h1 h2 h3 (nbe c1) (Nat.le_of_ble_eq_true c2) h4 hcell)
          · cases h
        · split at h
          · rename_i hcell
            rw [Bool.and_eq_true] at hcell
            simp only [Option.some.injEq, Prod.mk.injEq] at h
            obtain ⟨rfl, rfl⟩ := h
            exact OpOk.up (s_buildSliceRow hs hT hop hu h1 h2 h3 (nbe c1) (Nat.le_of_ble_eq_true c2) hcell.1 h4 hcell.2)
          · cases h
    · cases h
  case load t y =>
    simp only [evOp1, hop, Option.bind_eq_bind, Option.bind_eq_some_iff] at h
    obtain ⟨c, h1, h⟩ := h
    split at h
    · simp only [Option.bind_eq_some_iff, Option.pure_def, Option.some.injEq, Prod.mk.injEq] at h
      obtain ⟨d, h2, rfl, rfl⟩ := h
      exact OpOk.up (s_loadRow hs hT hop h1 h2)
    · simp only [Option.bind_eq_some_iff, Option.pure_def, Option.some.injEq, Prod.mk.injEq] at h
      obtain ⟨d, h2, rfl, rfl⟩ := h
      exact OpOk.up (s_load_ref hs hT hop h1 h2)
    · split at h
      · rename_i hg
        simp only [Option.bind_eq_some_iff, Option.pure_def, Option.some.injEq, Prod.mk.injEq] at h
        obtain ⟨d, h2, rfl, rfl⟩ := h
        exact OpOk.up (s_load_box hs hT hop h1 hg h2)
      · cases h
    · cases h
  case store t p y =>
    simp only [evOp1, hop, Option.bind_eq_bind, Option.bind_eq_some_iff] at h
    obtain ⟨c, h1, n, h2, q, h3, h⟩ := h
    split at h
    · split at h
      · rename_i hg
        split at h
        · rename_i hc
          simp only [Bool.and_eq_true] at hc
          simp only [Option.some.injEq, Prod.mk.injEq] at h
          obtain ⟨rfl, rfl⟩ := h
          exact OpOk.up (s_store hs hT hop h1 h2 h3 hg (nbe hc.1.1) (Nat.le_of_ble_eq_true hc.1.2) hc.2)
        · cases h
      · cases h
    · cases h
  case nilCheck y =>
    simp only [evOp1, hop, Option.bind_eq_bind, Option.bind_eq_some_iff] at h
    obtain ⟨c, h1, h⟩ := h
    split at h <;> simp only [Option.pure_def, Option.some.injEq, Prod.mk.injEq, reduceCtorEq] at h
    · obtain ⟨rfl, rfl⟩ := h; exact OpOk.up (s_nilCheck hs hT hop h1 (.inl ⟨_, rfl⟩))
    · obtain ⟨rfl, rfl⟩ := h; exact OpOk.up (s_nilCheck hs hT hop h1 (.inr (.inl ⟨_, _, rfl⟩)))
    · obtain ⟨rfl, rfl⟩ := h; exact OpOk.up (s_nilCheck hs hT hop h1 (.inr (.inr ⟨_, _, _, rfl⟩)))
  case binOp op t y z yt =>
    simp only [evOp1, hop, Option.bind_eq_bind] at h
    split at h
    · rename_i hsc
      simp only [Option.map_eq_some_iff, Prod.mk.injEq] at h
      obtain ⟨d, h1, rfl, rfl⟩ := h
      exact OpOk.up (s_scalar hs (exec_binOp hs hT hop hsc) h1)
    · simp only [Option.bind_eq_some_iff] at h
      obtain ⟨c, h1, d, h2, h⟩ := h
      split at h
      · rename_i r h3
        simp only [Option.pure_def, Option.some.injEq, Prod.mk.injEq] at h
        obtain ⟨rfl, rfl⟩ := h
        exact OpOk.up (s_symCmp hs hT hop h1 h2 h3)
      · split at h
        · rename_i r h3
          simp only [Option.pure_def, Option.some.injEq, Prod.mk.injEq] at h
          obtain ⟨rfl, rfl⟩ := h
          refine OpOk.up (s_symBin (fun hu => ?_) hs hT hop h1 h2 h3)
          split at hu
          · rename_i e; exact e
          · cases hu
        · split at h
          · rename_i r h3
            simp only [Option.pure_def, Option.some.injEq, Prod.mk.injEq] at h
            obtain ⟨rfl, rfl⟩ := h
            exact OpOk.up (s_symEqA hs hT hop h1 h2 h3)
          · simp only [Option.bind_eq_some_iff] at h
            obtain ⟨r, h3, h⟩ := h
            split at h <;> simp only [Option.pure_def, Option.some.injEq, Prod.mk.injEq, reduceCtorEq] at h
            · obtain ⟨rfl, rfl⟩ := h; exact OpOk.up (s_eqRef hs hT hop h1 h2 h3 (.inl rfl))
            · obtain ⟨rfl, rfl⟩ := h; exact OpOk.up (s_eqRef hs hT hop h1 h2 h3 (.inr rfl))
  case unOp op t y =>
    simp only [evOp1, hop] at h
    split at h
    · rename_i hsc
      simp only [Option.map_eq_some_iff, Prod.mk.injEq] at h
      obtain ⟨d, h1, rfl, rfl⟩ := h
      exact OpOk.up (s_scalar hs (exec_unOp hs hT hop hsc) h1)
    · simp only [Option.bind_eq_bind, Option.bind_eq_some_iff, Option.pure_def, Option.some.injEq, Prod.mk.injEq] at h
      obtain ⟨c, h1, r, h2, rfl, rfl⟩ := h
      exact OpOk.up (s_symUn hs hT hop h1 h2)
  case convert src dst y =>
    simp only [evOp1, hop, Option.bind_eq_bind] at h
    split at h
    · rename_i e hu1 hu2
      simp only [Option.bind_eq_some_iff] at h
      obtain ⟨c, h1, h⟩ := h
      split at h
      · rename_i b hu3
        split at h
        · rename_i hc
          rw [Bool.and_eq_true] at hc
          simp only [Option.some.injEq, Prod.mk.injEq] at h
          obtain ⟨rfl, rfl⟩ := h
          exact OpOk.up (s_str_bytes hs hT hop hu1 hu2 hu3 h1 hc.1)
        · cases h
      · cases h
    · rename_i e hu1 hu2
      split at h
      · rename_i hu3
        simp only [Option.bind_eq_some_iff] at h
        obtain ⟨c, h1, h⟩ := h
        split at h
        · simp only [Option.pure_def, Option.some.injEq, Prod.mk.injEq] at h
          obtain ⟨rfl, rfl⟩ := h
          exact OpOk.up (s_nil_str hs hT hop hu1 hu2 hu3 h1 (.inl ⟨_, _, rfl⟩))
        · simp only [Option.pure_def, Option.some.injEq, Prod.mk.injEq] at h
          obtain ⟨rfl, rfl⟩ := h
          exact OpOk.up (s_nil_str hs hT hop hu1 hu2 hu3 h1 (.inr rfl))
        · simp only [Option.bind_eq_some_iff, Option.pure_def, Option.some.injEq, Prod.mk.injEq] at h
          obtain ⟨⟨cs, n⟩, h2, b, h3, rfl, rfl⟩ := h
          exact OpOk.up (s_bytes_str hs hT hop hu1 hu2 hu3 h1 (.inl ⟨_, _, _, rfl⟩) h2 h3)
        · simp only [Option.bind_eq_some_iff, Option.pure_def, Option.some.injEq, Prod.mk.injEq] at h
          obtain ⟨⟨cs, n⟩, h2, b, h3, rfl, rfl⟩ := h
          exact OpOk.up (s_bytes_str hs hT hop hu1 hu2 hu3 h1 (.inr (.inl ⟨_, _, _, rfl⟩)) h2 h3)
        · simp only [Option.bind_eq_some_iff, Option.pure_def, Option.some.injEq, Prod.mk.injEq] at h
          obtain ⟨⟨cs, n⟩, h2, b, h3, rfl, rfl⟩ := h
          exact OpOk.up (s_bytes_str hs hT hop hu1 hu2 hu3 h1 (.inr (.inr ⟨_, _, rfl⟩)) h2 h3)
        · cases h
      · cases h
    · rename_i e e2 hu1 hu2
      simp only [Option.bind_eq_some_iff] at h
      obtain ⟨c, h1, h⟩ := h
      split at h
      · rename_i hu3
        split at h
        · rename_i hg
          split at h
          · rename_i he
            have he := nbe he; subst he
            simp only [Option.pure_def, Option.some.injEq, Prod.mk.injEq] at h
            obtain ⟨rfl, rfl⟩ := h
            exact OpOk.up (s_refreeze hs hT hop hu1 hu2 hu3 h1 hg)
          · cases h
        · cases h
      · cases h
    · rename_i e hu1 hu2
      simp only [Option.bind_eq_some_iff] at h
      obtain ⟨c, h1, h⟩ := h
      exact OpOk.up (s_toUnsafe hs hT hop hu1 hu2 h1 h)
    · rename_i e hu1 hu2
      simp only [Option.bind_eq_some_iff] at h
      obtain ⟨c, h1, h⟩ := h
      exact OpOk.up (s_fromUnsafe hs hT hop hu1 hu2 h1 h)
    · split at h
      · rename_i hsc
        simp only [Option.map_eq_some_iff, Prod.mk.injEq] at h
        obtain ⟨d, h1, rfl, rfl⟩ := h
        exact OpOk.up (s_scalar hs (exec_convert hs hT hop hsc) h1)
      · simp only [Option.bind_eq_some_iff, Option.pure_def, Option.some.injEq, Prod.mk.injEq] at h
        obtain ⟨c, h1, r, h2, rfl, rfl⟩ := h
        exact OpOk.up (s_symConv hs hT hop h1 h2)
  case makeFunc fn first captured =>
    simp only [evOp1, hop, Option.bind_eq_bind, Option.bind_eq_some_iff] at h
    obtain ⟨p, h1, q, h2, h⟩ := h
    split at h
    · simp only [Option.pure_def, Option.some.injEq, Prod.mk.injEq] at h
      obtain ⟨rfl, rfl⟩ := h
      exact OpOk.up (s_makeFunc hs hT hop h1 h2)
    · cases h
  case makeInterface t y =>
    simp only [evOp1, hop] at h
    split at h
    · cases h
    · cases h
    · rename_i d hno hu
      simp only [Option.bind_eq_bind, Option.bind_eq_some_iff, Option.pure_def, Option.some.injEq, Prod.mk.injEq] at h
      obtain ⟨c, h1, rfl, rfl⟩ := h
      exact OpOk.up (s_makeInterface hs hT hop hu (fun ms e => hno ms e) h1)
  case typeAssert y xt t ok =>
    simp only [evOp1, hop] at h
    split at h
    · cases h
    · cases h
    · rename_i d hno hu
      simp only [Option.bind_eq_bind, Option.bind_eq_some_iff] at h
      obtain ⟨c, h1, h⟩ := h
      split at h
      · split at h
        · rename_i he
          have he := nbe he
          subst he
          split at h
          · rename_i hok
            subst hok
            simp only [Option.pure_def, Option.some.injEq, Prod.mk.injEq] at h
            obtain ⟨rfl, rfl⟩ := h
            exact OpOk.up (s_typeAssert_ok hs hT hop hu (fun ms e => hno ms e) h1)
          · rename_i hok
            have hok : ok = false := by simpa using hok
            subst hok
            simp only [Option.pure_def, Option.some.injEq, Prod.mk.injEq] at h
            obtain ⟨rfl, rfl⟩ := h
            exact OpOk.up (s_typeAssert hs hT hop hu (fun ms e => hno ms e) h1)
        · rename_i he
          split at h
          · rename_i hok
            subst hok
            simp only [Option.bind_eq_some_iff, Option.pure_def, Option.some.injEq, Prod.mk.injEq] at h
            obtain ⟨z, ⟨zv, h2, h3⟩, rfl, rfl⟩ := h
            exact OpOk.up (s_typeAssert_no hs hT hop hu (fun ms e => hno ms e) h1 (fun e => he (by rw [e]; exact nbt _)) h2 h3)
          · cases h
      · cases h
  case panic y =>
    simp only [evOp1, hop, Option.bind_eq_bind, Option.bind_eq_some_iff] at h
    obtain ⟨c, h1, h⟩ := h
    split at h
    · simp only [Option.pure_def, Option.some.injEq, Prod.mk.injEq] at h
      obtain ⟨rfl, rfl⟩ := h
      exact s_panic hs hT hop h1
    · cases h
  case makeMap t r =>
    simp only [evOp1, hop] at h
    split at h
    · split at h
      · rename_i hr
        simp only [Option.some.injEq, Prod.mk.injEq] at h
        obtain ⟨rfl, rfl⟩ := h
        exact OpOk.up (s_makeMap hs hop hr)
      · cases h
    · cases h
  case makeSlice t l c =>
    simp only [evOp1, hop, Option.bind_eq_bind] at h
    split at h
    · rename_i e hu
      simp only [Option.bind_eq_some_iff] at h
      obtain ⟨size, h1, bytes, h2, z, h3, cl, h4, ln, h5, cc, h6, cn, h7, h⟩ := h
      split at h
      · cases h
      · rename_i hc
        simp only [Bool.or_eq_true, Bool.not_eq_true', not_or, Bool.not_eq_false] at hc
        obtain ⟨⟨⟨c1, c2⟩, c3⟩, c4⟩ := hc
        split at h
        · rename_i he
          have he := nbe he; subst he
          simp only [Option.some.injEq, Prod.mk.injEq] at h
          obtain ⟨rfl, rfl⟩ := h
          exact OpOk.up (s_make_full hs hT hop hu h1 h2 h3 (nbe c1) h4 h6 h5 h7 c2 (Nat.le_of_ble_eq_true c3) (Nat.le_of_ble_eq_true c4))
        · split at h
          · rename_i he
            have he := nbe he; subst he
            simp only [Option.some.injEq, Prod.mk.injEq] at h
            obtain ⟨rfl, rfl⟩ := h
            exact OpOk.up (s_make_none hs hT hop hu h1 h2 h3 (nbe c1) h4 h6 h5 h7 c2 (Nat.le_of_ble_eq_true c3) (Nat.le_of_ble_eq_true c4))
          · cases h
    · cases h
  case fieldAddr st y i =>
    simp only [evOp1, hop, Option.bind_eq_bind] at h
    split at h
    · rename_i fs hu
      simp only [Option.bind_eq_some_iff] at h
      obtain ⟨f, h1, n, h2, h⟩ := h
      split at h
      · cases h
      · rename_i hne
        have hne : n ≠ 0 := fun e => hne (by rw [e]; rfl)
        simp only [Option.bind_eq_some_iff] at h
        obtain ⟨c, h3, h⟩ := h
        split at h <;> simp only [Option.pure_def, Option.some.injEq, Prod.mk.injEq, reduceCtorEq] at h
        · obtain ⟨rfl, rfl⟩ := h; exact OpOk.up (s_fieldAddr hs hT hop hu h1 h2 hne h3 (.inl ⟨_, rfl, rfl⟩))
        · obtain ⟨rfl, rfl⟩ := h; exact OpOk.up (s_fieldRow hs hT hop hu h1 h2 hne h3)
        · obtain ⟨rfl, rfl⟩ := h; exact OpOk.up (s_fieldAddr hs hT hop hu h1 h2 hne h3 (.inr ⟨_, _, rfl, rfl⟩))
    · cases h
  case field st y i =>
    simp only [evOp1, hop, Option.bind_eq_bind] at h
    split at h
    · rename_i fs hu
      simp only [Option.bind_eq_some_iff] at h
      obtain ⟨f, h1, c, h3, h⟩ := h
      split at h
      · simp only [Option.bind_eq_some_iff, Option.pure_def, Option.some.injEq, Prod.mk.injEq] at h
        obtain ⟨d, h4, rfl, rfl⟩ := h
        exact OpOk.up (s_field hs hT hop hu h1 h3 h4)
      · cases h
    · cases h
  case indexAddr t y ix =>
    simp only [evOp1, hop, Option.bind_eq_bind, Option.bind_eq_some_iff] at h
    obtain ⟨c0, h0, h⟩ := h
    split at h
    · rename_i rt e el hu
      simp only [Option.bind_eq_some_iff] at h
      obtain ⟨n, h3, h⟩ := h
      split at h
      · cases h
      · rename_i hL
        simp only [Option.bind_eq_some_iff, Option.pure_def, Option.some.injEq, Prod.mk.injEq] at h
        obtain ⟨v, h4, e', h5, rfl, rfl⟩ := h
        exact OpOk.up (s_symAt hs hT hop hu h3 (nbe (by simpa using hL)) h0 h4 h5)
    · simp only [Option.bind_eq_some_iff] at h
      obtain ⟨ci, h1, i, h2, h⟩ := h
      split at h
      · rename_i e hu
        simp only [Option.bind_eq_some_iff] at h
        obtain ⟨n, h3, c, h4, h⟩ := h
        split at h
        · split at h
          · rename_i hlt
            simp only [Option.pure_def, Option.some.injEq, Prod.mk.injEq] at h
            obtain ⟨rfl, rfl⟩ := h
            exact OpOk.up (s_indexAddr hs hT hop h1 h2 h3 h4 (.inl ⟨hu, .inl ⟨_, _, _, rfl, Nat.le_of_ble_eq_true hlt, rfl⟩⟩))
          · cases h
        · split at h
          · rename_i hlt
            simp only [Option.pure_def, Option.some.injEq, Prod.mk.injEq] at h
            obtain ⟨rfl, rfl⟩ := h
            exact OpOk.up (s_indexAddr hs hT hop h1 h2 h3 h4 (.inl ⟨hu, .inr (.inl ⟨_, _, _, rfl, Nat.le_of_ble_eq_true hlt, rfl⟩)⟩))
          · cases h
        · split at h
          · rename_i hlt
            simp only [Option.pure_def, Option.some.injEq, Prod.mk.injEq] at h
            obtain ⟨rfl, rfl⟩ := h
            exact OpOk.up (s_indexAddr hs hT hop h1 h2 h3 h4 (.inl ⟨hu, .inr (.inr ⟨_, _, rfl, Nat.le_of_ble_eq_true hlt, rfl⟩)⟩))
          · cases h
        · cases h
      · rename_i len e hu
        simp only [Option.bind_eq_some_iff] at h
        obtain ⟨n, h3, c, h4, h⟩ := h
        split at h
        · split at h
          · rename_i hlt
            simp only [Option.pure_def, Option.some.injEq, Prod.mk.injEq] at h
            obtain ⟨rfl, rfl⟩ := h
            exact OpOk.up (s_indexAddr hs hT hop h1 h2 h3 h4 (.inr ⟨_, hu, Nat.le_of_ble_eq_true hlt, .inl ⟨_, rfl, rfl⟩⟩))
          · cases h
        · split at h
          · rename_i hlt
            simp only [Option.pure_def, Option.some.injEq, Prod.mk.injEq] at h
            obtain ⟨rfl, rfl⟩ := h
            exact OpOk.up (s_indexAddr hs hT hop h1 h2 h3 h4 (.inr ⟨_, hu, Nat.le_of_ble_eq_true hlt, .inr ⟨_, _, rfl, rfl⟩⟩))
          · cases h
        · cases h
      · cases h
  case index t y ix =>
    simp only [evOp1, hop, Option.bind_eq_bind] at h
    split at h
    · rename_i len e hu
      simp only [Option.bind_eq_some_iff] at h
      obtain ⟨ci, h1, i, h2, n, h3, c, h4, h⟩ := h
      split at h
      · split at h
        · rename_i hlt
          simp only [Option.bind_eq_some_iff, Option.pure_def, Option.some.injEq, Prod.mk.injEq] at h
          obtain ⟨d, h5, rfl, rfl⟩ := h
          exact OpOk.up (s_index hs hT hop h1 h2 h3 h4 hu (Nat.le_of_ble_eq_true hlt) h5)
        · cases h
      · cases h
    · split at h
      · rename_i hsc
        simp only [Option.map_eq_some_iff, Prod.mk.injEq] at h
        obtain ⟨d, h1, rfl, rfl⟩ := h
        exact OpOk.up (s_scalar hs (exec_index hs hT hop hsc) h1)
      · split at h
        · rename_i hu
          simp only [Option.bind_eq_some_iff, Option.pure_def, Option.some.injEq, Prod.mk.injEq] at h
          obtain ⟨c, h1, ci, h2, r, h3, rfl, rfl⟩ := h
          exact OpOk.up (s_symIndex hs hT hop hu h1 h2 h3)
        · cases h
  case slice t y lo hi mx =>
    simp only [evOp1, hop, Option.bind_eq_bind] at h
    split at h
    · rename_i hu
      split at h
      · cases h
      · rename_i hmx
        have : mx = none := by cases mx with | none => rfl | some _ => simp at hmx
        subst this
        split at h
        · rename_i hsc
          simp only [Option.map_eq_some_iff, Prod.mk.injEq] at h
          obtain ⟨d, h1, rfl, rfl⟩ := h
          exact OpOk.up (s_scalar hs (exec_slice hs hT hop hsc) h1)
        · simp only [Option.bind_eq_some_iff, Option.pure_def, Option.some.injEq, Prod.mk.injEq] at h
          obtain ⟨c, h1, cl, h2, ch, h3, r, h4, rfl, rfl⟩ := h
          exact OpOk.up (s_symSub hs hT hop hu h1 h2 h3 h4)
    · rename_i e hu
      simp only [Option.bind_eq_some_iff] at h
      obtain ⟨size, h1, l, h2, c, h3, h⟩ := h
      split at h
      · rename_i m
        simp only [Option.bind_eq_some_iff] at h
        obtain ⟨hn, h4, cm, h5, mn, h6, h⟩ := h
        split at h
        · rename_i hc
          simp only [Bool.and_eq_true] at hc
          obtain ⟨⟨c1, c2⟩, c3⟩ := hc
          have c1 := nbe c1; have c2 := nbe c2; have c3 := nbe c3
          subst c1 c2 c3
          cases hi with
          | none => cases h4
          | some hi =>
            simp only [bnd0, Option.bind_eq_some_iff] at h4
            obtain ⟨ch, h4, h7⟩ := h4
            split at h <;> simp only [Option.pure_def, Option.some.injEq, Prod.mk.injEq, reduceCtorEq] at h
            · obtain ⟨rfl, rfl⟩ := h; exact OpOk.up (s_slice_none hs hT hop hu h1 h3 h2 h4 h5 h7 h6 (.inl ⟨_, _, rfl, rfl⟩))
            · obtain ⟨rfl, rfl⟩ := h; exact OpOk.up (s_slice_none hs hT hop hu h1 h3 h2 h4 h5 h7 h6 (.inr ⟨.inl ⟨_, _, _, rfl⟩, rfl⟩))
            · obtain ⟨rfl, rfl⟩ := h; exact OpOk.up (s_slice_none hs hT hop hu h1 h3 h2 h4 h5 h7 h6 (.inr ⟨.inr (.inl ⟨_, _, _, rfl⟩), rfl⟩))
            · obtain ⟨rfl, rfl⟩ := h; exact OpOk.up (s_slice_none hs hT hop hu h1 h3 h2 h4 h5 h7 h6 (.inr ⟨.inr (.inr (.inl ⟨_, _, rfl⟩)), rfl⟩))
            · obtain ⟨rfl, rfl⟩ := h; exact OpOk.up (s_slice_none hs hT hop hu h1 h3 h2 h4 h5 h7 h6 (.inr ⟨.inr (.inr (.inr rfl)), rfl⟩))
        · cases h
      · split at h
        · simp only [Option.bind_eq_some_iff] at h
          obtain ⟨hn, h4, h⟩ := h
          split at h
          · rename_i hc
            rw [Bool.and_eq_true] at hc
            simp only [Option.pure_def, Option.some.injEq, Prod.mk.injEq] at h
            obtain ⟨rfl, rfl⟩ := h
            exact OpOk.up (s_slice hs hT hop hu h1 h3 h2 (.inl ⟨_, _, rfl, h4, nbe hc.1, nbe hc.2, rfl⟩))
          · cases h
        · simp only [Option.bind_eq_some_iff] at h
          obtain ⟨hn, h4, h⟩ := h
          split at h
          · rename_i hc
            rw [Bool.and_eq_true] at hc
            simp only [Option.pure_def, Option.some.injEq, Prod.mk.injEq] at h
            obtain ⟨rfl, rfl⟩ := h
            exact OpOk.up (s_slice hs hT hop hu h1 h3 h2 (.inr (.inl ⟨rfl, h4, nbe hc.1, nbe hc.2, rfl⟩)))
          · cases h
        · rename_i cs len tok
          simp only [Option.bind_eq_some_iff] at h
          obtain ⟨hn, h4, h⟩ := h
          split at h
          · cases h
          · rename_i hc
            simp only [Bool.or_eq_true, Bool.not_eq_true', not_or, Bool.not_eq_false] at hc
            have k1 := Nat.le_of_ble_eq_true hc.1
            have k2 := Nat.le_of_ble_eq_true hc.2
            split at h
            · rename_i he
              simp only [Option.pure_def, Option.some.injEq, Prod.mk.injEq] at h
              obtain ⟨rfl, rfl⟩ := h
              exact OpOk.up (s_slice hs hT hop hu h1 h3 h2 (.inr (.inr (.inl ⟨_, _, _, rfl, h4, k1, k2, .inl ⟨nbe he, rfl⟩⟩))))
            · rename_i he
              simp only [Option.pure_def, Option.some.injEq, Prod.mk.injEq] at h
              obtain ⟨rfl, rfl⟩ := h
              refine OpOk.up (s_slice hs hT hop hu h1 h3 h2 (.inr (.inr (.inl ⟨_, _, _, rfl, h4, k1, k2, .inr ⟨fun e => he (by rw [e]; exact nbt _), _, ?_, rfl⟩⟩))))
              split
              · rename_i hc2
                rw [Bool.and_eq_true] at hc2
                exact .inr ⟨rfl, nbe hc2.1, nbe hc2.2⟩
              · exact .inl rfl
        · simp only [Option.bind_eq_some_iff] at h
          obtain ⟨hn, h4, h⟩ := h
          split at h
          · cases h
          · rename_i hc
            simp only [Bool.or_eq_true, Bool.not_eq_true', not_or, Bool.not_eq_false] at hc
            have k1 := Nat.le_of_ble_eq_true hc.1
            have k2 := Nat.le_of_ble_eq_true hc.2
            split at h
            · rename_i he
              simp only [Option.pure_def, Option.some.injEq, Prod.mk.injEq] at h
              obtain ⟨rfl, rfl⟩ := h
              exact OpOk.up (s_slice hs hT hop hu h1 h3 h2 (.inr (.inr (.inr (.inl ⟨_, _, _, rfl, h4, k1, k2, .inl ⟨nbe he, rfl⟩⟩)))))
            · rename_i he
              simp only [Option.pure_def, Option.some.injEq, Prod.mk.injEq] at h
              obtain ⟨rfl, rfl⟩ := h
              exact OpOk.up (s_slice hs hT hop hu h1 h3 h2 (.inr (.inr (.inr (.inl ⟨_, _, _, rfl, h4, k1, k2, .inr ⟨fun e => he (by rw [e]; exact nbt _), rfl⟩⟩)))))
        · simp only [Option.bind_eq_some_iff] at h
          obtain ⟨hn, h4, h⟩ := h
          split at h
          · cases h
          · rename_i hc
            simp only [Bool.or_eq_true, Bool.not_eq_true', not_or, Bool.not_eq_false] at hc
            have k1 := Nat.le_of_ble_eq_true hc.1
            have k2 := Nat.le_of_ble_eq_true hc.2
            split at h
            · rename_i he
              simp only [Option.pure_def, Option.some.injEq, Prod.mk.injEq] at h
              obtain ⟨rfl, rfl⟩ := h
              exact OpOk.up (s_slice hs hT hop hu h1 h3 h2 (.inr (.inr (.inr (.inr ⟨_, _, rfl, h4, k1, k2, .inl ⟨nbe he, rfl⟩⟩)))))
            · rename_i he
              split at h
              · rename_i hf
                rw [Bool.and_eq_true] at hf
                simp only [Option.pure_def, Option.some.injEq, Prod.mk.injEq] at h
                obtain ⟨rfl, rfl⟩ := h
                exact OpOk.up (s_slice hs hT hop hu h1 h3 h2 (.inr (.inr (.inr (.inr ⟨_, _, rfl, h4, k1, k2, .inr ⟨fun e => he (by rw [e]; exact nbt _), .inl ⟨nbe hf.1, nbe hf.2, rfl⟩⟩⟩)))))
              · simp only [Option.pure_def, Option.some.injEq, Prod.mk.injEq] at h
                obtain ⟨rfl, rfl⟩ := h
                exact OpOk.up (s_slice hs hT hop hu h1 h3 h2 (.inr (.inr (.inr (.inr ⟨_, _, rfl, h4, k1, k2, .inr ⟨fun e => he (by rw [e]; exact nbt _), .inr rfl⟩⟩)))))
        · cases h
    · rename_i n e hu
      simp only [Option.bind_eq_some_iff] at h
      obtain ⟨size, h1, l, h2, hn, h3, h⟩ := h
      split at h
      · cases h
      · rename_i hc
        simp only [Bool.or_eq_true, Bool.not_eq_true', not_or, Bool.not_eq_false] at hc
        obtain ⟨⟨c1, c2⟩, c3⟩ := hc
        have : mx = none := by cases mx with | none => rfl | some _ => simp at c1
        subst this
        have c2 := Nat.le_of_ble_eq_true c2
        have c3 := Nat.le_of_ble_eq_true c3
        split at h
        · cases h
        · rename_i he
          have he : l ≠ n := fun e => he (by rw [e]; exact nbt _)
          simp only [Option.bind_eq_some_iff] at h
          obtain ⟨c, h4, h⟩ := h
          split at h <;> simp only [Option.pure_def, Option.some.injEq, Prod.mk.injEq, reduceCtorEq] at h
          · obtain ⟨rfl, rfl⟩ := h; exact OpOk.up (s_slice_arr hs hT hop hu h1 h4 h2 h3 c2 c3 (.inr ⟨_, _, rfl, .inr ⟨he, rfl⟩⟩))
          · obtain ⟨rfl, rfl⟩ := h; exact OpOk.up (s_slice_arr hs hT hop hu h1 h4 h2 h3 c2 c3 (.inl ⟨_, rfl, .inr ⟨he, rfl⟩⟩))
    · cases h
  case lookup t y ix ok =>
    simp only [evOp1, hop, Option.bind_eq_bind] at h
    split at h
    · rename_i k e hu
      simp only [Option.bind_eq_some_iff] at h
      obtain ⟨ck, h1, key, h2, z, ⟨zv, h3, h4⟩, h⟩ := h
      split at h
      · cases h
      · rename_i hk
        simp only [Bool.not_eq_true', Bool.not_eq_false] at hk
        simp only [Option.bind_eq_some_iff] at h
        obtain ⟨c, h5, r, h6, h⟩ := h
        have hd : x = (if ok then .tup [r.getD z, .v (.bool r.isSome)] else r.getD z) ∧ s' = s := by
          cases ok <;> simp only [if_true, Bool.false_eq_true, if_false, Option.pure_def, Option.some.injEq, Prod.mk.injEq] at h ⊢ <;> exact ⟨h.1.symm, h.2.symm⟩
        obtain ⟨rfl, rfl⟩ := hd
        refine OpOk.up (s_lookup hs hT hop hu h1 h2 h3 h4 hk h5 ?_)
        unfold findIn at h6
        split at h6
        · cases h6; exact .inl ⟨rfl, rfl⟩
        · split at h6
          · rename_i hg; exact .inr ⟨_, _, rfl, hg, h6⟩
          · cases h6
        · cases h6
    · cases h
  case mapUpdate t m k y =>
    simp only [evOp1, hop, Option.bind_eq_bind] at h
    split at h
    · rename_i kt e hu
      simp only [Option.bind_eq_some_iff] at h
      obtain ⟨ck, h1, key, h2, d, h3, h⟩ := h
      split at h
      · cases h
      · rename_i hk
        simp only [Bool.not_eq_true', Bool.not_eq_false] at hk
        simp only [Option.bind_eq_some_iff] at h
        obtain ⟨c, h4, h⟩ := h
        split at h
        · split at h
          · rename_i hg
            simp only [Option.bind_eq_some_iff, Option.pure_def, Option.some.injEq, Prod.mk.injEq] at h
            obtain ⟨es', h5, rfl, rfl⟩ := h
            exact OpOk.up (s_mapUpdate hs hT (.inl hop) hu h1 h2 h3 hk h4 hg h5)
          · cases h
        · cases h
    · cases h
  case insert t m k y =>
    simp only [evOp1, hop, Option.bind_eq_bind] at h
    split at h
    · rename_i kt e hu
      simp only [Option.bind_eq_some_iff] at h
      obtain ⟨ck, h1, key, h2, d, h3, h⟩ := h
      split at h
      · cases h
      · rename_i hk
        simp only [Bool.not_eq_true', Bool.not_eq_false] at hk
        simp only [Option.bind_eq_some_iff] at h
        obtain ⟨c, h4, h⟩ := h
        split at h
        · split at h
          · rename_i hg
            simp only [Option.bind_eq_some_iff, Option.pure_def, Option.some.injEq, Prod.mk.injEq] at h
            obtain ⟨es', h5, rfl, rfl⟩ := h
            exact OpOk.up (s_mapUpdate hs hT (.inr hop) hu h1 h2 h3 hk h4 hg h5)
          · cases h
        · cases h
    · cases h
  case extract y ix =>
    simp only [evOp1, hop, Option.bind_eq_bind, Option.bind_eq_some_iff] at h
    obtain ⟨c, h1, h⟩ := h
    split at h
    · simp only [Option.bind_eq_some_iff, Option.pure_def, Option.some.injEq, Prod.mk.injEq] at h
      obtain ⟨d, h2, rfl, rfl⟩ := h
      exact OpOk.up (s_extract hs hT hop h1 h2)
    · cases h
  case call c =>
    simp only [evOp1, hop, Option.bind_eq_bind, Option.bind_eq_some_iff] at h
    obtain ⟨args, h1, h⟩ := h
    split at h
    · rename_i hc
      simp only [Option.bind_eq_some_iff] at h
      obtain ⟨t0, h2, h⟩ := h
      split at h
      · rename_i b hu hx
        simp only [Option.pure_def, Option.some.injEq, Prod.mk.injEq] at h
        obtain ⟨rfl, rfl⟩ := h
        exact OpOk.up (s_len hs hT hop hc h2 h1 hx hu (.inl ⟨rfl, _, rfl, rfl⟩))
      · rename_i e hu hx
        simp only [Option.pure_def, Option.some.injEq, Prod.mk.injEq] at h
        obtain ⟨rfl, rfl⟩ := h
        exact OpOk.up (s_lenS hs hT hop hc h2 h1 hx hu)
      · rename_i el rt e hu hx
        simp only [Option.pure_def, Option.some.injEq, Prod.mk.injEq] at h
        obtain ⟨rfl, rfl⟩ := h
        exact OpOk.up (s_lenD hs hT hop hc h2 h1 hx hu)
      · rename_i e l k hu hx
        simp only [Option.pure_def, Option.some.injEq, Prod.mk.injEq] at h
        obtain ⟨rfl, rfl⟩ := h
        exact OpOk.up (s_len hs hT hop hc h2 h1 hx hu (.inr (.inl ⟨⟨_, rfl⟩, .inl ⟨_, rfl⟩⟩)))
      · rename_i e hu hx
        simp only [Option.pure_def, Option.some.injEq, Prod.mk.injEq] at h
        obtain ⟨rfl, rfl⟩ := h
        exact OpOk.up (s_len (n := 0) hs hT hop hc h2 h1 hx hu (.inr (.inl ⟨⟨_, rfl⟩, .inr (.inl ⟨rfl, rfl⟩)⟩)))
      · rename_i e l n t hu hx
        simp only [Option.pure_def, Option.some.injEq, Prod.mk.injEq] at h
        obtain ⟨rfl, rfl⟩ := h
        exact OpOk.up (s_len hs hT hop hc h2 h1 hx hu (.inr (.inl ⟨⟨_, rfl⟩, .inr (.inr (.inl ⟨_, _, rfl⟩))⟩)))
      · rename_i e b off n hu hx
        simp only [Option.pure_def, Option.some.injEq, Prod.mk.injEq] at h
        obtain ⟨rfl, rfl⟩ := h
        exact OpOk.up (s_len hs hT hop hc h2 h1 hx hu (.inr (.inl ⟨⟨_, rfl⟩, .inr (.inr (.inr (.inl ⟨_, _, rfl⟩)))⟩)))
      · rename_i e b n hu hx
        simp only [Option.pure_def, Option.some.injEq, Prod.mk.injEq] at h
        obtain ⟨rfl, rfl⟩ := h
        exact OpOk.up (s_len hs hT hop hc h2 h1 hx hu (.inr (.inl ⟨⟨_, rfl⟩, .inr (.inr (.inr (.inr ⟨_, rfl⟩)))⟩)))
      · rename_i n e y hu hx
        simp only [Option.pure_def, Option.some.injEq, Prod.mk.injEq] at h
        obtain ⟨rfl, rfl⟩ := h
        exact OpOk.up (s_len hs hT hop hc h2 h1 hx hu (.inr (.inr (.inl ⟨_, rfl⟩))))
      · rename_i k e hu hx
        simp only [Option.pure_def, Option.some.injEq, Prod.mk.injEq] at h
        obtain ⟨rfl, rfl⟩ := h
        exact OpOk.up (s_len (n := 0) hs hT hop hc h2 h1 hx hu (.inr (.inr (.inr ⟨⟨_, _, rfl⟩, .inl ⟨rfl, rfl⟩⟩))))
      · rename_i k e m hu hx
        split at h
        · rename_i es hg
          simp only [Option.pure_def, Option.some.injEq, Prod.mk.injEq] at h
          obtain ⟨rfl, rfl⟩ := h
          exact OpOk.up (s_len hs hT hop hc h2 h1 hx hu (.inr (.inr (.inr ⟨⟨_, _, rfl⟩, .inr ⟨_, _, rfl, hg, rfl⟩⟩))))
        · cases h
      · cases h
    · rename_i hc
      simp only [Option.bind_eq_some_iff] at h
      obtain ⟨t0, h2, t1, h3, h⟩ := h
      split at h
      · rename_i e p q hu
        have hargs : ∃ op oq, c.args = #[op, oq] ∧ opd G T op = some p ∧ opd G T oq = some q := by
          have hl : c.args = c.args.toList.toArray := by simp
          generalize c.args.toList = l at h1 hl
          rw [hl]
          match l, h1 with
          | [], h1 => simp [opds] at h1
          | [_], h1 => simp [opds, Option.bind_eq_some_iff] at h1
          | [op, oq], h1 =>
            simp only [opds, Option.bind_eq_bind, Option.bind_eq_some_iff, Option.pure_def, Option.some.injEq, List.cons.injEq] at h1
            obtain ⟨p', g1, l1, ⟨q', g2, l2, rfl, rfl⟩, rfl, rfl, _⟩ := h1
            exact ⟨op, oq, rfl, g1, g2⟩
          | _ :: _ :: _ :: _, h1 => simp [opds, Option.bind_eq_some_iff] at h1
        obtain ⟨op, oq, hargs, g1, g2⟩ := hargs
        split at h
        · rename_i hu1
          exact OpOk.up (s_appendX hs hT hop hc h2 h3 hu hu1 (fun k => by simp) hargs g1 g2 h)
        · rename_i hu1
          exact OpOk.up (s_appendX hs hT hop hc h2 h3 hu hu1 (fun k => by simp) hargs g1 g2 h)
        · cases h
      · cases h
    · rename_i hc
      simp only [Option.bind_eq_some_iff] at h
      obtain ⟨t0, h2, h⟩ := h
      split at h
      · rename_i e b off len y hu
        simp only [Option.bind_eq_some_iff] at h
        obtain ⟨size, h3, ⟨ys, n⟩, h4, h⟩ := h
        split at h
        · rename_i ds hg
          split at h
          · rename_i hcc
            simp only [Bool.and_eq_true] at hcc
            obtain ⟨⟨⟨c1, c2⟩, c3⟩, c4⟩ := hcc
            simp only [Option.some.injEq, Prod.mk.injEq] at h
            obtain ⟨rfl, rfl⟩ := h
            exact OpOk.up (s_copy hs hT hop hc h2 hu h1 h3 h4 (nbe c4) hg (Nat.le_of_ble_eq_true c1) c3)
          · cases h
        · cases h
      · cases h
    · rename_i hc
      split at h
      · rename_i hsc
        simp only [Option.map_eq_some_iff, Prod.mk.injEq] at h
        obtain ⟨d, h2, rfl, rfl⟩ := h
        exact OpOk.up (s_scalar hs (exec_builtin hs hT hop hc hsc) h2)
      · simp only [Option.map_eq_some_iff, Prod.mk.injEq] at h
        obtain ⟨r, h2, rfl, rfl⟩ := h
        exact OpOk.up (s_symMM (mx := true) hs hT hop hc h1 h2)
    · rename_i hc
      split at h
      · rename_i hsc
        simp only [Option.map_eq_some_iff, Prod.mk.injEq] at h
        obtain ⟨d, h2, rfl, rfl⟩ := h
        exact OpOk.up (s_scalar hs (exec_builtin hs hT hop hc hsc) h2)
      · simp only [Option.map_eq_some_iff, Prod.mk.injEq] at h
        obtain ⟨r, h2, rfl, rfl⟩ := h
        exact OpOk.up (s_symMM (mx := false) hs hT hop hc h1 h2)
    · rename_i hc
      split at h
      · simp only [Option.bind_eq_some_iff, Option.pure_def, Option.some.injEq, Prod.mk.injEq] at h
        obtain ⟨r, h2, rfl, rfl⟩ := h
        exact OpOk.up (s_sliceData hs hT hop hc h1 h2)
      · cases h
    · rename_i hc
      split at h
      · rename_i h2
        exact OpOk.up (s_unsafeStr hs hT hop hc h2 h1 h)
      · cases h
    · cases h
    · rename_i recv name hc
      simp only [Option.bind_eq_some_iff] at h
      obtain ⟨cr, h2, h⟩ := h
      split at h
      · rename_i t x
        simp only [Option.bind_eq_some_iff] at h
        obtain ⟨g, h3, h⟩ := h
        have vr := opd_sound hs hT h2
        have va := opds_sound hs hT h1
        unfold VR at vr
        obtain ⟨v, er, vr⟩ := vr
        refine s_callA hP hcall (g := g) (vs := #[v] ++ c.args.map a.eval) hs ?_ ?_ h
        · have hm := method_run h3 (v := v) w (P.types.size + (Made.depth - 1))
          have e0 : P.types.size + (Made.depth - 1) + 1 = P.types.size + Made.depth := rfl
          rw [e0] at hm
          simp only [execOp, hop, resolve, hc, pure_bind, invoke, er]
          simp only [Array.getElem?_append, List.size_toArray, List.length_cons, List.length_nil]
          have e9 : (c.args.map a.eval).extract 0 c.args.size = c.args.map a.eval := by
            have : c.args.size = (c.args.map a.eval).size := by simp
            rw [this, Array.extract_size]
          simp [callMethod, hm, e9]
        · rw [Array.toList_append, Array.toList_map]
          exact VRl_cons vr va
      · cases h
    · rename_i f hc
      simp only [Option.bind_eq_some_iff] at h
      obtain ⟨cf, h2, h⟩ := h
      split at h
      · rename_i g first captured
        have vf := opd_sound hs hT h2
        have va := opds_sound hs hT h1
        unfold VR at vf
        obtain ⟨f', p', q', ef, e2, k1, k2⟩ := vf
        simp only [renFn, Option.some.injEq] at e2
        subst e2
        refine s_callA hP hcall (g := g) (vs := p' ++ c.args.map a.eval ++ q') hs (congrArg (fun z => Sem.run P z w) ?_) ?_ h
        · simp only [execOp, hop, resolve, hc, ef, Deferred.ofValue, pure_bind, invoke]
        · rw [Array.toList_append, Array.toList_append, Array.toList_map]
          exact (k1.append va).append k2
      · rename_i l
        have vf := opd_sound hs hT h2
        have va := opds_sound hs hT h1
        unfold VR at vf
        obtain ⟨f', p', q', ef, e2, k1, k2⟩ := vf
        simp only [renFn] at e2
        split at e2
        · simp only [Option.some.injEq] at e2
          subst e2
          unfold VRl at k1
          have hp : p' = #[] := by apply Array.toList_inj.1; rw [k1]
          subst hp
          refine s_yield hcall (l := l) (vs := c.args.map a.eval) hs ?_ (by rw [Array.toList_map]; exact va) h
          simp only [execOp, hop, resolve, hc, ef, Deferred.ofValue, pure_bind, invoke, Array.empty_append]
        · cases e2
      · cases h
  all_goals
    simp only [evOp1, hop, reduceCtorEq] at h
theorem settleB_VR (hs : Sim G B0 w0 w s M) {x : AV} {v : Value} (hv : VR w s M x v) : VR w s M (settleB s.k x) v := by
  unfold settleB
  split
  · rename_i e
    split
    · rename_i b hb
      unfold VR at hv
      obtain ⟨h1, h2⟩ := hv
      cases v <;> simp only [tyV, Bool.false_eq_true] at h2
      rename_i b'
      have := ask_sound hs (e := e) (b := b') h1 hb
      subst this
      exact VR_v.2 ⟨rfl, rfl⟩
    · exact hv
  · exact hv
theorem settleB_pan {k : Kn} {x y : AV} (h : isPan (settleB k x) = some y) : x = .pan y := by
  unfold settleB at h
  split at h
  · split at h <;> cases h
  · unfold isPan at h
    split at h
    · cases h; rfl
    · cases h
theorem op_sound {call : Ab.Call} (hP : NoNum P) (hcall : CallOk P G B0 w0 call) {o : Oper} {a : Act} {T : Tm} {x : AV} {s' : St} (hs : Sim G B0 w0 w s M) (hT : TmR w s M T a) (h : evOp P G call o T s = some (x, s')) : OpP P G B0 w0 w s M o a x s' := by
  unfold evOp at h
  split at h
  · rename_i x1 s1 h1
    cases h
    intro ro next Q hn hp
    refine op1_sound hP hcall hs hT h1 ro next Q (fun v w' M' k1 k2 k3 => hn v w' M' (settleB_VR k2 k1) k2 k3) fun y v w' M' hy k1 k2 k3 => hp y v w' M' ?_ k1 k2 k3
    unfold isPan at hy
    split at hy
    · cases hy; rfl
    · cases hy
  · split at h
    · rename_i x1 s1 h1
      cases h
      intro ro next Q hn hp
      exact evSym_sound hs hT h1 ro next Q fun v w' M' k1 k2 k3 => hn v w' M' (settleB_VR k2 k1) k2 k3
    · cases h
end
end Go.Ab
/- The evaluator against the model: regions, code, functions. -/
namespace Go.Ab
set_option linter.unusedVariables false
set_option linter.unusedSimpArgs false
set_option linter.unusedSectionVars false
set_option linter.constructorNameAsVariable false
open Go Go.RowKit

section
variable [Interp] {P : Program} {G : Nat → Option (List AV)} {B0 : Nat} {w0 w : World} {s : St} {M : Mp}

theorem yielded_at {ops : Array Oper} {T : Tm} {a : Act} (hT : TmR w s M T a) (j : Nat) (hk : ∀ d, (ops[j]?).bind (·.dst) = some d → known (gt T d) = true) : yielded ops a.tmps j = yieldedA ops T j := by
  unfold yielded yieldedA
  cases hd : (ops[j]?).bind (·.dst) with
  | none => simp
  | some d =>
    simp only [Option.bind_some]
    have hv := hT.get d
    have hkd := hk d hd
    rw [Array.getD_eq_getD_getElem?] at hv
    cases ht : a.tmps[d]? with
    | none =>
      rw [ht] at hv
      simp only [Option.getD_none] at hv
      split
      · rename_i h; cases h
      · split
        · rename_i b hg; rw [hg] at hv; have := (VR_v.1 hv).1; cases this
        · rfl
    | some v =>
      rw [ht] at hv
      simp only [Option.getD_some] at hv
      split
      · rename_i b hb
        cases hb
        split
        · rename_i b' hg; rw [hg] at hv; have := (VR_v.1 hv).1; cases this; rfl
        · rename_i hno
          exfalso
          generalize gt T d = x at hv hno hkd
          cases x with
          | v y => obtain ⟨rfl, _⟩ := VR_v.1 hv; exact hno _ rfl
          | ref _ => unfold VR at hv; obtain ⟨_, _, e, _⟩ := hv; cases e
          | box _ _ => unfold VR at hv; cases hv.2
          | sl _ _ _ => unfold VR at hv; obtain ⟨_, _, _, e, _⟩ := hv; cases e
          | ms _ _ _ => unfold VR at hv; obtain ⟨_, _, _, e⟩ := hv; cases e
          | e0 => unfold VR at hv; obtain ⟨_, _, e⟩ := hv; cases e
          | mg _ _ => unfold VR at hv; cases hv.2.2
          | iface _ _ => unfold VR at hv; obtain ⟨_, e, _⟩ := hv; cases e
          | pan _ => unfold VR at hv; exact hv.elim
          | any => cases hkd
          | x _ _ => cases hkd
          | d _ _ _ => rcases VR_d hv with ⟨_, _, _, e⟩ | ⟨_, _, _, _, _, e, _⟩ <;> cases e
          | rd _ _ _ => unfold VR at hv; obtain ⟨_, _, _, e, _⟩ := hv; cases e
          | so _ _ _ _ => unfold VR at hv; obtain ⟨_, _, _, _, _, _, e, _⟩ := hv; cases e
          | po _ _ => unfold VR at hv; obtain ⟨_, _, _, e⟩ := hv; cases e
          | sy _ _ => unfold VR at hv; exact hv.2.2.1 _ hv.1.symm
          | mp _ => unfold VR at hv; cases hv.2
          | fn _ _ _ => unfold VR at hv; obtain ⟨_, _, _, e, _⟩ := hv; cases e
          | agg _ => unfold VR at hv; obtain ⟨_, e, _⟩ := hv; cases e
          | tup _ => unfold VR at hv; obtain ⟨_, e, _⟩ := hv; cases e
      · rename_i hno
        split
        · rename_i b hg; rw [hg] at hv; have := (VR_v.1 hv).1; subst this; exact absurd rfl (hno b)
        · rfl

theorem fetch_some {ops : Array Oper} {T : Tm} {i : Nat} {o : Oper} (h : fetch ops T i = some o) : ops[i]? = some o ∧ gk ops T o = true := by
  unfold fetch at h
  split at h
  · rename_i o' ho
    split at h
    · rename_i hg; cases h; exact ⟨ho, hg⟩
    · cases h
  · cases h
theorem fetch_of {ops : Array Oper} {T : Tm} {i : Nat} {o : Oper} (h : ops[i]? = some o) (hg : gk ops T o = true) : fetch ops T i = some o := by
  unfold fetch
  rw [h]
  simp only [hg, if_true]
theorem yielded_eq {ops : Array Oper} {T : Tm} {a : Act} (hT : TmR w s M T a) {o : Oper} (hg : gk ops T o = true) : Region.wanted o (yielded ops a.tmps) = Region.wanted o (yieldedA ops T) := by
  unfold gk at hg
  unfold Region.wanted
  cases hgd : o.guard with
  | none => rfl
  | some q =>
    obtain ⟨j, want⟩ := q
    rw [hgd] at hg
    simp only at hg ⊢
    rw [yielded_at hT j fun d hd => by rw [hd] at hg; exact hg]

def exOf : Ex → Exit
  | .normal => .normal
  | .exit id => .exit id
  | .goto l => .goto l
  | .ret => .ret
  | .panic _ => .normal
/-- How code ends. -/
def ExR (w : World) (s : St) (M : Mp) (ex : Ex) (e : Exit) : Prop :=
  match ex with
  | .panic y => ∃ v, e = .panic [{ v, recovered := false }] ∧ VR w s M y v
  | ex => e = exOf ex
def PE (w : World) (s : St) (M : Mp) (p : Option AV) (e : Exit) : Prop :=
  match p with
  | none => e = .normal
  | some y => ∃ v, e = .panic [{ v, recovered := false }] ∧ VR w s M y v

theorem deferA_sound (hs : Sim G B0 w0 w s M) {T : Tm} {a : Act} (hT : TmR w s M T a) {c : Go.Call} {d : Nat × List AV × List AV} (h : deferA G T c = some d) (ty : TypeId) :
    ∃ (args cap : Array Value), (resolve a.eval c ty).run P w = .ok { target := .fn (.func d.1) cap, args := args } w ∧ VRl w s M d.2.1 args.toList ∧ VRl w s M d.2.2 cap.toList := by
  unfold deferA at h
  split at h
  · rename_i f hc
    simp only [Option.bind_eq_bind, Option.bind_eq_some_iff] at h
    obtain ⟨cf, h1, h⟩ := h
    split at h
    · rename_i g first captured
      simp only [Option.bind_eq_some_iff, Option.pure_def, Option.some.injEq] at h
      obtain ⟨args, h2, rfl⟩ := h
      have vf := opd_sound hs hT h1
      have va := opds_sound hs hT h2
      unfold VR at vf
      obtain ⟨f', p', q', ef, e2, k1, k2⟩ := vf
      simp only [renFn, Option.some.injEq] at e2
      subst e2
      refine ⟨p' ++ c.args.map a.eval, q', ?_, ?_, k2⟩
      · simp only [resolve, hc, ef, Deferred.ofValue, Sem.run_pure]
      · rw [Array.toList_append, Array.toList_map]
        exact k1.append va
    · cases h
  · cases h

theorem ops_sound {call : Ab.Call} (hP : NoNum P) (hcall : CallOk P G B0 w0 call) {ops : Array Oper} {dok : Bool} {ro : Option Nat} (hro : dok = true → ro = none) : ∀ {l : List Nat} {T T' : Tm} {s s' : St} {p : Option AV} {w : World} {M : Mp} {a : Act} {Q : Exit → Act → World → Prop}, evOps P G call dok ops l T s = some (p, T', s') →
    Sim G B0 w0 w s M → TmR w s M T a → (∀ e a' w' M', PE w' s' M' p e → TmR w' s' M' T' a' → Sim G B0 w0 w' s' M' → Ext w s M w' s' M' → Q e a' w') → wpOpsIn (FW ro) 0 P ops Q l a w
  | [], T, T', s, s', p, w, M, a, Q, h, hs, hT, hq => by
    simp only [evOps, Option.some.injEq, Prod.mk.injEq] at h
    obtain ⟨rfl, rfl, rfl⟩ := h
    exact hq _ a w M rfl hT hs (Ext.refl _ _ _)
  | i :: rest, T, T', s, s', p, w, M, a, Q, h, hs, hT, hq => by
    unfold evOps at h
    unfold wpOpsIn
    cases hfo : fetch ops T i with
    | none => rw [hfo] at h; cases h
    | some o =>
      obtain ⟨ho, hgk⟩ := fetch_some hfo
      rw [hfo] at h
      rw [ho]
      simp only at h ⊢
      have hy : Region.wanted o (yielded ops a.tmps) = Region.wanted o (yieldedA ops T) := yielded_eq hT hgk
      rw [hy]
      split at h
      · rename_i hw
        rw [if_pos hw]
        split at h
        · -- a call is put off
          rename_i c hop
          split at h
          · rename_i d hds hdst hda
            have hn := hro rfl
            subst hn
            obtain ⟨args, cap, hr, h1, h2⟩ := deferA_sound (P := P) hs hT hda o.type
            refine ⟨fun _ _ => trivial, ?_⟩
            have hrun : ((o.semAt (FW none).round a.eval).run P w) = .ok (.defer { target := .fn (.func d.1) cap, args := args }) w := by
              show ((Oper.semAt none a.eval o).run P w) = _
              simp only [Oper.semAt_none, execOp, hop, Sem.run_bind, hr, Result.andThen_ok, Sem.run_pure]
            rw [hrun, Oper.uponIn_defer, hdst]
            refine ops_sound hP hcall hro h hs (a := { a with defers := _ :: a.defers }) ⟨hT.size, hT.get, ?_, by rw [hds]; exact fun d hd => by cases hd⟩ hq
            obtain ⟨dv, e1, e2⟩ := hT.defers
            rw [hds] at e2
            refine ⟨{ target := .fn (.func d.1) cap, args := args } :: dv, ?_, ?_⟩
            · obtain ⟨g, xs, ys⟩ := d
              exact ⟨args, cap, dv, rfl, h1, h2, e1⟩
            · rw [hds, e2]; rfl
          · cases h
        · rename_i hnd
          split at h
          · rename_i x s1 hx
            refine ⟨fun _ _ => trivial, ?_⟩
            rw [Oper.semAt_eq _ _ _ hnd]
            split at h
            · rename_i y hpan
              simp only [Option.some.injEq, Prod.mk.injEq] at h
              obtain ⟨rfl, rfl, rfl⟩ := h
              refine op_sound hP hcall hs hT hx ro _ _ (fun v w1 M1 hv hs1 hE => ?_) fun y' v w1 M1 hy' hv hs1 hE => ?_
              · exfalso
                cases x <;> simp only [isPan, reduceCtorEq] at hpan
                unfold VR at hv
                exact hv
              · rw [hpan] at hy'; cases hy'
                exact hq _ a w1 M1 ⟨v, rfl, hv⟩ (hT.ext hE) hs1 hE
            · rename_i hpan
              split at h
              · rename_i T1 hp
                refine op_sound hP hcall hs hT hx ro _ _ (fun v w1 M1 hv hs1 hE => ?_) fun y' v w1 M1 hy' hv hs1 hE => by rw [hpan] at hy'; cases hy'
                exact ops_sound hP hcall hro h hs1 ((hT.ext hE).put hp hv) fun e a' w' M' k0 k1 k2 k3 => hq e a' w' M' k0 k1 k2 (hE.trans k3)
              · cases h
          · cases h
      · rename_i hw
        rw [if_neg hw]
        split at h
        · rename_i T1 hp
          exact ⟨fun _ _ => trivial, ops_sound hP hcall hro h hs (hT.put hp VR_und) hq⟩
        · cases h

def DrawnOk (P : Program) (G : Nat → Option (List AV)) (B0 : Nat) (w0 : World) (d : Drawn) : Prop :=
  ∀ ops T s p T' s', d ops T s = some (p, T', s') → ∀ (w : World) (M : Mp) (a : Act) (Q : Exit → Act → World → Prop), Sim G B0 w0 w s M → TmR w s M T a →
    (∀ e a' w' M', PE w' s' M' p e → TmR w' s' M' T' a' → Sim G B0 w0 w' s' M' → Ext w s M w' s' M' → Q e a' w') → ∀ (ro : Option Nat) t, wpOpsIn (FW ro) 0 P ops Q (Region.schedule (P.follows .mixedOrders) ops t) a w.drew

/-- A scope through which the run jumps. -/
def jumpRounds (P : Program) (b : Code) (Q : Exit → Act → World → Prop) : Nat → Code → Act → World → Prop
  | 0, _, _, _ => False
  | n + 1, c, a, w => c.wpIn (FW none) 0 P (fun e a w => match e with | .goto l => ∃ rest, findLabel b l = some rest ∧ jumpRounds P b Q n rest a w | e => Q e a w) a w
theorem wp_scope_rounds {b : Code} {Q : Exit → Act → World → Prop} {a : Act} {w : World} (n : Nat) (h : jumpRounds P b Q n b a w) : (Code.scope b).wpIn (FW none) 0 P Q a w := by
  intro fr k cs hro hb hr
  have hro' : fr.roundOf = none := hro
  have calm : ∀ (a : Act) (td : List Item) (w : World), (lone (fr.atR a td) cs w).fenced P (FW none) := fun a td w => fenced_wide P _
  have s1 : ∀ (c : Code) (a : Act) (w : World), step P (lone (fr.atR a (.code (.scope c) :: k)) cs w) = .next (lone (fr.atR a (.code c :: .inScope c :: k)) cs w) := fun c a w => by
    rw [Frame.atR_of_none hro', Frame.atR_of_none hro']; exact step_scope
  have s2 : ∀ (c : Code) (a : Act) (w : World), step P (lone (fr.atR a (.inScope c :: k)) cs w) = .next (lone (fr.atR a k) cs w) := fun c a w => by
    rw [Frame.atR_of_none hro', Frame.atR_of_none hro']; exact step_inScope
  have key : ∀ n c a w, jumpRounds P b Q n c a w → ∃ e a' w', Q e a' w' ∧ ArrivesIn (Machine.fenced P (FW none)) P (lone (fr.atR a (.code c :: .inScope b :: k)) cs w) fr k cs e a' w' := by
    intro n
    induction n with
    | zero => intro c a w h; exact h.elim
    | succ n ih =>
      intro c a w h
      obtain ⟨e, a₁, w₁, hq, harr⟩ := h fr (.inScope b :: k) cs hro hb hr
      cases e with
      | normal => exact ⟨.normal, a₁, w₁, hq, StepsIn.trans harr (.one (calm _ _ _) (s2 _ _ _))⟩
      | exit id => exact ⟨.exit id, a₁, w₁, hq, fun k' hk => harr.1 k' (by simp [exitTo, hk]), fun hs => by rw [hro'] at hs; cases hs⟩
      | goto l =>
        obtain ⟨rest, hf, hr'⟩ := hq
        obtain ⟨e₂, a₂, w₂, hq₂, harr₂⟩ := ih rest a₁ w₁ hr'
        exact ⟨e₂, a₂, w₂, hq₂, .of_steps (harr.1 _ (by simp [gotoIn, hf])) harr₂⟩
      | ret => exact ⟨_, a₁, w₁, hq, harr.1, fun hs => by rw [hro'] at hs; cases hs⟩
      | panic ch => exact ⟨_, a₁, w₁, hq, harr⟩
      | outgrown => exact ⟨_, a₁, w₁, hq, harr⟩
  obtain ⟨e, a', w', hq, harr⟩ := key n b a w h
  exact ⟨e, a', w', hq, .of_steps (.one (calm _ _ _) (s1 _ _ _)) harr⟩

def Goes (P : Program) (G : Nat → Option (List AV)) (B0 : Nat) (w0 : World) (ro : Option Nat) (self : Code → Tm → St → Option (Ex × Tm × St)) : Prop :=
  ∀ c T s ex T' s', self c T s = some (ex, T', s') → ∀ (w : World) (M : Mp) (a : Act) (Q : Exit → Act → World → Prop), Sim G B0 w0 w s M → TmR w s M T a →
    (∀ e a' w' M', ExR w' s' M' ex e → TmR w' s' M' T' a' → Sim G B0 w0 w' s' M' → Ext w s M w' s' M' → Q e a' w') → c.wpIn (FW ro) 0 P Q a w

theorem cnd_sound (hs : Sim G B0 w0 w s M) {T : Tm} {a : Act} (hT : TmR w s M T a) {x : Operand} {b : Bool} (h : cnd G T s x = some b) : a.eval x = .bool b := by
  unfold cnd at h
  split at h
  · rename_i b' hc
    cases h
    exact (VR_v.1 (opd_sound hs hT hc)).1
  · rename_i e hc
    have hv := opd_sound hs hT hc
    unfold VR at hv
    obtain ⟨h1, h2⟩ := hv
    generalize a.eval x = v at h1 h2
    cases v <;> simp only [tyV, Bool.false_eq_true] at h2
    rename_i b'
    have := ask_sound hs (e := e) (b := b') h1 h
    rw [this]
  · cases h
theorem scope_sound {self : Code → Tm → St → Option (Ex × Tm × St)} (hself : Goes P G B0 w0 none self) {b : Code} : ∀ {n : Nat} {c : Code} {T T' : Tm} {s s' : St} {ex : Ex}, evScope self b n c T s = some (ex, T', s') → ∀ (w : World) (M : Mp) (a : Act) (Q : Exit → Act → World → Prop), Sim G B0 w0 w s M → TmR w s M T a →
    (∀ e a' w' M', ExR w' s' M' ex e → TmR w' s' M' T' a' → Sim G B0 w0 w' s' M' → Ext w s M w' s' M' → Q e a' w') → jumpRounds P b Q n c a w
  | 0, c, T, T', s, s', ex, h, w, M, a, Q, hs, hT, hq => by cases h
  | n + 1, c, T, T', s, s', ex, h, w, M, a, Q, hs, hT, hq => by
    unfold evScope at h
    unfold jumpRounds
    split at h
    · rename_i l T1 s1 hc
      split at h
      · rename_i rest hf
        refine hself c T s _ T1 s1 hc w M a _ hs hT fun e1 a1 w1 M1 k0 k1 k2 k3 => ?_
        obtain rfl : e1 = .goto l := k0
        exact ⟨rest, hf, scope_sound hself h w1 M1 a1 Q k2 k1 fun e a' w' M' j0 j1 j2 j3 => hq e a' w' M' j0 j1 j2 (k3.trans j3)⟩
      · cases h
    · rename_i hno
      refine hself c T s ex T' s' h w M a _ hs hT fun e1 a' w' M' k0 k1 k2 k3 => ?_
      have k := hq e1 a' w' M' k0 k1 k2 k3
      cases ex with
      | goto l => exact absurd h (hno l T' s')
      | normal => obtain rfl : e1 = .normal := k0; exact k
      | exit id => obtain rfl : e1 = .exit id := k0; exact k
      | ret => obtain rfl : e1 = .ret := k0; exact k
      | panic y => obtain ⟨v, rfl, _⟩ := k0; exact k

theorem sim_loop (hs : Sim G B0 w0 w s M) {l : Nat} {T : Tm} {ps : List Nat} {asg body : Code} {st st' : LoopState} {pend pend' : Option Code} (hl : l < s.n) (hg : s.get l = some (.loop T ps asg body st pend)) {rc : Loop} (hrc : w.heap[M.blk l]? = some (.loop rc)) :
    Sim G B0 w0 (w.putObj (M.blk l) (.loop { rc with state := st', pending := pend' })) (s.put l (.loop T ps asg body st' pend')) M ∧ Ext w s M (w.putObj (M.blk l) (.loop { rc with state := st', pending := pend' })) (s.put l (.loop T ps asg body st' pend')) M := by
  have hlt := (hs.blk l hl).2
  have h1 : (w.putObj (M.blk l) (.loop { rc with state := st', pending := pend' })).heap[M.blk l]? = some (.loop { rc with state := st', pending := pend' }) := World.putObj_heap_same hlt
  have h2 : ∀ k, k ≠ M.blk l → (w.putObj (M.blk l) (.loop { rc with state := st', pending := pend' })).heap[k]? = w.heap[k]? := fun k hk => World.putObj_heap_other hk
  have hE : Ext w s M (w.putObj (M.blk l) (.loop { rc with state := st', pending := pend' })) (s.put l (.loop T ps asg body st' pend')) M := ext_write hs hl hg (fun _ _ => by simp) trivial (fun _ _ => by simp) trivial h2 (by simp [World.putObj])
  obtain ⟨rc', a1, a2, a3, a4, a5, a6, a7, a8⟩ := hs.obj l _ hl hg
  rw [hrc] at a1; cases a1
  refine ⟨sim_write hs hl hg (fun _ _ => by simp) trivial (fun _ _ => by simp) trivial h2 (hs.below.trans ⟨rfl, rfl, rfl, by simp [World.putObj], fun k hk => h2 k (by have := (hs.blk l hl).1; omega)⟩) (by simp [World.putObj]) ?_, hE⟩
  exact ⟨_, h1, rfl, rfl, a4, a5, a6, a7, fun t => (a8 t).ext hE⟩

set_option maxHeartbeats 1000000 in
theorem range_sound {call : Ab.Call} (hP : NoNum P) (hcall : CallOk P G B0 w0 call) {T : Tm} {a : Act} {f : Operand} {ps : Array Tmp} {asg body : Code} {g : FuncId} {first captured : List AV} {r3 : AV} {s3 : St} {T1 : Tm} {ps1 : List Nat} {asg1 body1 : Code} {st : LoopState} {pend : Option Code} {Q : Exit → Act → World → Prop}
    (hs : Sim G B0 w0 w s M) (hT : TmR w s M T a) (hle : s.n + 2 ≤ Tr.lid) (hf : opd G T f = some (.fn (.func g) first captured))
    (hcl : callB P call g (first ++ [.fn (.yield (s.n + 1)) [] []] ++ captured) ((s.new .defs).new (.loop T ps.toList asg body .ready none)) = some (r3, s3)) (hg3 : s3.get (s.n + 1) = some (.loop T1 ps1 asg1 body1 st pend)) (hnb : st ≠ .busy)
    (hq : ∀ a' w' M', TmR w' (s3.put (s.n + 1) (.loop T1 ps1 asg1 body1 .exhausted pend)) M' { T with ds := s.n :: T.ds } a' → Sim G B0 w0 w' (s3.put (s.n + 1) (.loop T1 ps1 asg1 body1 .exhausted pend)) M' → Ext w s M w' (s3.put (s.n + 1) (.loop T1 ps1 asg1 body1 .exhausted pend)) M' →
      match (generalizing := false) pend with
      | none => Q .normal a' w'
      | some c => c.wpIn (FW none) 0 P Q a' w') : (Code.rangeFunc f ps asg body).wpIn (FW none) 0 P Q a w := by
  have vf := opd_sound hs hT hf
  unfold VR at vf
  obtain ⟨f', p', q', ef, e2, k1, k2⟩ := vf
  simp only [renFn, Option.some.injEq] at e2
  subst e2
  refine wpIn_rangeFunc fun fn _ => ?_
  -- the two blocks
  have hb1 : s.n < Tr.lid := by omega
  have hE1 := ext_new (w := w) (M := M) hb1 (fun i hi => (hs.blk i hi).2) (.deferred (some [])) .defs 0
  have hs1 := sim_new hs hb1 (.deferred (some [])) .defs 0 (heap_new _ _)
  have hb2 : (s.new .defs).n < Tr.lid := by show s.n + 1 < Tr.lid; omega
  let rc : Loop := { state := .ready, pending := none, fn, tmps := a.tmps, params := ps, assign := asg, body, defers := w.heap.size }
  have hE2 := ext_new (w := w.alloc (.deferred (some []))) (s := s.new .defs) (M := M.add s.n w.heap.size 0) hb2 (fun i hi => (hs1.blk i hi).2) (.loop rc) (.loop T ps.toList asg body .ready none) 0
  have hs2 := sim_new hs1 hb2 (.loop rc) (.loop T ps.toList asg body .ready none) 0 ⟨rc, heap_new _ _, rfl, rfl, rfl, rfl, rfl, hT.size, fun t => ((hT.get t).ext hE1).ext hE2⟩
  have hE12 := hE1.trans hE2
  have hM1 : ((M.add s.n w.heap.size 0).add (s.new .defs).n (w.alloc (.deferred (some []))).heap.size 0).blk (s.n + 1) = w.heap.size + 1 := by simp [Mp.add, St.new]
  have hM0 : ((M.add s.n w.heap.size 0).add (s.new .defs).n (w.alloc (.deferred (some []))).heap.size 0).blk s.n = w.heap.size := by simp [Mp.add, St.new]
  have hvl : VRl ((w.alloc (.deferred (some []))).alloc (.loop rc)) ((s.new .defs).new (.loop T ps.toList asg body .ready none)) ((M.add s.n w.heap.size 0).add (s.new .defs).n (w.alloc (.deferred (some []))).heap.size 0) (first ++ [.fn (.yield (s.n + 1)) [] []] ++ captured) (p' ++ #[Value.func (.yield (w.heap.size + 1)) #[] #[]] ++ q').toList := by
    rw [Array.toList_append, Array.toList_append]
    refine ((k1.ext hE12).append ?_).append (k2.ext hE12)
    refine VRl_cons ?_ VRl_nil
    unfold VR
    refine ⟨_, #[], #[], rfl, ?_, VRl_nil, VRl_nil⟩
    simp only [renFn]
    rw [if_pos (by simp [St.new]), hM1]
  obtain ⟨hinv, hcalls⟩ := callB_calls hP hcall hs2 hvl hcl
  have hres : (resolve a.eval (rangeCall f (w.heap.size + 1)) 0).run P ((w.alloc (.deferred (some []))).alloc (.loop rc)) = .ok { target := .fn (.func g) q', args := p' ++ #[Value.func (.yield (w.heap.size + 1)) #[] #[]] } ((w.alloc (.deferred (some []))).alloc (.loop rc)) := by
    simp only [resolve, rangeCall, ef, Deferred.ofValue, Sem.run_pure]
    simp [Act.eval]
  refine ⟨w.heap.size + 1, [{ target := .collected w.heap.size, args := #[] }], (w.alloc (.deferred (some []))).alloc (.loop rc), { target := .fn (.func g) q', args := p' ++ #[Value.func (.yield (w.heap.size + 1)) #[] #[]] }, (w.alloc (.deferred (some []))).alloc (.loop rc), g, p' ++ #[Value.func (.yield (w.heap.size + 1)) #[] #[]] ++ q', (w.alloc (.deferred (some []))).alloc (.loop rc), run_enterLoop_outer fn a.tmps ps asg body, hres, fun _ _ => trivial, hinv, fun h => (by cases h), hcalls.mono ?_⟩
  rintro e w3 ⟨v, M3, rfl, j1, j2, j3⟩
  · have hn3 : s.n + 1 < s3.n := Nat.lt_of_lt_of_le (show s.n + 1 < s.n + 1 + 1 by omega) j3.n
    have hm3 := (j3.map (s.n + 1) (show s.n + 1 < s.n + 1 + 1 by omega)).1
    have hm30 := (j3.map s.n (show s.n < s.n + 1 + 1 by omega)).1
    rw [hM1] at hm3
    rw [hM0] at hm30
    obtain ⟨rc3, a1, a2, a3, _⟩ := j2.obj _ _ hn3 hg3
    subst a3
    rw [hm3] at a1
    obtain ⟨hs4, hE4⟩ := sim_loop (st' := .exhausted) (pend' := rc3.pending) j2 hn3 hg3 (rc := rc3) (by rw [hm3]; exact a1)
    rw [hm3] at hs4 hE4
    refine ⟨rc3.pending, _, run_endLoop a1 (by rw [a2]; exact hnb), ?_⟩
    have hEall : Ext w s M _ _ _ := (hE12.trans j3).trans hE4
    have hTm := hT.ext hEall
    have := hq { a with defers := [{ target := .collected w.heap.size, args := #[] }] ++ a.defers } _ M3 ⟨hTm.size, hTm.get, by
        obtain ⟨dv, q1, q2⟩ := hTm.defers
        refine ⟨dv, q1, ?_⟩
        show { target := .collected w.heap.size, args := #[] } :: a.defers = { target := .collected (M3.blk s.n), args := #[] } :: ((T.ds.map fun d => ({ target := .collected (M3.blk d), args := #[] } : Deferred)) ++ dv)
        rw [hm30, q2], fun d hd => by
        rw [List.mem_cons] at hd
        rcases hd with rfl | hd
        · show s.n < s3.n; omega
        · exact hTm.dlt d hd⟩ hs4 hEall
    exact this

theorem code_sound {D : Ab.Call → Drawn} {call : Ab.Call} (hP : NoNum P) (hcall : CallOk P G B0 w0 call) (hD : DrawnOk P G B0 w0 (D call)) {rb : Bool} {ro : Option Nat} (hro : rb = false → ro = none) : ∀ (k : Nat), Goes P G B0 w0 ro (evCode P G D call rb k) ∧
    (∀ b T s ex T' s', evCode P G D call rb k (.loop b) T s = some (ex, T', s') → ∀ (w : World) (M : Mp) (a : Act) (Q : Exit → Act → World → Prop), Sim G B0 w0 w s M → TmR w s M T a →
      (∀ e a' w' M', ExR w' s' M' ex e → TmR w' s' M' T' a' → Sim G B0 w0 w' s' M' → Ext w s M w' s' M' → Q e a' w') → Code.roundsIn (FW ro) 0 P b Q k a w)
  | 0 => by refine ⟨fun c T s ex T' s' h => ?_, fun b T s ex T' s' h => ?_⟩ <;> cases h
  | k + 1 => by
    obtain ⟨ih, ihl⟩ := code_sound hP hcall hD hro k
    have hloop : ∀ b T s ex T' s', evCode P G D call rb (k + 1) (.loop b) T s = some (ex, T', s') → ∀ (w : World) (M : Mp) (a : Act) (Q : Exit → Act → World → Prop), Sim G B0 w0 w s M → TmR w s M T a →
        (∀ e a' w' M', ExR w' s' M' ex e → TmR w' s' M' T' a' → Sim G B0 w0 w' s' M' → Ext w s M w' s' M' → Q e a' w') → Code.roundsIn (FW ro) 0 P b Q (k + 1) a w := by
      intro b T s ex T' s' h w M a Q hs hT hq
      unfold evCode at h
      simp only at h
      rw [roundsIn_succ]
      split at h
      · rename_i T1 s1 hb
        refine ih b T s _ T1 s1 hb w M a _ hs hT fun e1 a1 w1 M1 k0 k1 k2 k3 => ?_
        obtain rfl : e1 = .normal := k0
        exact ihl b T1 s1 ex T' s' h w1 M1 a1 Q k2 k1 fun e a' w' M' j0 j1 j2 j3 => hq e a' w' M' j0 j1 j2 (k3.trans j3)
      · rename_i hno
        refine ih b T s ex T' s' h w M a _ hs hT fun e1 a' w' M' k0 k1 k2 k3 => ?_
        have k := hq e1 a' w' M' k0 k1 k2 k3
        cases ex with
        | normal => exact absurd h (hno T' s')
        | goto l => obtain rfl : e1 = .goto l := k0; exact k
        | exit id => obtain rfl : e1 = .exit id := k0; exact k
        | ret => obtain rfl : e1 = .ret := k0; exact k
        | panic y => obtain ⟨v, rfl, _⟩ := k0; exact k
    refine ⟨fun c T s ex T' s' h w M a Q hs hT hq => ?_, hloop⟩
    have h0 := h
    unfold evCode at h
    cases c with
    | skip => simp only [Option.some.injEq, Prod.mk.injEq] at h; obtain ⟨rfl, rfl, rfl⟩ := h; exact wpIn_skip (hq _ a w M rfl hT hs (Ext.refl _ _ _))
    | label l => simp only [Option.some.injEq, Prod.mk.injEq] at h; obtain ⟨rfl, rfl, rfl⟩ := h; exact wpIn_label (hq _ a w M rfl hT hs (Ext.refl _ _ _))
    | exit id => simp only [Option.some.injEq, Prod.mk.injEq] at h; obtain ⟨rfl, rfl, rfl⟩ := h; exact wpIn_exit (hq _ a w M rfl hT hs (Ext.refl _ _ _))
    | goto l => simp only [Option.some.injEq, Prod.mk.injEq] at h; obtain ⟨rfl, rfl, rfl⟩ := h; exact wpIn_goto (hq _ a w M rfl hT hs (Ext.refl _ _ _))
    | ret => simp only [Option.some.injEq, Prod.mk.injEq] at h; obtain ⟨rfl, rfl, rfl⟩ := h; exact wpIn_ret (hq _ a w M rfl hT hs (Ext.refl _ _ _))
    | region id ops draw =>
      simp only at h
      cases draw with
      | true =>
        simp only [if_true] at h
        split at h
        · rename_i T1 s1 h1
          simp only [Option.some.injEq, Prod.mk.injEq] at h
          obtain ⟨rfl, rfl, rfl⟩ := h
          exact wpIn_region_draw (hD ops T s _ T1 s1 h1 w M a Q hs hT (fun e a' w' M' k0 k1 k2 k3 => hq e a' w' M' k0 k1 k2 k3) ro)
        · rename_i y T1 s1 h1
          simp only [Option.some.injEq, Prod.mk.injEq] at h
          obtain ⟨rfl, rfl, rfl⟩ := h
          exact wpIn_region_draw (hD ops T s _ T1 s1 h1 w M a Q hs hT (fun e a' w' M' k0 k1 k2 k3 => hq e a' w' M' k0 k1 k2 k3) ro)
        · cases h
      | false =>
        simp only [Bool.false_eq_true, if_false] at h
        have hdk : (!rb) = true → ro = none := fun h => hro (by simpa using h)
        split at h
        · rename_i T1 s1 h1
          simp only [Option.some.injEq, Prod.mk.injEq] at h
          obtain ⟨rfl, rfl, rfl⟩ := h
          exact wpIn_region (ops_sound hP hcall hdk h1 hs hT fun e a' w' M' k0 k1 k2 k3 => hq e a' w' M' k0 k1 k2 k3)
        · rename_i y T1 s1 h1
          simp only [Option.some.injEq, Prod.mk.injEq] at h
          obtain ⟨rfl, rfl, rfl⟩ := h
          exact wpIn_region (ops_sound hP hcall hdk h1 hs hT fun e a' w' M' k0 k1 k2 k3 => hq e a' w' M' k0 k1 k2 k3)
        · cases h
    | seq x y =>
      simp only at h
      refine wpIn_seq ?_
      split at h
      · rename_i T1 s1 hb
        refine ih x T s _ T1 s1 hb w M a _ hs hT fun e1 a1 w1 M1 k0 k1 k2 k3 => ?_
        obtain rfl : e1 = .normal := k0
        exact ih y T1 s1 ex T' s' h w1 M1 a1 Q k2 k1 fun e a' w' M' j0 j1 j2 j3 => hq e a' w' M' j0 j1 j2 (k3.trans j3)
      · rename_i hno
        refine ih x T s ex T' s' h w M a _ hs hT fun e1 a' w' M' k0 k1 k2 k3 => ?_
        have k := hq e1 a' w' M' k0 k1 k2 k3
        cases ex with
        | normal => exact absurd h (hno T' s')
        | goto l => obtain rfl : e1 = .goto l := k0; exact k
        | exit id => obtain rfl : e1 = .exit id := k0; exact k
        | ret => obtain rfl : e1 = .ret := k0; exact k
        | panic y => obtain ⟨v, rfl, _⟩ := k0; exact k
    | cond c x y =>
      simp only at h
      split at h
      · rename_i hc
        exact wpIn_cond_true (cnd_sound hs hT hc) (ih x T s ex T' s' h w M a Q hs hT hq)
      · rename_i hc
        exact wpIn_cond_false (cnd_sound hs hT hc) (ih y T s ex T' s' h w M a Q hs hT hq)
      · cases h
    | block id b =>
      simp only at h
      refine wpIn_block ?_
      split at h
      · rename_i i T1 s1 hb
        refine ih b T s _ T1 s1 hb w M a _ hs hT fun e1 a1 w1 M1 k0 k1 k2 k3 => ?_
        obtain rfl : e1 = .exit i := k0
        simp only [Exit.inBlock]
        split at h
        · rename_i e
          simp only [Option.some.injEq, Prod.mk.injEq] at h; obtain ⟨rfl, rfl, rfl⟩ := h
          rw [if_pos e]; exact hq _ a1 w1 M1 rfl k1 k2 k3
        · rename_i e
          simp only [Option.some.injEq, Prod.mk.injEq] at h; obtain ⟨rfl, rfl, rfl⟩ := h
          rw [if_neg e]; exact hq _ a1 w1 M1 rfl k1 k2 k3
      · rename_i hno
        refine ih b T s ex T' s' h w M a _ hs hT fun e1 a' w' M' k0 k1 k2 k3 => ?_
        have k := hq e1 a' w' M' k0 k1 k2 k3
        cases ex with
        | exit i => exact absurd h (hno i T' s')
        | normal => obtain rfl : e1 = .normal := k0; exact k
        | goto l => obtain rfl : e1 = .goto l := k0; exact k
        | ret => obtain rfl : e1 = .ret := k0; exact k
        | panic y => obtain ⟨v, rfl, _⟩ := k0; exact k
    | loop b => exact wpIn_loop_rounds (k + 1) (hloop b T s ex T' s' h0 w M a Q hs hT hq)
    | scope b =>
      simp only at h
      split at h
      · cases h
      · rename_i hrb
        have hn := hro (by simpa using hrb)
        subst hn
        exact wp_scope_rounds k (scope_sound ih h w M a Q hs hT hq)
    | rangeFunc f ps asg body =>
      simp only at h
      split at h
      · cases h
      · rename_i hc
        simp only [Bool.or_eq_true, Bool.not_eq_true', not_or, Bool.not_eq_true, Bool.not_eq_false] at hc
        obtain ⟨hrb, hle⟩ := hc
        have hle := Nat.le_of_ble_eq_true hle
        have hn := hro hrb
        subst hn
        split at h
        · rename_i g first captured hf
          split at h
          · rename_i r3 s3 hcl
            split at h
            · rename_i T1 ps1 asg1 body1 st pend hg3
              split at h
              · cases h
              · rename_i hnb
                exact range_sound hP hcall hs hT hle hf hcl hg3 (by simpa using hnb) (fun a' w' M' k1 k2 k3 => by
                  cases pend with
                  | none =>
                    simp only [Option.some.injEq, Prod.mk.injEq] at h
                    obtain ⟨rfl, rfl, rfl⟩ := h
                    exact hq _ a' w' M' rfl k1 k2 k3
                  | some c => exact ih c _ _ ex T' s' h w' M' a' Q k2 k1 fun e a2 w2 M2 j0 j1 j2 j3 => hq e a2 w2 M2 j0 j1 j2 (k3.trans j3))
            · cases h
          · cases h
        · cases h
    | refuse _ => cases h

/-! ### Functions -/
theorem initF_get : ∀ (l : List AV) (i t : Nat), i + l.length ≤ Tr.lid → (initF l i).get t = if t < i then none else l[t - i]?
  | [], i, t, h => by simp [initF, Tr.get]
  | x :: r, i, t, h => by
    simp only [List.length_cons] at h
    rw [initF, Tr.get_set _ _ _ _ (by omega), initF_get r (i + 1) t (by omega)]
    by_cases e : t = i
    · subst e; rw [if_pos rfl, if_neg (by omega)]; simp
    · rw [if_neg e]
      by_cases e2 : t < i
      · rw [if_pos (by omega), if_pos e2]
      · rw [if_neg (by omega), if_neg e2, show t - i = (t - (i + 1)) + 1 by omega, List.getElem?_cons_succ]
theorem initT_sound {args : List AV} {vs : Array Value} (n : Nat) (hl : args.length + n ≤ Tr.lid) (hv : VRl w s M args vs.toList) : TmR w s M (initT args n) { tmps := vs ++ Array.replicate (n - vs.size) undef, defers := [] } := by
  have hlen := hv.length
  simp only [Array.length_toList] at hlen
  refine ⟨by simp [initT, hlen], fun t => ?_, ⟨[], rfl, rfl⟩, fun d hd => by cases hd⟩
  have e1 : gt (initT args n) t = (args[t]?).getD und := by
    unfold gt initT
    simp only
    rw [initF_get args 0 t (by omega)]
    simp
  rw [e1, Array.getD_eq_getD_getElem?]
  rcases hv.get t with ⟨h1, h2⟩ | ⟨c, v, h1, h2, h3⟩
  · rw [h1]
    rw [Array.getElem?_toList] at h2
    have hge : vs.size ≤ t := Array.getElem?_eq_none_iff.1 h2
    rw [Array.getElem?_append_right hge]
    by_cases hr : t - vs.size < n - vs.size
    · simp [hr]; exact VR_und
    · simp [hr]; exact VR_und
  · rw [h1]
    rw [Array.getElem?_toList] at h2
    have hlt : t < vs.size := (Array.getElem?_eq_some_iff.1 h2).1
    rw [Array.getElem?_append_left hlt, h2]
    exact h3

def rget (tmps : Array Value) : ResultVar → Sem Value
  | .tmp t => pure (tmps.getD t undef)
  | .cell q t => do loadVar t (← asAddr (tmps.getD q undef))
theorem resultsA_sound (hs : Sim G B0 w0 w s M) {T : Tm} {a : Act} (hT : TmR w s M T a) : ∀ {rs : List ResultVar} {cs : List AV}, resultsA P T s rs = some cs →
    ∃ vs, (rs.mapM (rget a.tmps)).run P w = .ok vs w ∧ VRl w s M cs vs
  | [], cs, h => by simp only [resultsA, Option.some.injEq] at h; subst h; exact ⟨[], rfl, VRl_nil⟩
  | r :: rs, cs, h => by
    simp only [resultsA, Option.bind_eq_bind, Option.bind_eq_some_iff, Option.pure_def, Option.some.injEq] at h
    obtain ⟨c, h1, d, h2, rfl⟩ := h
    obtain ⟨vs, k1, k2⟩ := resultsA_sound hs hT h2
    rw [List.mapM_cons]
    cases r with
    | tmp t =>
      simp only [resultA, Option.some.injEq] at h1
      subst h1
      refine ⟨a.tmps.getD t undef :: vs, ?_, VRl_cons (hT.get t) k2⟩
      simp only [Sem.run_bind, rget, Sem.run_pure, Result.andThen_ok, k1]
    | cell q t =>
      simp only [resultA] at h1
      split at h1
      · rename_i b off hq
        split at h1
        · rename_i cc _ hg
          have hv := hT.get q
          rw [hq] at hv
          unfold VR at hv
          obtain ⟨hb, e⟩ := hv
          obtain ⟨us, el, fr, g1, g2, _⟩ := hs.obj b _ hb hg
          have ha := (at_block g1).take cc.length |>.drop off
          rw [Nat.zero_add] at ha
          obtain ⟨v, hr, hv⟩ := run_loadVar (P := P) (g2.drop off) ha h1
          refine ⟨v :: vs, ?_, VRl_cons hv k2⟩
          simp only [Sem.run_bind, rget, e, asAddr, Sem.run_pure, Result.andThen_ok, hr, k1]
        · cases h1
      · cases h1

theorem results_sound (hs : Sim G B0 w0 w s M) {T : Tm} {a : Act} (hT : TmR w s M T a) {fn : Func} {cs : List AV} (h : resultsA P T s fn.results.toList = some cs) :
    ∃ v, (results fn a.tmps).run P w = .ok v w ∧ VR w s M (match cs with | [x] => x | xs => .tup xs) v := by
  obtain ⟨vs, h1, h2⟩ := resultsA_sound hs hT h
  refine ⟨if h : vs.toArray.size = 1 then vs.toArray[0] else .tuple vs.toArray, ?_, ?_⟩
  · have hr : results fn a.tmps = (do let vs ← fn.results.mapM (rget a.tmps); pure (if h : vs.size = 1 then vs[0] else .tuple vs)) := by
      unfold results
      congr 1
    rw [hr, Array.mapM_eq_mapM_toList]
    simp only [Sem.run_bind, Sem.run_map, h1, Result.andThen_ok, Sem.run_pure]
  · have hl := h2.length
    match cs, vs, h2 with
    | [], [], h2 => exact VR_tup h2
    | [x], [v], h2 => unfold VRl at h2; obtain ⟨v', t, e, k1, _⟩ := h2; cases e; exact k1
    | x :: y :: r, v :: u :: t, h2 => exact VR_tup h2
    | [], _ :: _, h2 => simp at hl
    | [_], [], h2 => simp at hl
    | [_], _ :: _ :: _, h2 => simp at hl
    | _ :: _ :: _, [], h2 => simp at hl
    | _ :: _ :: _, [_], h2 => simp at hl

theorem fold_params : ∀ {ps : List Nat} {T T1 : Tm} {xs : List AV} {vs : List Value} {tm : Array Value}, putAll T ps xs = some T1 → ps.length = xs.length → VRl w s M xs vs → tm.size = T.n → (∀ t, VR w s M (gt T t) (tm.getD t undef)) →
    ((ps.zip vs).foldl (fun (tmps : Array Value) (p : Nat × Value) => tmps.setIfInBounds p.1 p.2) tm).size = T1.n ∧ (∀ t, VR w s M (gt T1 t) (((ps.zip vs).foldl (fun (tmps : Array Value) (p : Nat × Value) => tmps.setIfInBounds p.1 p.2) tm).getD t undef)) ∧ T1.ds = T.ds ∧ T1.dl = T.dl
  | [], T, T1, xs, vs, tm, h, hl, hv, h1, h2 => by simp only [putAll, Option.some.injEq] at h; subst h; exact ⟨h1, h2, rfl, rfl⟩
  | p :: ps, T, T1, [], vs, tm, h, hl, hv, h1, h2 => by simp at hl
  | p :: ps, T, T1, x :: xs, vs, tm, h, hl, hv, h1, h2 => by
    unfold VRl at hv
    obtain ⟨v, t, rfl, k1, k2⟩ := hv
    simp only [putAll, Option.bind_eq_some_iff] at h
    obtain ⟨T', hp, h⟩ := h
    have hR : TmR w s M { T with ds := [], dl := [] } { tmps := tm, defers := [] } := ⟨h1, h2, ⟨[], rfl, rfl⟩, fun d hd => by cases hd⟩
    have hp' : putT { T with ds := [], dl := [] } (some p) x = some { T' with ds := [], dl := [] } := by
      simp only [putT] at hp ⊢
      split at hp
      · rename_i hb; rw [if_pos hb]; simp only [Option.some.injEq] at hp; subst hp; rfl
      · cases hp
    have hds : T'.ds = T.ds ∧ T'.dl = T.dl := by
      simp only [putT] at hp
      split at hp
      · simp only [Option.some.injEq] at hp; subst hp; exact ⟨rfl, rfl⟩
      · cases hp
    have hR' := hR.put hp' k1
    simp only [List.zip_cons_cons, List.foldl_cons]
    obtain ⟨r1, r2, r3⟩ := fold_params (T := T') (T1 := T1) (tm := tm.setIfInBounds p v) h (by simpa using hl) k2 hR'.size hR'.get
    exact ⟨r1, r2, r3.1.trans hds.1, r3.2.trans hds.2⟩

theorem leaves_marks {fn : Func} {tmps : Array Value} {R : Ending → World → Prop} {dv : List Deferred} : ∀ {ds : List Nat} {s s' : St} {w : World}, killAll s ds = some s' → Sim G B0 w0 w s M → (∀ d, d ∈ ds → d < s.n) →
    (∀ w', Sim G B0 w0 w' s' M → Ext w s M w' s' M → LeavesInM (FW none) 0 P fn tmps R dv .returning w') → LeavesInM (FW none) 0 P fn tmps R ((ds.map fun d => ({ target := .collected (M.blk d), args := #[] } : Deferred)) ++ dv) .returning w
  | [], s, s', w, h, hs, hd, hr => by
    simp only [killAll, Option.some.injEq] at h; subst h
    exact hr w hs (Ext.refl _ _ _)
  | d :: r, s, s', w, h, hs, hd, hr => by
    unfold killAll at h
    split at h
    · rename_i hg
      have hdl := hd d (by simp)
      have ho := hs.obj d _ hdl hg
      have hlt := (hs.blk d hdl).2
      have htl : d < Tr.lid := Nat.lt_of_lt_of_le hdl hs.bound
      have h2 : ∀ k, k ≠ M.blk d → (w.putObj (M.blk d) (.deferred none)).heap[k]? = w.heap[k]? := fun k hk => World.putObj_heap_other hk
      have hE1 : Ext w s M w (s.put d .dead) M := ext_kill d htl
      have hs1 := sim_kill hs d hdl
      -- the block is free: it is written
      have hE2 : Ext w s M (w.putObj (M.blk d) (.deferred none)) (s.put d .dead) M := by
        refine ⟨fun b off v hc hi => ?_, Nat.le_refl _, fun _ _ => ⟨rfl, rfl⟩, hE1.rows, ⟨by simp [World.putObj], fun b _ hno => h2 b fun e => hno d _ hdl hg trivial e.symm, hE1.frm.old⟩, hE1.keep⟩
        have hne : b ≠ M.blk d := fun e => by
          subst e
          have hc' := hc
          rw [World.cell?, show w.heap[M.blk d]? = _ from ho] at hc'
          cases hc'
        exact ⟨(World.cell?_of_block (w := w) (h2 b hne)).trans hc, (hE1.cells b off v hc hi).2⟩
      have hs2 : Sim G B0 w0 (w.putObj (M.blk d) (.deferred none)) (s.put d .dead) M := by
        refine ⟨hs.below.trans ⟨rfl, rfl, rfl, by simp [World.putObj], fun k hk => h2 k (by have := (hs.blk d hdl).1; omega)⟩, hs.size, hs.bound, fun i hi => by simpa [World.putObj] using hs.blk i hi, hs1.inj, fun i o hi hgi => ?_, fun g cs hgl => (hs.glob g cs hgl).ext hE2, hs.fx, hs.out⟩
        rw [St.get_put _ _ _ _ htl] at hgi
        by_cases e : i = d
        · rw [if_pos e] at hgi; cases hgi; trivial
        · rw [if_neg e] at hgi
          have ho' := hs.obj i o hi hgi
          cases o with
          | dead => trivial
          | box cs =>
            have hne : M.blk i ≠ M.blk d := fun e' => e (hs.inj i d _ _ hi hdl hgi hg trivial trivial e')
            obtain ⟨c, e', fr, a1, a2, a3⟩ := ho'; exact ⟨c, e', fr, (h2 _ hne).trans a1, a2.ext hE2, a3⟩
          | fz cs =>
            have hne : M.blk i ≠ M.blk d := fun e' => e (hs.inj i d _ _ hi hdl hgi hg trivial trivial e')
            obtain ⟨c, e', fr, a1, a2, a3⟩ := ho'; exact ⟨c, e', fr, (h2 _ hne).trans a1, a2.ext hE2, a3⟩
          | row tip esz =>
            have hne : M.blk i ≠ M.blk d := fun e' => e (hs.inj i d _ _ hi hdl hgi hg trivial trivial e')
            obtain ⟨c, e', fr, a1, a2⟩ := ho'; exact ⟨c, e', fr, (h2 _ hne).trans a1, a2⟩
          | map es =>
            have hne : M.blk i ≠ M.blk d := fun e' => e (hs.inj i d _ _ hi hdl hgi hg trivial trivial e')
            obtain ⟨c, k, a1, a2⟩ := ho'; exact ⟨c, k, (h2 _ hne).trans a1, a2.ext hE2⟩
          | loop T ps asg body st pend =>
            have hne : M.blk i ≠ M.blk d := fun e' => e (hs.inj i d _ _ hi hdl hgi hg trivial trivial e')
            obtain ⟨rc, a1, a2, a3, a4, a5, a6, a7, a8⟩ := ho'; exact ⟨rc, (h2 _ hne).trans a1, a2, a3, a4, a5, a6, a7, fun t => (a8 t).ext hE2⟩
          | sym k =>
            have hne : M.blk i ≠ M.blk d := fun e' => e (hs.inj i d _ _ hi hdl hgi hg trivial trivial e')
            show SymR _ _ _ _; rw [h2 _ hne]; exact ho'
          | defs =>
            have hne : M.blk i ≠ M.blk d := fun e' => e (hs.inj i d _ _ hi hdl hgi hg trivial trivial e')
            exact (h2 _ hne).trans ho'
      refine ⟨by simp, .inl ⟨M.blk d, w.putObj (M.blk d) (.deferred none), rfl, run_takeDeferred ho, ?_⟩⟩
      exact leaves_marks h hs2 (fun q hq => hd q (by simp [hq])) fun w' k1 k2 => hr w' k1 (hE2.trans k2)
    · cases h

theorem leavesInM_mono {F : Fence} {n : Nat} {fn : Func} {tmps : Array Value} {R R' : Ending → World → Prop} (hr : ∀ e w, R e w → R' e w) : ∀ {ds : List Deferred} {u : FrameMode} {w : World}, LeavesInM F n P fn tmps R ds u w → LeavesInM F n P fn tmps R' ds u w
  | [], u, w, h => by
    cases u with
    | run => exact h.elim
    | returning => obtain ⟨v, h1, h2⟩ := h; exact ⟨v, h1, hr _ _ h2⟩
    | panicking ch => exact hr _ _ h
  | d :: ds, u, w, h => by
    obtain ⟨hu, h⟩ := h
    refine ⟨hu, ?_⟩
    rcases h with ⟨r, w', h1, h2, h3⟩ | ⟨hn, fv, cap, f, args, h1, h2, h3, h4⟩
    · exact .inl ⟨r, w', h1, h2, leavesInM_mono hr h3⟩
    · refine .inr ⟨hn, fv, cap, f, args, h1, h2, h3, h4.mono fun e u' w' k => ?_⟩
      cases e with
      | returned v => exact leavesInM_mono hr k
      | panicked ch => exact leavesInM_mono hr k
      | outgrown => exact hr _ _ k

/-- What panics as a deferred call begins. -/
def PRm (w : World) (s : St) (M : Mp) (p : Option AV) (u : FrameMode) : Prop :=
  match p with
  | none => u = .returning
  | some y => ∃ v, u = .panicking [{ v, recovered := false }] ∧ VR w s M y v
theorem PRm.ext {w w' : World} {s s' : St} {M M' : Mp} (e : Ext w s M w' s' M') {p : Option AV} {u : FrameMode} (h : PRm w s M p u) : PRm w' s' M' p u := by
  cases p with
  | none => exact h
  | some y => obtain ⟨v, h1, h2⟩ := h; exact ⟨v, h1, h2.ext e⟩

theorem moves_sound (hs : Sim G B0 w0 w s M) {ops : Array Oper} {Q : Exit → Act → List Frame → World → Prop} {cs : List Frame} : ∀ {l : List Nat} {T T' : Tm} {a : Act}, evMoves G ops l T = some T' → TmR w s M T a → (∀ a', TmR w s M T' a' → Q .normal a' cs w) → wpOpsSIn (FW none) 0 P ops Q l a cs w
  | [], T, T', a, h, hT, hq => by
    simp only [evMoves, Option.some.injEq] at h; subst h
    exact hq a hT
  | i :: rest, T, T', a, h, hT, hq => by
    unfold evMoves at h
    unfold wpOpsSIn
    cases hfo : fetch ops T i with
    | none => rw [hfo] at h; cases h
    | some o =>
      obtain ⟨ho, hgk⟩ := fetch_some hfo
      rw [hfo] at h
      rw [ho]
      simp only at h ⊢
      have hy : Region.wanted o (yielded ops a.tmps) = Region.wanted o (yieldedA ops T) := yielded_eq hT hgk
      refine ⟨fun _ _ => trivial, ?_⟩
      rw [hy]
      split at h
      · rename_i hw
        rw [if_pos hw]
        have go : ∀ x, (∀ y, (execOp a.eval o).run P w = .ok (.value y) w → a.eval x = y → True) → (execOp a.eval o).run P w = .ok (.value (a.eval x)) w → (match opd G T x with
            | some a => match putT T o.dst a with
              | some T' => evMoves G ops rest T'
              | none => none
            | none => none) = some T' → (match (execOp a.eval o).run P w with
        | .ok .recover w' =>
          match recoverD cs with
          | some (v, cs') => wpOpsSIn (FW none) 0 P ops Q rest (a.put o.dst v) cs' w'
          | none => wpOpsSIn (FW none) 0 P ops Q rest (a.put o.dst .nilIface) cs w'
        | .ok (.value v) w' => wpOpsSIn (FW none) 0 P ops Q rest (a.put o.dst v) cs w'
        | .ok .skip w' => wpOpsSIn (FW none) 0 P ops Q rest (a.put o.dst undef) cs w'
        | .halt (.panic v) w' => Q (.panic [{ v, recovered := false }]) a cs w'
        | _ => False) := by
          intro x _ hr hx
          rw [hr]
          split at hx
          · rename_i c hc
            split at hx
            · rename_i T1 hp
              exact moves_sound hs hx (hT.put hp (opd_sound hs hT hc)) hq
            · cases hx
          · cases hx
        split at h
        · rename_i x hop
          exact go x (fun _ _ _ => trivial) (by simp [execOp, hop]) h
        · rename_i x hop
          exact go x (fun _ _ _ => trivial) (by simp [execOp, hop]) h
        · cases h
      · cases h

theorem leaves_dl {run : Code → Tm → St → Option (Ex × Tm × St)} (hP : NoNum P) (hrun : Goes P G B0 w0 none run) {fn : Func} {tmps : Array Value} {R : Ending → World → Prop} : ∀ {dl : List (Nat × List AV × List AV)} {p p' : Option AV} {s s' : St} {w : World} {M : Mp} {dv : List Deferred} {u : FrameMode}, runDefs P G run dl p s = some (p', s') → DLr w s M dl dv → Sim G B0 w0 w s M → PRm w s M p u →
    (∀ w' M' u', Sim G B0 w0 w' s' M' → Ext w s M w' s' M' → PRm w' s' M' p' u' → LeavesInM (FW none) 0 P fn tmps R [] u' w') → LeavesInM (FW none) 0 P fn tmps R dv u w
  | [], p, p', s, s', w, M, dv, u, h, hd, hs, hp, hq => by
    simp only [runDefs, Option.some.injEq, Prod.mk.injEq] at h
    obtain ⟨rfl, rfl⟩ := h
    have : dv = [] := hd
    subst this
    exact hq w M u hs (Ext.refl _ _ _) hp
  | (g, xs, ys) :: r, p, p', s, s', w, M, dv, u, h, hd, hs, hp, hq => by
    obtain ⟨args, cap, t, rfl, hx, hy, hd⟩ := hd
    unfold runDefs at h
    split at h
    · rename_i s1 h1
      have hrunm : u ≠ .run := by
        cases p with
        | none => have : u = .returning := hp; rw [this]; exact fun e => by cases e
        | some y => obtain ⟨v, e, _⟩ := hp; rw [e]; exact fun e => by cases e
      unfold evDef at h1
      split at h1
      · cases h1
      · rename_i fg hfg
        split at h1
        · rename_i id ops c hbody
          split at h1
          · cases h1
          · rename_i o ho
            dsimp only at h1
            split at h1
            · cases h1
            · rename_i hc
              simp only [Bool.or_eq_true, Bool.not_eq_true', not_or, Bool.not_eq_false] at hc
              obtain ⟨⟨⟨hle, hgw⟩, hrec⟩, hres⟩ := hc
              rw [Bool.and_eq_true] at hgw
              obtain ⟨hgk, hw⟩ := hgw
              have hle := Nat.le_of_ble_eq_true hle
              have hvl : VRl w s M (xs ++ ys) (args ++ cap).toList := by rw [Array.toList_append]; exact hx.append hy
              have hT := initT_sound (w := w) (s := s) (M := M) fg.ntmps hle hvl
              split at h1
              · cases h1
              · rename_i T1 hp1
                split at h1
                · cases h1
                · rename_i T2 hp2
                  have hfin : ∃ ex T3, run c T2 s = some (ex, T3, s1) ∧ (ex = .normal ∨ ex = .ret) ∧ T3.ds = [] ∧ T3.dl = [] := by
                    split at h1
                    · rename_i T3 s3 hr
                      split at h1
                      · rename_i he
                        rw [Bool.and_eq_true, List.isEmpty_iff, List.isEmpty_iff] at he
                        cases h1
                        exact ⟨_, _, hr, .inl rfl, he.1, he.2⟩
                      · cases h1
                    · rename_i T3 s3 hr
                      split at h1
                      · rename_i he
                        rw [Bool.and_eq_true, List.isEmpty_iff, List.isEmpty_iff] at he
                        cases h1
                        exact ⟨_, _, hr, .inr rfl, he.1, he.2⟩
                      · cases h1
                    · cases h1
                  obtain ⟨ex, T3, hr3, hex, hds3, hdl3⟩ := hfin
                  have hnum : (callFunc g (args ++ cap)).run P w = .ok (.enter g (args ++ cap)) w := by
                    unfold callFunc
                    have hn' : ¬ fg.name = "runtime.NumGoroutine" := by simpa using hP g fg hfg
                    simp [hfg, hn', hbody]
                  refine ⟨hrunm, .inr ⟨fun h => (by cases h), _, cap, g, args ++ cap, rfl, hnum, fun _ _ => trivial, ?_⟩⟩
                  refine callsDIn_of_wpSIn hfg hbody trivial fun c₀ cs hu => ?_
                  refine wpSIn_seq (wpSIn_region ?_)
                  have hsz : 0 < ops.size := by
                    rcases Nat.eq_zero_or_pos ops.size with e | e
                    · rw [Array.getElem?_eq_none (by omega)] at ho; cases ho
                    · exact e
                  have hrange : List.range ops.size = 0 :: (List.range ops.size).drop 1 := by
                    obtain ⟨k, hk⟩ : ∃ k, ops.size = k + 1 := ⟨ops.size - 1, by omega⟩
                    rw [hk, List.range_succ_eq_map]
                    rfl
                  rw [hrange]
                  unfold wpOpsSIn
                  rw [ho]
                  simp only
                  refine ⟨fun _ _ => trivial, ?_⟩
                  have hyl : Region.wanted o (yielded ops (args ++ cap ++ Array.replicate (fg.ntmps - (args ++ cap).size) undef)) = Region.wanted o (yieldedA ops (initT (xs ++ ys) fg.ntmps)) := by
                    exact yielded_eq hT hgk
                  rw [hyl, if_pos hw]
                  have hex0 : ∀ ρ : Operand → Value, (execOp ρ o).run P w = .ok .recover w := by
                    intro ρ
                    unfold isRecover at hrec
                    split at hrec
                    · rename_i c0 hop
                      split at hrec
                      · rename_i hcal
                        simp [execOp, hop, resolve, hcal, invoke, builtin]
                      · cases hrec
                    · cases hrec
                  rw [hex0]
                  simp only
                  -- what is recovered
                  have key : ∃ (v : Value) (u1 : FrameMode), settle u1 = .returning ∧ VR w s M (p.getD (.v .nilIface)) v ∧
                      ∀ (F : List Frame → Value → Prop), F ({ c₀ with mode := u1 } :: cs) v → (match recoverD (c₀ :: cs) with
                        | some (v, cs') => F cs' v
                        | none => F (c₀ :: cs) .nilIface) := by
                    cases p with
                    | none =>
                      have e : u = .returning := hp
                      rw [e] at hu
                      refine ⟨.nilIface, .returning, rfl, VR_v_of rfl, fun F hF => ?_⟩
                      have e1 : recoverD (c₀ :: cs) = none := by simp [recoverD, hu]
                      have e2 : ({ c₀ with mode := .returning } : Frame) = c₀ := by rw [← hu]
                      rw [e1]
                      rw [e2] at hF
                      exact hF
                    | some y =>
                      obtain ⟨v, e, hv⟩ := hp
                      rw [e] at hu
                      refine ⟨v, .panicking [{ v, recovered := true }], rfl, hv, fun F hF => ?_⟩
                      have e1 : recoverD (c₀ :: cs) = some (v, { c₀ with mode := .panicking [{ v, recovered := true }] } :: cs) := by simp [recoverD, hu]
                      rw [e1]
                      exact hF
                  obtain ⟨v, u1, hset, hv, key⟩ := key
                  refine key (fun cs' v => wpOpsSIn (FW none) 0 P ops _ ((List.range ops.size).drop 1) (Act.put _ o.dst v) cs' w) ?_
                  refine moves_sound hs hp2 (hT.put hp1 hv) fun a2 hT2 => ?_
                  refine wpSIn_of_wpIn rfl ?_
                  refine hrun c T2 s ex T3 s1 hr3 w M a2 _ hs hT2 fun e a3 w3 M3 k0 k1 k2 k3 => ?_
                  have hdef : a3.defers = [] := by
                    obtain ⟨dv3, q1, q2⟩ := k1.defers
                    rw [hdl3] at q1
                    have : dv3 = [] := q1
                    rw [q2, hds3, this]; rfl
                  have hre : resultsA P T3 s1 fg.results.toList = some [] := by
                    have : fg.results = #[] := by simpa using hres
                    rw [this]; rfl
                  obtain ⟨v3, g1, _⟩ := results_sound k2 k1 hre
                  have hnext : LeavesInM (FW none) 0 P fn tmps R t (settle u1) w3 := by
                    rw [hset]
                    exact leaves_dl hP hrun h (hd.ext k3) k2 (p := none) rfl fun w' M' u' j1 j2 j3 => hq w' M' u' j1 (k3.trans j2) j3
                  rcases hex with rfl | rfl
                  · obtain rfl : e = .normal := k0
                    exact ⟨hdef, u1, rfl, v3, g1, hnext⟩
                  · obtain rfl : e = .ret := k0
                    exact ⟨hdef, u1, rfl, v3, g1, hnext⟩
        · cases h1
    · split at h
      · rename_i s1 h1
        have hrunm : u ≠ .run := by
          cases p with
          | none => have : u = .returning := hp; rw [this]; exact fun e => by cases e
          | some y => obtain ⟨v, e, _⟩ := hp; rw [e]; exact fun e => by cases e
        unfold evDefPlain at h1
        split at h1
        · cases h1
        · rename_i fg hfg
          split at h1
          · cases h1
          · rename_i c hbody
            split at h1
            · cases h1
            · rename_i hc
              simp only [Bool.or_eq_true, Bool.not_eq_true', not_or, Bool.not_eq_false] at hc
              obtain ⟨hle, hres⟩ := hc
              have hle := Nat.le_of_ble_eq_true hle
              have hvl : VRl w s M (xs ++ ys) (args ++ cap).toList := by rw [Array.toList_append]; exact hx.append hy
              have hT := initT_sound (w := w) (s := s) (M := M) fg.ntmps hle hvl
              have hfin : ∃ ex T3, run c (initT (xs ++ ys) fg.ntmps) s = some (ex, T3, s1) ∧ (ex = .normal ∨ ex = .ret) ∧ T3.ds = [] ∧ T3.dl = [] := by
                split at h1
                · rename_i T3 s3 hr
                  split at h1
                  · rename_i he
                    rw [Bool.and_eq_true, List.isEmpty_iff, List.isEmpty_iff] at he
                    cases h1
                    exact ⟨_, _, hr, .inl rfl, he.1, he.2⟩
                  · cases h1
                · rename_i T3 s3 hr
                  split at h1
                  · rename_i he
                    rw [Bool.and_eq_true, List.isEmpty_iff, List.isEmpty_iff] at he
                    cases h1
                    exact ⟨_, _, hr, .inr rfl, he.1, he.2⟩
                  · cases h1
                · cases h1
              obtain ⟨ex, T3, hr3, hex, hds3, hdl3⟩ := hfin
              have hnum : (callFunc g (args ++ cap)).run P w = .ok (.enter g (args ++ cap)) w := by
                unfold callFunc
                have hn' : ¬ fg.name = "runtime.NumGoroutine" := by simpa using hP g fg hfg
                simp [hfg, hn', hbody]
              refine ⟨hrunm, .inr ⟨fun h => (by cases h), _, cap, g, args ++ cap, rfl, hnum, fun _ _ => trivial, ?_⟩⟩
              refine callsDIn_of_wpSIn hfg hbody trivial fun c₀ cs hu => ?_
              refine wpSIn_of_wpIn rfl ?_
              refine hrun c (initT (xs ++ ys) fg.ntmps) s ex T3 s1 hr3 w M _ _ hs hT fun e a3 w3 M3 k0 k1 k2 k3 => ?_
              have hdef : a3.defers = [] := by
                obtain ⟨dv3, q1, q2⟩ := k1.defers
                rw [hdl3] at q1
                have : dv3 = [] := q1
                rw [q2, hds3, this]; rfl
              have hre : resultsA P T3 s1 fg.results.toList = some [] := by
                have : fg.results = #[] := by simpa using hres
                rw [this]; rfl
              obtain ⟨v3, g1, _⟩ := results_sound k2 k1 hre
              have hset : settle u = u := by
                cases p with
                | none => have : u = .returning := hp; rw [this]; rfl
                | some y => obtain ⟨v, e, _⟩ := hp; rw [e]; rfl
              have hnext : LeavesInM (FW none) 0 P fn tmps R t (settle u) w3 := by
                rw [hset]
                exact leaves_dl hP hrun h (hd.ext k3) k2 (p := p) (PRm.ext k3 hp) fun w' M' u' j1 j2 j3 => hq w' M' u' j1 (k3.trans j2) j3
              rcases hex with rfl | rfl
              · obtain rfl : e = .normal := k0
                exact ⟨hdef, u, by rw [← hu], v3, g1, hnext⟩
              · obtain rfl : e = .ret := k0
                exact ⟨hdef, u, by rw [← hu], v3, g1, hnext⟩
      · cases h

theorem fin_sound {run : Code → Tm → St → Option (Ex × Tm × St)} (hP : NoNum P) (hrun : Goes P G B0 w0 none run) {fn : Func} {T : Tm} {p : Option AV} {s s' : St} {r : AV} {w : World} {M : Mp} {a : Act} {dv : List Deferred} {u : FrameMode} (h : finA P G run fn T p s = some (r, s'))
    (hd : DLr w s M T.dl dv) (hs : Sim G B0 w0 w s M) (hT : TmR w s M T a) (hp : PRm w s M p u) : LeavesInM (FW none) 0 P fn a.tmps (Done G B0 w0 w s M r s') dv u w := by
  unfold finA at h
  split at h
  · rename_i s1 hr
    refine leaves_dl hP hrun hr hd hs hp fun w' M' u' k1 k2 k3 => ?_
    have : u' = .returning := k3
    subst this
    have hT2 := hT.ext k2
    split at h
    · rename_i x hx
      cases h
      obtain ⟨v, g1, g2⟩ := results_sound k1 hT2 hx
      exact ⟨v, g1, M', .inl ⟨v, rfl, g2⟩, k1, k2⟩
    · rename_i xs hno hx
      cases h
      obtain ⟨v, g1, g2⟩ := results_sound k1 hT2 hx
      refine ⟨v, g1, M', .inl ⟨v, rfl, ?_⟩, k1, k2⟩
      revert g2
      split
      · exact fun _ => absurd rfl (hno _)
      · exact fun g => g
    · cases h
  · rename_i y s1 hr
    cases h
    refine leaves_dl hP hrun hr hd hs hp fun w' M' u' k1 k2 k3 => ?_
    obtain ⟨v, rfl, hv⟩ := k3
    exact ⟨M', .inr ⟨y, v, rfl, rfl, hv⟩, k1, k2⟩
  · cases h

theorem fn_sound {mu : Nat → Bool} {D : Ab.Call → Drawn} {orc : Ab.Call} (hP : NoNum P) (K : Nat) (horc : CallOk P G B0 w0 orc) (hD : ∀ call, CallOk P G B0 w0 call → DrawnOk P G B0 w0 (D call)) : ∀ k, CallOk P G B0 w0 (evFn P G mu D K orc k)
  | 0 => fun fr args s r s' h => by cases h
  | k + 1 => fun fr args s r s' h w M vs hs hv => by
    unfold evFn at h
    split at h
    · rename_i q ho
      cases h
      exact horc fr args s r s' ho w M vs hs hv
    · have ih := fn_sound (mu := mu) hP K horc hD k
      unfold evBody at h
      split at h
      · -- a function
        rename_i f _
        split at h
        · cases h
        · rename_i fn hfn
          split at h
          · cases h
          · rename_i c hc
            split at h
            · cases h
            · rename_i hle
              simp only [Bool.not_eq_true', Bool.not_eq_false] at hle
              have hle := Nat.le_of_ble_eq_true hle
              have hT0 := initT_sound (w := w) (s := s) (M := M) fn.ntmps hle hv
              have hT : TmR w s M { initT args fn.ntmps with mu := (mu f, false) } { tmps := vs ++ Array.replicate (fn.ntmps - vs.size) undef, defers := [] } := ⟨hT0.size, hT0.get, hT0.defers, hT0.dlt⟩
              have hgo : Goes P G B0 w0 none (evCode P G D (evFn P G mu D K orc k) false K) := (code_sound hP ih (hD _ ih) (rb := false) (ro := none) (fun _ => rfl) K).1
              have lift : ∀ {s1 s2 : St} {w' w2 : World} {M' : Mp}, Ext w s M w' s1 M' → Ext w' s1 M' w2 s2 M' → ∀ e w3, Done G B0 w0 w2 s2 M' r s' e w3 → Done G B0 w0 w s M r s' e w3 := fun k3 j2 e w3 ⟨M3, q1, q2, q3⟩ => ⟨M3, q1, q2, (k3.trans j2).trans q3⟩
              have fin : ∀ {T1 : Tm} {s1 : St}, (match killAll s1 T1.ds with
                  | some s => finA P G (evCode P G D (evFn P G mu D K orc k) false K) fn T1 none s
                  | none => none) = some (r, s') → ∀ (a' : Act) (w' : World) (M' : Mp), TmR w' s1 M' T1 a' → Sim G B0 w0 w' s1 M' → Ext w s M w' s1 M' → LeavesInM (FW none) 0 P fn a'.tmps (Done G B0 w0 w s M r s') a'.defers .returning w' := by
                intro T1 s1 h a' w' M' k1 k2 k3
                split at h
                · rename_i s2 hk
                  obtain ⟨dv, q1, q2⟩ := k1.defers
                  rw [q2]
                  refine leaves_marks hk k2 k1.dlt fun w2 j1 j2 => ?_
                  exact leavesInM_mono (lift k3 j2) (fin_sound hP hgo h (q1.ext j2) j1 (k1.ext j2) rfl)
                · cases h
              refine callsIn_of_wp_marks hfn hc trivial ?_
              split at h
              · rename_i T1 s1 he
                refine hgo c _ s _ T1 s1 he w M _ _ hs hT fun e a' w' M' k0 k1 k2 k3 => ?_
                obtain rfl : e = .normal := k0
                exact fin h a' w' M' k1 k2 k3
              · rename_i T1 s1 he
                refine hgo c _ s _ T1 s1 he w M _ _ hs hT fun e a' w' M' k0 k1 k2 k3 => ?_
                obtain rfl : e = .ret := k0
                exact fin h a' w' M' k1 k2 k3
              · rename_i y T1 s1 he
                split at h
                · rename_i hds
                  refine hgo c _ s _ T1 s1 he w M _ _ hs hT fun e a' w' M' k0 k1 k2 k3 => ?_
                  obtain ⟨v, rfl, hv'⟩ := k0
                  obtain ⟨dv, q1, q2⟩ := k1.defers
                  rw [hds] at q2
                  show LeavesInM (FW none) 0 P fn a'.tmps _ a'.defers (.panicking [{ v, recovered := false }]) w'
                  rw [q2]
                  exact leavesInM_mono (lift k3 (Ext.refl _ _ _)) (fin_sound hP hgo h q1 k2 k1 ⟨v, rfl, hv'⟩)
                · cases h
              · cases h
      · -- a round
        rename_i l ho
        split at h
        · rename_i T ps asg body0 pend0 hg
          split at h
          · cases h
          · rename_i hlen
            simp only [Bool.or_eq_true, Bool.not_eq_true', not_or, Bool.not_eq_false] at hlen
            obtain ⟨hlen, hl⟩ := hlen
            have hlen := nbe hlen
            have hl : l < s.n := Nat.le_of_ble_eq_true hl
            split at h
            · cases h
            · rename_i T1 hput
              split at h
              · rename_i T2 s2 hasg
                split at h
                · rename_i Ta psa asga bodya penda hg2
                  split at h
                  · cases h
                  · rename_i ex T3 s4 hnp hbody
                    split at h
                    · rename_i Tb psb asgb bodyb stb pendb hg4
                      cases h
                      obtain ⟨rc, a1, a2, a3, a4, a5, a6, a7, a8⟩ := hs.obj l _ hl hg
                      have hvl := hv.length
                      simp only [Array.length_toList] at hvl
                      have hps : rc.params.size = ps.length := by rw [← a4]; simp
                      refine ⟨rc, hl, a1, by omega, roundIn_of_wpIn trivial ?_⟩
                      have hfold : (rc.params.zip vs).foldl (fun tmps (t, a) => tmps.setIfInBounds t a) rc.tmps = (ps.zip vs.toList).foldl (fun (tmps : Array Value) (p : Nat × Value) => tmps.setIfInBounds p.1 p.2) rc.tmps := by
                        rw [← Array.foldl_toList, Array.toList_zip, a4]
                      obtain ⟨r1, r2, r3⟩ := fold_params (w := w) (s := s) (M := M) (T := { T with ds := [], dl := [] }) (tm := rc.tmps) hput hlen hv a7 a8
                      rw [hfold]
                      have hT1 : TmR w s M T1 { tmps := (ps.zip vs.toList).foldl (fun (tmps : Array Value) (p : Nat × Value) => tmps.setIfInBounds p.1 p.2) rc.tmps, defers := [] } := ⟨r1, r2, ⟨[], by rw [r3.2]; rfl, by rw [r3.1]; rfl⟩, fun d hd => by rw [r3.1] at hd; cases hd⟩
                      subst a5 a6
                      have hn1 : (true : Bool) = false → (some (M.blk l) : Option Nat) = none := fun h => by cases h
                      refine (code_sound hP ih (hD _ ih) (rb := true) (ro := some (M.blk l)) hn1 K).1 _ T1 s _ T2 s2 hasg w M _ _ hs hT1 fun e1 a1 w1 M1 k0 k1 k2 k3 => ?_
                      obtain rfl : e1 = .normal := k0
                      -- the round begins
                      have hl1 : l < s2.n := Nat.lt_of_lt_of_le hl k3.n
                      have hm1 := (k3.map l hl).1
                      obtain ⟨rc1, b1, b2, b3, b4, b5, b6, b7, b8⟩ := k2.obj l _ hl1 hg2
                      obtain ⟨hs3, hE3⟩ := sim_loop (st' := .busy) (pend' := penda) k2 hl1 hg2 b1
                      have hrc1 : ({ rc1 with state := .busy, pending := penda } : Loop) = { rc1 with state := .busy } := by rw [← b3]
                      rw [hrc1] at hs3 hE3
                      rw [hm1] at b1 hs3 hE3
                      show ∃ w₂, (Instr.beginRound (M.blk l)).run P w1 = .ok () w₂ ∧ _
                      refine ⟨_, run_beginRound b1 b2, ?_⟩
                      have hTb := k1.ext hE3
                      refine (code_sound hP ih (hD _ ih) (rb := true) (ro := some (M.blk l)) hn1 K).1 _ T2 _ _ T3 s4 hbody _ M1 a1 _ hs3 hTb fun e3 a3 w3 M3 j0 j1 j2 j3 => ?_
                      have hl4 : l < s4.n := Nat.lt_of_lt_of_le (show l < (s2.put l _).n from hl1) j3.n
                      have hm4 := (j3.map l (show l < (s2.put l _).n from hl1)).1
                      obtain ⟨rc4, d1, d2, d3, _⟩ := j2.obj l _ hl4 hg4
                      obtain ⟨hs5, hE5⟩ := sim_loop (st' := if (jumpOf ex).isNone then .ready else .done) (pend' := jumpOf ex) j2 hl4 hg4 d1
                      rw [hm4, hm1] at d1 hs5 hE5
                      have hEall := (k3.trans hE3).trans (j3.trans hE5)
                      have hend : ∃ v w', (Instr.endRound (M.blk l) (jumpOf ex)).run P w3 = .ok v w' ∧ Done G B0 w0 w s M (.v (.bool (jumpOf ex).isNone)) (s4.put l (.loop Tb psb asgb bodyb (if (jumpOf ex).isNone then .ready else .done) (jumpOf ex))) (.returned v) w' :=
                        ⟨_, _, run_endRound (jumpOf ex) d1, M3, .inl ⟨_, rfl, VR_v_of rfl⟩, hs5, hEall⟩
                      cases ex with
                      | panic y => exact (hnp y rfl).elim
                      | normal => obtain rfl : e3 = .normal := j0; exact hend
                      | exit id => obtain rfl : e3 = .exit id := j0; exact hend
                      | goto l => obtain rfl : e3 = .goto l := j0; exact hend
                      | ret => obtain rfl : e3 = .ret := j0; exact hend
                    · cases h
                  · cases h
                · cases h
              · cases h
        · cases h
      · cases h
end
end Go.Ab
/- Regions whose order is drawn: any order that the edges allow comes to what the text's order comes to. -/
namespace Go.Ab
set_option linter.unusedVariables false
set_option linter.unusedSimpArgs false
set_option linter.unusedSectionVars false
set_option linter.constructorNameAsVariable false
open Go Go.RowKit

/-! ### Equality that is asked -/
def vEq : Value → Value → Bool
  | .bool a, .bool b => a == b
  | .int k a, .int l b => k == l && a == b
  | .float k a, .float l b => k == l && Nat.beq a b
  | .string a, .string b => a == b
  | .pointer none, .pointer none => true
  | .map none, .map none => true
  | .nilFunc, .nilFunc => true
  | .nilIface, .nilIface => true
  | .slice none a b, .slice none c d => Nat.beq a c && Nat.beq b d
  | _, _ => false
theorem vEq_eq {a b : Value} (h : vEq a b = true) : a = b := by
  unfold vEq at h
  split at h
  · simp at h; rw [h]
  · simp at h; rw [h.1, h.2]
  · rename_i k a l b
    rw [Bool.and_eq_true] at h; have h1 : k = l := by simpa using h.1
    rw [h1, nbe h.2]
  · rw [(ba_beq _ _).1 h]
  · rfl
  · rfl
  · rfl
  · rfl
  · rw [Bool.and_eq_true] at h; rw [nbe h.1, nbe h.2]
  · cases h
mutual
def aEq : AV → AV → Bool
  | .v a, .v b => vEq a b
  | .ref a, .ref b => lEq a b
  | .box a b, .box c d => Nat.beq a c && Nat.beq b d
  | .sl a n t, .sl b m u => Nat.beq n m && t == u && lEq a b
  | .ms a b c, .ms d e f => Nat.beq a d && Nat.beq b e && Nat.beq c f
  | .mg a c, .mg b d => Nat.beq a b && Nat.beq c d
  | .iface t x, .iface u y => Nat.beq t u && aEq x y
  | .e0, .e0 => true
  | .mp a, .mp b => Nat.beq a b
  | .fn f a b, .fn g c d => f == g && lEq a c && lEq b d
  | .agg a, .agg b => lEq a b
  | .tup a, .tup b => lEq a b
  | .x t a, .x u b => t == u && eEq a b
  | .d t a n, .d u b m => Nat.beq t u && n == m && eEq a b
  | .rd t a n, .rd u b m => Nat.beq t u && Nat.beq n m && eEq a b
  | _, _ => false
def lEq : List AV → List AV → Bool
  | [], [] => true
  | a :: r, b :: t => aEq a b && lEq r t
  | _, _ => false
end
mutual
theorem aEq_eq : ∀ {a b : AV}, aEq a b = true → a = b
  | .v a, b, h => by cases b <;> simp only [aEq, Bool.false_eq_true] at h; rw [vEq_eq h]
  | .ref a, b, h => by cases b <;> simp only [aEq, Bool.false_eq_true] at h; rw [lEq_eq h]
  | .box a c, b, h => by cases b <;> simp only [aEq, Bool.false_eq_true, Bool.and_eq_true] at h; rw [nbe h.1, nbe h.2]
  | .sl a n t, b, h => by cases b <;> simp only [aEq, Bool.false_eq_true, Bool.and_eq_true] at h; rw [nbe h.1.1, lEq_eq h.2, show t = _ by simpa using h.1.2]
  | .ms a c d, b, h => by cases b <;> simp only [aEq, Bool.false_eq_true, Bool.and_eq_true] at h; rw [nbe h.1.1, nbe h.1.2, nbe h.2]
  | .mg a c, b, h => by cases b <;> simp only [aEq, Bool.false_eq_true, Bool.and_eq_true] at h; rw [nbe h.1, nbe h.2]
  | .iface t x, b, h => by cases b <;> simp only [aEq, Bool.false_eq_true, Bool.and_eq_true] at h; rw [nbe h.1, aEq_eq h.2]
  | .pan x, b, h => by cases b <;> simp only [aEq, Bool.false_eq_true] at h
  | .e0, b, h => by cases b <;> simp only [aEq, Bool.false_eq_true] at h; rfl
  | .mp a, b, h => by cases b <;> simp only [aEq, Bool.false_eq_true] at h; rw [nbe h]
  | .fn f a c, b, h => by cases b <;> simp only [aEq, Bool.false_eq_true, Bool.and_eq_true] at h; rw [show f = _ by simpa using h.1.1, lEq_eq h.1.2, lEq_eq h.2]
  | .agg a, b, h => by cases b <;> simp only [aEq, Bool.false_eq_true] at h; rw [lEq_eq h]
  | .tup a, b, h => by cases b <;> simp only [aEq, Bool.false_eq_true] at h; rw [lEq_eq h]
  | .x t a, b, h => by cases b <;> simp only [aEq, Bool.false_eq_true, Bool.and_eq_true] at h; rw [show t = _ by simpa using h.1, eEq_eq h.2]
  | .d t a n, b, h => by cases b <;> simp only [aEq, Bool.false_eq_true, Bool.and_eq_true] at h; rw [nbe h.1.1, show n = _ by simpa using h.1.2, eEq_eq h.2]
  | .rd t a n, b, h => by cases b <;> simp only [aEq, Bool.false_eq_true, Bool.and_eq_true] at h; rw [nbe h.1.1, nbe h.1.2, eEq_eq h.2]
theorem lEq_eq : ∀ {a b : List AV}, lEq a b = true → a = b
  | [], b, h => by cases b <;> simp only [lEq, Bool.false_eq_true] at h; rfl
  | a :: r, b, h => by cases b <;> simp only [lEq, Bool.false_eq_true, Bool.and_eq_true] at h; rw [aEq_eq h.1, lEq_eq h.2]
end

/-! ### The order of a region's operations -/
def mask1 (acc : List Nat) (o : Oper) : Nat := o.after.toList.foldl (fun s e => bif Region.binds .any e then s ||| 2 ^ e.on ||| acc.getD e.on 0 else s) 0
def masksF : List Oper → List Nat → List Nat
  | [], acc => acc
  | o :: r, acc => masksF r (acc ++ [mask1 acc o])
def masks (ops : Array Oper) : List Nat := masksF ops.toList []

theorem masksF_spec : ∀ (l : List Oper) (acc : List Nat), (∀ k, k < acc.length → (masksF l acc)[k]? = acc[k]?) ∧
    ∀ k o, l[k]? = some o → (masksF l acc)[acc.length + k]? = some (mask1 ((masksF l acc).take (acc.length + k)) o)
  | [], acc => ⟨fun k _ => rfl, fun k o h => by simp at h⟩
  | o :: r, acc => by
    obtain ⟨h1, h2⟩ := masksF_spec r (acc ++ [mask1 acc o])
    refine ⟨fun k hk => ?_, fun k o' h => ?_⟩
    · show (masksF r (acc ++ [mask1 acc o]))[k]? = _
      rw [h1 k (by simp; omega), List.getElem?_append_left hk]
    · show (masksF r (acc ++ [mask1 acc o]))[acc.length + k]? = some (mask1 ((masksF r (acc ++ [mask1 acc o])).take _) o')
      cases k with
      | zero =>
        simp at h; subst h
        rw [Nat.add_zero, h1 acc.length (by simp), List.getElem?_append_right (Nat.le_refl _)]
        simp only [Nat.sub_self, List.getElem?_cons_zero]
        congr 2
        apply List.ext_getElem?
        intro j
        rw [List.getElem?_take]
        by_cases hj : j < acc.length
        · rw [if_pos hj, h1 j (by simp; omega), List.getElem?_append_left hj]
        · rw [if_neg hj, List.getElem?_eq_none (by omega)]
      | succ k =>
        have := h2 k o' (by simpa using h)
        rw [List.length_append] at this
        simp only [List.length_cons, List.length_nil] at this
        rw [show acc.length + (k + 1) = acc.length + (0 + 1) + k by omega]
        exact this
theorem mask1_bit {acc : List Nat} {o : Oper} {j : Nat} (h : (mask1 acc o).testBit j = true) : ∃ e, e ∈ o.after.toList ∧ Region.binds .any e = true ∧ (e.on = j ∨ (acc.getD e.on 0).testBit j = true) := by
  unfold mask1 at h
  have key : ∀ (l : List Edge) (z : Nat), (l.foldl (fun s e => bif Region.binds .any e then s ||| 2 ^ e.on ||| acc.getD e.on 0 else s) z).testBit j = true → z.testBit j = true ∨ ∃ e, e ∈ l ∧ Region.binds .any e = true ∧ (e.on = j ∨ (acc.getD e.on 0).testBit j = true) := by
    intro l
    induction l with
    | nil => intro z h; exact .inl h
    | cons e r ih =>
      intro z h
      rcases ih _ h with h | ⟨e', h1, h2⟩
      · cases hb : Region.binds .any e with
        | false => dsimp only at h; rw [hb] at h; exact .inl h
        | true =>
          dsimp only at h
          rw [hb] at h
          simp only [cond_true, Nat.testBit_or, Nat.testBit_two_pow, Bool.or_eq_true, decide_eq_true_eq] at h
          rcases h with (h | h) | h
          · exact .inl h
          · exact .inr ⟨e, by simp, hb, .inl h⟩
          · exact .inr ⟨e, by simp, hb, .inr h⟩
      · exact .inr ⟨e', by simp [h1], h2⟩
  rcases key _ _ h with h | h
  · simp at h
  · exact h

section
variable [Interp] (P : Program)
def kindOf : Op → Nat
  | .move _ | .assign _ | .pick .. | .build .. | .buildSlice .. | .nilCheck _ | .binOp .. | .unOp .. | .makeFunc .. | .slice .. | .fieldAddr .. | .field .. | .indexAddr .. | .index .. | .extract .. => 0
  | .load .. | .lookup .. => 1
  | .convert src dst _ =>
    match P.underlying src, P.underlying dst with
    | some (.slice _), _ | _, some (.slice _) => 2
    | _, _ => 0
  | .call c =>
    match c.callee with
    | .builtin .len => 1
    | .builtin .max | .builtin .min => 0
    | _ => 2
  | _ => 2
def eff (o : Oper) : Bool := Nat.beq (kindOf P o.op) 2
end

def tmpsOf : List Operand → List Nat
  | [] => []
  | .tmp t :: r => t :: tmpsOf r
  | _ :: r => tmpsOf r
/-- The temporaries that an operation looks at. -/
def readsOf (ops : Array Oper) (o : Oper) : List Nat :=
  tmpsOf o.op.operands.toList ++ match o.guard with
    | some (j, _) => ((ops[j]?).bind (·.dst)).toList
    | none => []
def dstIs (o : Oper) (t : Nat) : Bool :=
  match o.dst with
  | some d => Nat.beq d t
  | none => false

def bitOf (ms : List Nat) (i j : Nat) : Bool := (ms.getD i 0).testBit j

/-- What is asked of a region's text: edges lead back; what is looked at is made ahead; no two write the same; what acts stands in one order. -/
def isPair (pr : Option (Nat × Nat)) (p q : Nat) : Bool :=
  match pr with
  | some (a, b) => Nat.beq a p && Nat.beq b q
  | none => false
/-- Two that act, the one not told to stand ahead of the other. -/
def loosePair (P : Program) (ops : Array Oper) : Option (Nat × Nat) :=
  let ms := masks ops
  let l := (ops.toList.zipIdx).filter fun x => eff P x.1
  (l.flatMap fun y => l.filterMap fun x => if Nat.ble (x.2 + 1) y.2 && !bitOf ms y.2 x.2 then some (x.2, y.2) else none).head?
def drawStatic (P : Program) (pr : Option (Nat × Nat)) (ops : Array Oper) : Bool :=
  let ms := masks ops
  let l := ops.toList.zipIdx
  l.all fun (o, i) =>
    (o.after.toList.all fun e => !Region.binds .any e || Nat.ble (e.on + 1) i) &&
    ((readsOf ops o).all fun t => l.all fun (q, j) => !dstIs q t || bitOf ms i j || bitOf ms j i || Nat.beq i j) &&
    (match o.dst with | some d => l.all fun (q, j) => Nat.beq i j || !dstIs q d | none => true) &&
    (!eff P o || l.all fun (q, j) => !eff P q || Nat.ble i j || bitOf ms i j || isPair pr j i)

def Back (ops : Array Oper) : Prop := ∀ (i : Nat) (o : Oper), ops[i]? = some o → ∀ (e : Edge), e ∈ o.after.toList → Region.binds .any e = true → e.on < i
theorem bit_lt_dep {ops : Array Oper} (D : Nat → Prop) (hlt : Back ops) (hcl : ∀ (i : Nat) (o : Oper), ops[i]? = some o → D i → ∀ (e : Edge), e ∈ o.after.toList → Region.binds .any e = true → D e.on) :
    ∀ (i j : Nat), i < ops.size → bitOf (masks ops) i j = true → (∀ (o : Oper), ops[i]? = some o → ∀ (e : Edge), e ∈ o.after.toList → Region.binds .any e = true → D e.on) → D j := by
  intro i
  induction i using Nat.strongRecOn with
  | _ i ih =>
    intro j hi hb hd
    have ho : ops[i]? = some ops[i] := Array.getElem?_eq_getElem hi
    have hsp := (masksF_spec ops.toList []).2 i ops[i] (by rw [Array.getElem?_toList]; exact ho)
    simp only [List.length_nil, Nat.zero_add] at hsp
    unfold bitOf at hb
    rw [show masks ops = masksF ops.toList [] from rfl, List.getD_eq_getElem?_getD, hsp] at hb
    obtain ⟨e, h1, h2, h3⟩ := mask1_bit hb
    have hlt' := hlt i _ ho e h1 h2
    have hde := hd _ ho e h1 h2
    rcases h3 with rfl | h3
    · exact hde
    · refine ih e.on hlt' j (by omega) ?_ fun o' ho' e' he' hb' => hcl e.on o' ho' hde e' he' hb'
      unfold bitOf
      rw [List.getD_eq_getElem?_getD, List.getElem?_take, if_pos hlt'] at h3
      rw [List.getD_eq_getElem?_getD]; exact h3
theorem bit_lt {ops : Array Oper} (hlt : Back ops) {i j : Nat} (hi : i < ops.size) (hb : bitOf (masks ops) i j = true) : j < i := by
  exact bit_lt_dep (fun k => k < i) hlt (fun k o ho hk e he hb => Nat.lt_trans (hlt k o ho e he hb) hk) i j hi hb (fun o ho e he hb => hlt i o ho e he hb)

/-! ### The orders that may be drawn -/
def Valid (ops : Array Oper) : List Nat → List Nat → Prop
  | D, [] => ∀ i, i < ops.size → i ∈ D
  | D, i :: rest => i < ops.size ∧ i ∉ D ∧ (∀ (o : Oper), ops[i]? = some o → ∀ (e : Edge), e ∈ o.after.toList → Region.binds .any e = true → e.on ∈ D) ∧ Valid ops (i :: D) rest

theorem go_valid {ops : Array Oper} (hlt : Back ops) : ∀ (fuel t : Nat) (listed : Array Bool) (acc D : List Nat), listed.size = ops.size → (∀ i, i < ops.size → (listed.getD i true = true ↔ i ∈ D)) →
    ((List.range ops.size).filter fun i => !listed.getD i true).length = fuel → ∃ L, Region.linearise.go .any ops fuel t listed acc = acc.reverse ++ L ∧ Valid ops D L
  | 0, t, listed, acc, D, hsz, hD, hf => by
    refine ⟨[], by simp [Region.linearise.go], fun i hi => (hD i hi).1 ?_⟩
    have := List.length_eq_zero_iff.1 hf
    rw [List.filter_eq_nil_iff] at this
    have := this i (List.mem_range.2 hi)
    simpa using this
  | fuel + 1, t, listed, acc, D, hsz, hD, hf => by
    unfold Region.linearise.go
    simp only
    generalize hrs : (List.range ops.size).filter (fun i => !listed.getD i true && ((ops[i]?).map (·.after.all fun e => !Region.binds .any e || listed.getD e.on false)).getD false) = rs
    -- there is one whose edges are all met
    have hne : rs ≠ [] := by
      intro e
      subst e
      have hex : ∃ i, i < ops.size ∧ listed.getD i true = false := by
        rcases hq : (List.range ops.size).filter (fun i => !listed.getD i true) with _ | ⟨i, r⟩
        · rw [hq] at hf; simp at hf
        · have : i ∈ (List.range ops.size).filter (fun i => !listed.getD i true) := by rw [hq]; simp
          rw [List.mem_filter] at this
          exact ⟨i, List.mem_range.1 this.1, by simpa using this.2⟩
      have hmin : ∃ i, i < ops.size ∧ listed.getD i true = false ∧ ∀ j, j < i → listed.getD j true = true := by
        obtain ⟨i, h1, h2⟩ := hex
        induction i using Nat.strongRecOn with
        | _ i ih =>
          by_cases hall : ∀ j, j < i → listed.getD j true = true
          · exact ⟨i, h1, h2, hall⟩
          · rw [Classical.not_forall] at hall
            obtain ⟨j, hj⟩ := hall
            rw [Classical.not_imp] at hj
            exact ih j hj.1 (by omega) (by simpa using hj.2)
      obtain ⟨i, h1, h2, h3⟩ := hmin
      rw [List.filter_eq_nil_iff] at hrs
      refine hrs i (List.mem_range.2 h1) ?_
      rw [h2]
      simp only [Bool.not_false, Bool.true_and]
      rw [Array.getElem?_eq_getElem h1]
      simp only [Option.map_some, Option.getD_some, Array.all_eq_true']
      intro e he
      by_cases hbe : Region.binds .any e = true
      case neg => simp [hbe]
      have hel := hlt i _ (Array.getElem?_eq_getElem h1) e (by simpa using he) hbe
      have h4 := h3 e.on hel
      have : listed.getD e.on false = true := by
        rw [Array.getD_eq_getD_getElem?] at h4 ⊢
        rw [Array.getElem?_eq_getElem (by omega)] at h4 ⊢
        exact h4
      rw [this]; simp
    have hpos : 0 < rs.length := List.length_pos_iff.2 hne
    have hmod := Nat.mod_lt t hpos
    rw [List.getElem?_eq_getElem hmod]
    simp only
    have hmem : rs[t % rs.length] ∈ rs := List.getElem_mem hmod
    generalize rs[t % rs.length] = i at hmem
    rw [← hrs, List.mem_filter, List.mem_range] at hmem
    obtain ⟨hi, hc⟩ := hmem
    rw [Bool.and_eq_true] at hc
    obtain ⟨hc1, hc2⟩ := hc
    have hc1 : listed.getD i true = false := by simpa using hc1
    rw [Array.getElem?_eq_getElem hi] at hc2
    simp only [Option.map_some, Option.getD_some, Array.all_eq_true'] at hc2
    have hget : ∀ j, j < ops.size → (listed.setIfInBounds i true).getD j true = if j = i then true else listed.getD j true := by
      intro j hj
      rw [Array.getD_eq_getD_getElem?, Array.getD_eq_getD_getElem?]
      by_cases e : j = i
      · subst e; rw [if_pos rfl, Array.getElem?_setIfInBounds_self, if_pos (by omega)]; rfl
      · rw [if_neg e, Array.getElem?_setIfInBounds_ne (Ne.symm e)]
    obtain ⟨L, h1, h2⟩ := go_valid hlt fuel (t / rs.length) (listed.setIfInBounds i true) (i :: acc) (i :: D) (by simp [hsz]) (fun j hj => by
        rw [hget j hj]
        by_cases e : j = i
        · simp [e]
        · rw [if_neg e, hD j hj]; simp [e])
      (by
        have key : ((List.range ops.size).filter fun j => !listed.getD j true).length = ((List.range ops.size).filter fun j => !(listed.setIfInBounds i true).getD j true).length + 1 := by
          have hnd : (List.range ops.size).Nodup := List.nodup_range
          have e1 : (List.range ops.size).filter (fun j => !(listed.setIfInBounds i true).getD j true) = ((List.range ops.size).filter fun j => !listed.getD j true).filter (fun j => j != i) := by
            rw [List.filter_filter]
            apply List.filter_congr
            intro j hj
            rw [hget j (List.mem_range.1 hj)]
            by_cases e : j = i
            · simp [e]
            · simp [e]
          rw [e1]
          have hnd2 := hnd.filter (fun j => !listed.getD j true)
          have hmem2 : i ∈ (List.range ops.size).filter (fun j => !listed.getD j true) := by rw [List.mem_filter, List.mem_range]; exact ⟨hi, by rw [hc1]; rfl⟩
          have e2 : ((List.range ops.size).filter (fun j => !listed.getD j true)).filter (fun j => j != i) = ((List.range ops.size).filter (fun j => !listed.getD j true)).erase i := (List.Nodup.erase_eq_filter hnd2 i).symm
          rw [e2, List.length_erase_of_mem hmem2]
          have := List.length_pos_of_mem hmem2
          omega
        omega)
    refine ⟨i :: L, by rw [h1]; simp, hi, fun h => ?_, fun o ho e he hb => ?_, h2⟩
    · have := (hD i hi).2 h; rw [hc1] at this; cases this
    · rw [Array.getElem?_eq_getElem hi] at ho; cases ho
      have := hc2 e (by simpa using he)
      rw [hb] at this
      simp only [Bool.not_true, Bool.false_or] at this
      have hel := hlt i _ (Array.getElem?_eq_getElem hi) e he hb
      refine (hD e.on (by omega)).1 ?_
      rw [Array.getD_eq_getD_getElem?] at this ⊢
      rw [Array.getElem?_eq_getElem (by omega)] at this ⊢
      exact this
theorem schedule_valid {ops : Array Oper} (hlt : Back ops) (t : Nat) : Valid ops [] (Region.schedule true ops t) := by
  obtain ⟨L, h1, h2⟩ := go_valid hlt ops.size t (Array.replicate ops.size false) [] [] (by simp) (fun i hi => by simp [Array.getD_eq_getD_getElem?, hi]) (by
    rw [List.filter_eq_self.2]
    · simp
    · intro i hi; rw [List.mem_range] at hi; simp [Array.getD_eq_getD_getElem?, hi])
  have : Region.schedule true ops t = L := by
    unfold Region.schedule Region.linearise
    simp only [Bool.true_or, if_true]
    rw [h1]; simp
  rw [this]; exact h2
end Go.Ab
