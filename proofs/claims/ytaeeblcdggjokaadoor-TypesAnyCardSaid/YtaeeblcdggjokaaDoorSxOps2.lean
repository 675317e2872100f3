/- The evaluator's operations against the model's, continued: one theorem an operation. -/
import Derived.Test.YtaeeblcdggjokaaDoorSxOps1
import Derived.LoopNIn
namespace Go.Ab
set_option linter.unusedVariables false
set_option linter.unusedSimpArgs false
set_option linter.unusedSectionVars false
set_option linter.constructorNameAsVariable false
open Go Go.RowKit

section
variable [Interp] {P : Program} {G : Nat → Option (List AV)} {B0 : Nat} {w0 w : World} {s : St} {M : Mp}

/-- Any function, at any depth; within a round, or not. -/
def FW (ro : Option Nat) : Fence := { fn := fun _ => True, depth := none, alive := false, round := ro }

def OpOk (P : Program) (G : Nat → Option (List AV)) (B0 : Nat) (w0 w : World) (s : St) (M : Mp) (o : Oper) (a : Act) (x : AV) (s' : St) : Prop :=
  ∀ (ro : Option Nat) (next : Act → World → Prop) (Q : Exit → Act → World → Prop), (∀ v w' M', VR w' s' M' x v → Sim G B0 w0 w' s' M' → Ext w s M w' s' M' → next (a.put o.dst v) w') → (o.uponIn (FW ro) 0 P a next Q ((execOp a.eval o).run P w))

theorem ok_value {o : Oper} {a : Act} {x : AV} {s' : St} {v : Value} {w' : World} {M' : Mp} (hr : (execOp a.eval o).run P w = .ok (.value v) w') (hv : VR w' s' M' x v) (hs : Sim G B0 w0 w' s' M') (he : Ext w s M w' s' M') :
    OpOk P G B0 w0 w s M o a x s' := fun ro next Q hn => by
  rw [hr, Oper.uponIn_value]; exact hn v w' M' hv hs he
theorem ok_skip {o : Oper} {a : Act} {s' : St} {w' : World} {M' : Mp} (hr : (execOp a.eval o).run P w = .ok .skip w') (hs : Sim G B0 w0 w' s' M') (he : Ext w s M w' s' M') :
    OpOk P G B0 w0 w s M o a und s' := fun ro next Q hn => by
  rw [hr, Oper.uponIn_skip]; exact hn undef w' M' VR_und hs he
theorem ok_here {o : Oper} {a : Act} {x : AV} {v : Value} (hs : Sim G B0 w0 w s M) (hr : (execOp a.eval o).run P w = .ok (.value v) w) (hv : VR w s M x v) : OpOk P G B0 w0 w s M o a x s := ok_value hr hv hs (Ext.refl _ _ _)

theorem room_lt (h : s.room = true) : s.n < Tr.lid := Nat.le_of_ble_eq_true h

theorem heap_new (w : World) (o : Obj) : (w.alloc o).heap[w.heap.size]? = some o := by
  show (w.heap.push o)[w.heap.size]? = some o
  simp

/-- What is below stays: so does the relation. -/
theorem sim_frame {G : Nat → Option (List AV)} {B0 : Nat} {w0 w w' : World} {s : St} {M : Mp} (h : Sim G B0 w0 w s M) (hb : Below w.heap.size w w') : Sim G B0 w0 w' s M ∧ Ext w s M w' s M := by
  have hE : Ext w s M w' s M := ⟨fun b off v hc hi => ⟨(World.cell?_of_block (w := w) (w' := w') (hb.block b (cell?_lt hc))).trans hc, hi⟩, Nat.le_refl _, fun _ _ => ⟨rfl, rfl⟩, fun _ _ _ _ h => h, ⟨hb.size, fun b h _ => hb.block b h, fun i o hi hg hl _ => ⟨i, o, hi, hg, hl, rfl⟩⟩, rfl, rfl, rfl⟩
  have hB : B0 ≤ w.heap.size := Nat.le_trans h.size h.below.size
  refine ⟨⟨h.below.trans (hb.mono hB), h.size, h.bound, fun i hi => ⟨(h.blk i hi).1, Nat.lt_of_lt_of_le (h.blk i hi).2 hb.size⟩, h.inj, fun i o hi hg => ?_, fun g cs hg => (h.glob g cs hg).ext hE, h.fx, h.outw hb.size⟩, hE⟩
  have ho := h.obj i o hi hg
  have hk := hb.block (M.blk i) (h.blk i hi).2
  cases o with
  | box cs esz => obtain ⟨c, e', fr, a1, a2, a3⟩ := ho; exact ⟨c, e', fr, hk.trans a1, a2.ext hE, a3⟩
  | fz cs esz => obtain ⟨c, e', fr, a1, a2, a3⟩ := ho; exact ⟨c, e', fr, hk.trans a1, a2.ext hE, a3⟩
  | row tip esz => obtain ⟨c, e', fr, a1, a2⟩ := ho; exact ⟨c, e', fr, hk.trans a1, a2⟩
  | map es => obtain ⟨c, k, a1, a2⟩ := ho; exact ⟨c, k, hk.trans a1, a2.ext hE⟩
  | dead => trivial
  | loop T ps asg body st pend => obtain ⟨rc, a1, a2, a3, a4, a5, a6, a7, a8⟩ := ho; exact ⟨rc, hk.trans a1, a2, a3, a4, a5, a6, a7, fun t => (a8 t).ext hE⟩
  | defs => exact hk.trans ho
  | sym k => show SymR _ _ _ _; rw [hk]; exact ho

theorem new_boxK (hs : Sim G B0 w0 w s M) (hr : s.room = true) {cs : List AV} {vs : Array Value} (t : TypeId) (hv : VRl w s M cs vs.toList) (hc : cs.all isCell = true) (k : Nat) (hk : k % tyBase = 0) (ht : tyBase ≤ k → t = k / tyBase - 1) :
    Sim G B0 w0 (w.alloc (.cells vs t)) (s.new (.box cs k)) (M.add s.n w.heap.size 0) ∧ Ext w s M (w.alloc (.cells vs t)) (s.new (.box cs k)) (M.add s.n w.heap.size 0) := by
  have hE := ext_new (w := w) (M := M) (room_lt hr) (fun i hi => (hs.blk i hi).2) (.cells vs t) (.box cs k) 0
  refine ⟨sim_new hs (room_lt hr) _ _ _ ⟨vs, t, (0, 0), heap_new _ _, ?_, hc, .inl rfl, fun h => absurd hk h, fun h => ⟨ht h, fun _ => by rw [hv.length]; simp⟩⟩, hE⟩
  rw [List.take_of_length_le (by rw [hv.length]; exact Nat.le_refl _)]
  exact hv.ext hE
theorem new_box (hs : Sim G B0 w0 w s M) (hr : s.room = true) {cs : List AV} {vs : Array Value} (t : TypeId) (hv : VRl w s M cs vs.toList) (hc : cs.all isCell = true) :
    Sim G B0 w0 (w.alloc (.cells vs t)) (s.new (.box cs 0)) (M.add s.n w.heap.size 0) ∧ Ext w s M (w.alloc (.cells vs t)) (s.new (.box cs 0)) (M.add s.n w.heap.size 0) :=
  new_boxK hs hr t hv hc 0 rfl fun h => absurd h (by decide)
theorem codeOf_mod {t n : Nat} (h : n < tyBase) : codeOf t n % tyBase = n := by
  unfold codeOf; rw [Nat.mul_add_mod]; exact Nat.mod_eq_of_lt h
theorem codeOf_div {t n : Nat} (h : n < tyBase) : codeOf t n / tyBase - 1 = t := by
  unfold codeOf
  have h0 : 0 < tyBase := by decide
  rw [Nat.mul_add_div h0, Nat.div_eq_of_lt h]; omega
theorem new_row (hs : Sim G B0 w0 w s M) (hr : s.room = true) {vs : Array Value} (t : TypeId) (fr : Nat × Nat) (tip : Tip) (esz cap : Nat) (h1 : vs.size = cap * esz) (h2 : tip.val M.env ≤ vs.size) (h3 : Free fr vs.size) :
    Sim G B0 w0 (w.alloc (.cells vs t fr)) (s.new (.row tip esz)) (M.add s.n w.heap.size cap) ∧ Ext w s M (w.alloc (.cells vs t fr)) (s.new (.row tip esz)) (M.add s.n w.heap.size cap) := by
  have hE := ext_new (w := w) (M := M) (room_lt hr) (fun i hi => (hs.blk i hi).2) (.cells vs t fr) (.row tip esz) cap
  refine ⟨sim_new hs (room_lt hr) _ _ _ ⟨vs, t, fr, heap_new _ _, h1, h2, h3⟩, hE⟩

/-- What stands in a row's first cells, when the row is new. -/
theorem row_VRs (hs : Sim G B0 w0 w s M) (hr : s.room = true) {vs : Array Value} {t : TypeId} {fr : Nat × Nat} {tip : Tip} {esz cap : Nat} {cs : List AV}
    (hv : VRl w s M cs (vs.toList.take cs.length)) (hc : cs.all isCell = true) (hl : cs.length ≤ tip.val M.env)
    (hE : Ext w s M (w.alloc (.cells vs t fr)) (s.new (.row tip esz)) (M.add s.n w.heap.size cap)) :
    VRs (w.alloc (.cells vs t fr)) (s.new (.row tip esz)) (M.add s.n w.heap.size cap) cs w.heap.size 0 := by
  refine VRs.of_get fun i c hi => ?_
  have hlt : i < cs.length := (List.getElem?_eq_some_iff.1 hi).1
  rcases hv.get i with ⟨h1, _⟩ | ⟨c', v, h1, h2, h3⟩
  · rw [h1] at hi; cases hi
  · rw [h1] at hi; cases hi
    rw [List.getElem?_take, if_pos hlt, Array.getElem?_toList] at h2
    refine ⟨v, ?_, h3.ext hE, ?_, fun j o hj hg hbk => ?_, out_new hs (Nat.le_refl _)⟩
    · simp only [Nat.zero_add]
      rw [show (w.alloc (.cells vs t fr)).cell? ⟨w.heap.size, i, none⟩ = vs[i]? by simp only [World.cell?, heap_new]; rfl]
      exact h2
    · exact (List.all_eq_true.1 hc) c (List.mem_of_getElem? h1)
    · rw [St.get_new _ _ _ (room_lt hr)] at hg
      by_cases e : j = s.n
      · rw [if_pos e] at hg; cases hg; show 0 + i < tip.val M.env; omega
      · simp only [Mp.add, if_neg e] at hbk
        have := (hs.blk j (by simp only [St.new] at hj; omega)).2
        omega

theorem s_move {o : Oper} {a : Act} {T : Tm} {x : Operand} {c : AV} (hs : Sim G B0 w0 w s M) (hT : TmR w s M T a) (hop : o.op = .move x ∨ o.op = .assign x) (h : opd G T x = some c) : OpOk P G B0 w0 w s M o a c s :=
  ok_here hs (by rcases hop with hop | hop <;> simp [execOp, hop]) (opd_sound hs hT h)

theorem s_pick {o : Oper} {a : Act} {T : Tm} {q x y : Operand} {b : Bool} {c : AV} (hs : Sim G B0 w0 w s M) (hT : TmR w s M T a) (hop : o.op = .pick q x y) (hq : opd G T q = some (.v (.bool b))) (h : opd G T (if b then x else y) = some c) :
    OpOk P G B0 w0 w s M o a c s := by
  have h1 := (VR_v.1 (opd_sound hs hT hq)).1
  refine ok_here hs (v := a.eval (if b then x else y)) ?_ (opd_sound hs hT h)
  cases b <;> simp [execOp, hop, h1, asBool]

theorem s_alloc {o : Oper} {a : Act} {t : TypeId} {z : List AV} (hs : Sim G B0 w0 w s M) (hop : o.op = .alloc t) (hz : zeroCellsT P t = some z) (hr : s.room = true) : OpOk P G B0 w0 w s M o a (.box s.n 0) (s.new (.box z (codeOf t 0))) := by
  obtain ⟨zv, h1, h2⟩ := zeroCells_some hz
  obtain ⟨hs', hE⟩ := new_boxK hs hr (cs := z) (vs := zv.cells) t (VRl_scAll h2) (scAll_cells h2) (codeOf t 0) (codeOf_mod (by decide)) (fun _ => (codeOf_div (by decide)).symm)
  refine ok_value (v := .pointer (some ⟨w.heap.size, 0, none⟩)) ?_ ?_ hs' hE
  · simp [execOp, hop, Instr.alloc, run_zeroValue h1, newVar, newRow]
  · unfold VR; simp [St.new, Mp.add]

theorem s_box {o : Oper} {a : Act} {T : Tm} {t : TypeId} {x : Operand} {c : AV} (hs : Sim G B0 w0 w s M) (hT : TmR w s M T a) (hop : o.op = .box t x) (h : opd G T x = some c) (hr : s.room = true) (hc : (cellsOf c).all isCell = true) :
    OpOk P G B0 w0 w s M o a (.box s.n 0) (s.new (.box (cellsOf c) 0)) := by
  obtain ⟨hs', hE⟩ := new_box hs hr t (VR_cellsOf hc (opd_sound hs hT h)) hc
  refine ok_value (v := .pointer (some ⟨w.heap.size, 0, none⟩)) ?_ ?_ hs' hE
  · simp [execOp, hop, Instr.box, newVar, newRow]
  · unfold VR; simp [St.new, Mp.add]

theorem s_load_ref {o : Oper} {a : Act} {T : Tm} {t : TypeId} {x : Operand} {cs : List AV} {c : AV} (hs : Sim G B0 w0 w s M) (hT : TmR w s M T a) (hop : o.op = .load t x) (h : opd G T x = some (.ref cs)) (ht : takeT P t cs = some c) :
    OpOk P G B0 w0 w s M o a c s := by
  have hv := opd_sound hs hT h
  unfold VR at hv
  obtain ⟨b, off, e, hv⟩ := hv
  obtain ⟨vs, hl, ha⟩ := hv.vals
  obtain ⟨v, hr, hv⟩ := run_loadVar (P := P) hl ha ht
  exact ok_here hs (by simp [execOp, hop, Instr.loadAt, e, Instr.sureAddr, hr]) hv
theorem s_load_box {o : Oper} {a : Act} {T : Tm} {t : TypeId} {x : Operand} {b off esz : Nat} {cs : List AV} {c : AV} (hs : Sim G B0 w0 w s M) (hT : TmR w s M T a) (hop : o.op = .load t x) (h : opd G T x = some (.box b off)) (hg : s.get b = some (.box cs esz))
    (ht : takeT P t (cs.drop off) = some c) : OpOk P G B0 w0 w s M o a c s := by
  have hv := opd_sound hs hT h
  unfold VR at hv
  obtain ⟨hb, e⟩ := hv
  obtain ⟨vs, el, fr, h1, h2, _⟩ := hs.obj b _ hb hg
  have ha := (at_block h1).take cs.length |>.drop off
  rw [Nat.zero_add] at ha
  obtain ⟨v, hr, hv⟩ := run_loadVar (P := P) (h2.drop off) ha ht
  exact ok_here hs (by simp [execOp, hop, Instr.loadAt, e, Instr.sureAddr, hr]) hv

theorem heap_setCells {b : Nat} {e : TypeId} {fr : Nat × Nat} : ∀ (vs : List Value) (off : Nat) (w : World) (c : Array Value), w.heap[b]? = some (.cells c e fr) → off + vs.length ≤ c.size →
    (w.setCells b off vs).heap[b]? = some (.cells (c.toList.take off ++ vs ++ c.toList.drop (off + vs.length)).toArray e fr) ∧ (∀ k, k ≠ b → (w.setCells b off vs).heap[k]? = w.heap[k]?) ∧ (w.setCells b off vs).heap.size = w.heap.size
  | [], off, w, c, h, hl => by
    simp only [World.setCells, List.append_nil, List.length_nil, Nat.add_zero, List.take_append_drop, Array.toArray_toList]
    exact ⟨h, fun _ _ => trivial, trivial⟩
  | v :: r, off, w, c, h, hl => by
    simp only [List.length_cons] at hl
    have h1 : (w.setCell ⟨b, off, none⟩ v).heap[b]? = some (.cells (c.setIfInBounds off v) e fr) := by
      simp [World.setCell, Array.getElem?_modify, h]
    obtain ⟨i1, i2, i3⟩ := heap_setCells r (off + 1) (w.setCell ⟨b, off, none⟩ v) (c.setIfInBounds off v) h1 (by simp; omega)
    simp only [World.setCells]
    refine ⟨?_, fun k hk => (i2 k hk).trans (Below.heap_setCell w ⟨b, off, none⟩ v k hk), by rw [i3]; simp⟩
    rw [i1]
    congr 3
    rw [Array.toList_setIfInBounds]
    have hlen : off < c.toList.length := by simp; omega
    rw [List.set_eq_take_append_cons_drop, if_pos hlen]
    have e1 : (c.toList.take off ++ v :: c.toList.drop (off + 1)).take (off + 1) = c.toList.take off ++ [v] := by
      rw [List.take_append, List.take_of_length_le (by simp; omega)]
      congr 1
      simp only [List.length_take]
      rw [show off + 1 - min off c.toList.length = 1 by omega]; rfl
    have e2 : (c.toList.take off ++ v :: c.toList.drop (off + 1)).drop (off + 1 + r.length) = c.toList.drop (off + (v :: r).length) := by
      rw [List.drop_append, List.drop_eq_nil_of_le (by simp; omega), List.nil_append]
      simp only [List.length_take, List.length_cons]
      rw [show off + 1 + r.length - min off c.toList.length = r.length + 1 by omega, List.drop_succ_cons, List.drop_drop]
      congr 1
      omega
    rw [e1, e2]
    simp
theorem below_setCells {b : Nat} (hb : B0 ≤ b) : ∀ (vs : List Value) (off : Nat) (w : World), Below B0 w0 w → Below B0 w0 (w.setCells b off vs)
  | [], _, _, h => h
  | v :: r, off, w, h => below_setCells hb r (off + 1) _ (h.setCell (p := ⟨b, off, none⟩) hb v)

/-- Cells of a box are written. -/
theorem write_box (hs : Sim G B0 w0 w s M) {b off esz : Nat} {cs ds : List AV} {vs : List Value} (hb : b < s.n) (hg : s.get b = some (.box cs esz)) (hv : VRl w s M ds vs) (hl : off + ds.length ≤ cs.length) (hc : ds.all isCell = true) :
    (storeCells ⟨M.blk b, off, none⟩ vs).run P w = .ok () (w.setCells (M.blk b) off vs) ∧
    Sim G B0 w0 (w.setCells (M.blk b) off vs) (s.put b (.box (cs.take off ++ ds ++ cs.drop (off + ds.length)) esz)) M ∧
    Ext w s M (w.setCells (M.blk b) off vs) (s.put b (.box (cs.take off ++ ds ++ cs.drop (off + ds.length)) esz)) M := by
  obtain ⟨c, e, fr, h1, h2, h3, h4, h5⟩ := hs.obj b _ hb hg
  have hlen := h2.length
  have hlv := hv.length
  have hsz0 : cs.length ≤ c.size := by rw [List.length_take] at hlen; simp at hlen; omega
  have hsz : off + vs.length ≤ c.size := by rw [← hlv]; omega
  obtain ⟨k1, k2, k3⟩ := heap_setCells vs off w c h1 hsz
  have hlid : b < Tr.lid := Nat.lt_of_lt_of_le hb hs.bound
  have hrun : (storeCells ⟨M.blk b, off, none⟩ vs).run P w = .ok () (w.setCells (M.blk b) off vs) := by
    have := run_storeCells_cells (P := P) (M.blk b) off vs 0 w (fun j hj => ?_) (fun j hj => ?_) (oneCell_all hc hv)
    · simpa using this
    · have hj' : off + 0 + j < c.size := by omega
      simp only [World.cell?, h1]
      simp
      omega
    · simp only [World.frozen?, h1]
      have := h4.no (show off + 0 + j < c.size by omega)
      simp only [Bool.and_eq_false_iff, decide_eq_false_iff_not]
      rcases Classical.em (fr.1 ≤ off + 0 + j) with q | q
      · exact .inr fun q' => this ⟨q, q'⟩
      · exact .inl q
  have hE : Ext w s M (w.setCells (M.blk b) off vs) (s.put b (.box (cs.take off ++ ds ++ cs.drop (off + ds.length)) esz)) M :=
    ext_write hs hb hg (fun _ _ => by simp) trivial (fun _ _ => by simp) trivial k2 (by omega)
  refine ⟨hrun, sim_write hs hb hg (fun _ _ => by simp) trivial (fun _ _ => by simp) trivial k2 (below_setCells (hs.blk b hb).1 vs off w hs.below) k3 ⟨_, e, fr, k1, ?_, ?_, ?_, ?_⟩, hE⟩
  · have := ((h2.take off).append hv).append (h2.drop (off + ds.length))
    rw [← hlv]
    have hn : (cs.take off ++ ds ++ cs.drop (off + ds.length)).length = cs.length := by simp; omega
    have hp : ((c.toList.take off ++ vs ++ c.toList.drop (off + ds.length)).toArray.toList).take (cs.take off ++ ds ++ cs.drop (off + ds.length)).length = (c.toList.take cs.length).take off ++ vs ++ (c.toList.take cs.length).drop (off + ds.length) := by
      rw [hn]
      have e1 : (c.toList.take cs.length).take off = c.toList.take off := by rw [List.take_take, Nat.min_eq_left (by omega)]
      have e2 : (c.toList.take off ++ vs).length = off + ds.length := by simp; omega
      rw [e1, List.take_append, List.take_of_length_le (by rw [e2]; exact hl), e2, List.drop_take]
    rw [hp]
    exact this.ext hE
  · simp only [List.all_append, hc, Bool.and_true, Bool.and_eq_true, List.all_eq_true] at h3 ⊢
    exact ⟨fun x hx => h3 x (List.mem_of_mem_take hx), fun x hx => h3 x (List.mem_of_mem_drop hx)⟩
  · have : (c.toList.take off ++ vs ++ c.toList.drop (off + vs.length)).toArray.size = c.size := by simp; omega
    rw [this]; exact h4
  · have : (c.toList.take off ++ vs ++ c.toList.drop (off + vs.length)).toArray.size = c.size := by simp; omega
    have hn : (cs.take off ++ ds ++ cs.drop (off + ds.length)).length = cs.length := by simp; omega
    rw [this, hn]; exact h5

theorem s_store {o : Oper} {a : Act} {T : Tm} {t : TypeId} {p x : Operand} {b off n esz : Nat} {cs : List AV} {c : AV} (hs : Sim G B0 w0 w s M) (hT : TmR w s M T a) (hop : o.op = .store t p x) (hx : opd G T x = some c) (hn : sizeT P t = some n)
    (hp : opd G T p = some (.box b off)) (hg : s.get b = some (.box cs esz)) (h1 : (cellsOf c).length = n) (h2 : off + n ≤ cs.length) (h3 : (cellsOf c).all isCell = true) :
    OpOk P G B0 w0 w s M o a und (s.put b (.box (cs.take off ++ cellsOf c ++ cs.drop (off + n)) esz)) := by
  have hv := opd_sound hs hT hp
  unfold VR at hv
  obtain ⟨hb, e⟩ := hv
  have hc := VR_cellsOf h3 (opd_sound hs hT hx)
  subst h1
  obtain ⟨hr, hs', hE⟩ := write_box (P := P) hs hb hg hc h2 h3
  refine ok_skip ?_ hs' hE
  have hl : (a.eval x).cells.size = (cellsOf c).length := by rw [hc.length]; simp
  simp [execOp, hop, Instr.storeAt, e, Instr.sureAddr, storeVar, run_sizeOf hn, hl, hr]

theorem s_nilCheck {o : Oper} {a : Act} {T : Tm} {x : Operand} {c : AV} (hs : Sim G B0 w0 w s M) (hT : TmR w s M T a) (hop : o.op = .nilCheck x) (h : opd G T x = some c)
    (hc : (∃ cs, c = .ref cs) ∨ (∃ b off, c = .box b off) ∨ ∃ f p q, c = .fn (.func f) p q) : OpOk P G B0 w0 w s M o a c s := by
  have hv := opd_sound hs hT h
  refine ok_here hs (v := a.eval x) ?_ hv
  rcases hc with ⟨cs, rfl⟩ | ⟨b, off, rfl⟩ | ⟨f, p, q, rfl⟩
  · unfold VR at hv; obtain ⟨b, off, e, _⟩ := hv; simp [execOp, hop, e]
  · unfold VR at hv; obtain ⟨_, e⟩ := hv; simp [execOp, hop, e]
  · unfold VR at hv; obtain ⟨f', p', q', e, e2, _⟩ := hv; simp only [renFn, Option.some.injEq] at e2; subst e2; simp [execOp, hop, e]

theorem run_fieldPlace {b off : Nat} {f : Field} {n : Nat} (hn : sizeT P f.type = some n) (h0 : n ≠ 0) : (fieldPlace ⟨b, off, none⟩ f).run P w = .ok ⟨b, off + f.offset, none⟩ w := by
  simp [fieldPlace, run_sizeOf hn, h0, add_eq]
theorem s_fieldAddr {o : Oper} {a : Act} {T : Tm} {st : TypeId} {x : Operand} {i : Nat} {fs : Array Field} {f : Field} {n : Nat} {c d : AV} (hs : Sim G B0 w0 w s M) (hT : TmR w s M T a) (hop : o.op = .fieldAddr st x i) (hu : P.underlying st = some (.struct fs)) (hf : fs[i]? = some f)
    (hn : sizeT P f.type = some n) (h0 : n ≠ 0) (h : opd G T x = some c) (hc : (∃ cs, c = .ref cs ∧ d = .ref (cs.drop f.offset)) ∨ ∃ b off, c = .box b off ∧ d = .box b (off + f.offset)) : OpOk P G B0 w0 w s M o a d s := by
  have hv := opd_sound hs hT h
  rcases hc with ⟨cs, rfl, rfl⟩ | ⟨b, off, rfl, rfl⟩
  · unfold VR at hv; obtain ⟨b, off, e, hv⟩ := hv
    refine ok_here hs (v := .pointer (some ⟨b, off + f.offset, none⟩)) ?_ ?_
    · simp [execOp, hop, Instr.fieldAt, run_underlying hu, hf, e, Instr.sureAddr, run_fieldPlace hn h0]
    · unfold VR; exact ⟨_, _, rfl, hv.drop _⟩
  · unfold VR at hv; obtain ⟨hb, e⟩ := hv
    refine ok_here hs (v := .pointer (some ⟨M.blk b, off + f.offset, none⟩)) ?_ ?_
    · simp [execOp, hop, Instr.fieldAt, run_underlying hu, hf, e, Instr.sureAddr, run_fieldPlace hn h0]
    · unfold VR; exact ⟨hb, rfl⟩

theorem s_field {o : Oper} {a : Act} {T : Tm} {st : TypeId} {x : Operand} {i : Nat} {fs : Array Field} {f : Field} {cs : List AV} {d : AV} (hs : Sim G B0 w0 w s M) (hT : TmR w s M T a) (hop : o.op = .field st x i) (hu : P.underlying st = some (.struct fs)) (hf : fs[i]? = some f)
    (h : opd G T x = some (.agg cs)) (hd : partT P f.type cs f.offset = some d) : OpOk P G B0 w0 w s M o a d s := by
  have hv := opd_sound hs hT h
  unfold VR at hv; obtain ⟨vs, e, hv⟩ := hv
  obtain ⟨v, hr, hv⟩ := run_part (P := P) (w := w) hv hd
  exact ok_here hs (v := v) (by simp [execOp, hop, Instr.field, run_underlying hu, hf, e, asAgg, hr]) hv

theorem asNat_some {c : AV} {n : Nat} (h : asNat c = some n) : ∃ (k : IntKind) (i : Int), c = .v (.int k i) ∧ 0 ≤ i ∧ i.toNat = n := by
  unfold asNat at h
  split at h
  · split at h
    · rename_i k i h0; cases h; exact ⟨k, i, rfl, h0, rfl⟩
    · cases h
  · cases h

theorem s_indexAddrV {o : Oper} {a : Act} {T : Tm} {t e : TypeId} {x ix : Operand} {i n : Nat} {k : IntKind} {j : Int} {c d : AV} (hs : Sim G B0 w0 w s M) (hT : TmR w s M T a) (hop : o.op = .indexAddr t x ix) (hiv : a.eval ix = .int k j) (h0 : 0 ≤ j) (hj : j.toNat = i) (hn : sizeT P e = some n)
    (h : opd G T x = some c)
    (hc : (P.underlying t = some (.slice e) ∧ ((∃ cs len tok, c = .sl cs len tok ∧ i < len ∧ d = .ref (cs.drop (i * n))) ∨ (∃ b off len, c = .ms b off len ∧ i < len ∧ d = .box b (off + i * n)) ∨ ∃ b len, c = .mg b len ∧ i < len ∧ d = .box b (i * n))) ∨
      ∃ len, P.underlying t = some (.array len e) ∧ i < len ∧ ((∃ cs, c = .ref cs ∧ d = .ref (cs.drop (i * n))) ∨ ∃ b off, c = .box b off ∧ d = .box b (off + i * n))) : OpOk P G B0 w0 w s M o a d s := by
  have hv := opd_sound hs hT h
  rcases hc with ⟨hu, ⟨cs, len, tok, rfl, hlt, rfl⟩ | ⟨b, off, len, rfl, hlt, rfl⟩ | ⟨b, len, rfl, hlt, rfl⟩⟩ | ⟨len, hu, hlt, ⟨cs, rfl, rfl⟩ | ⟨b, off, rfl, rfl⟩⟩
  · unfold VR at hv; obtain ⟨b, off, cap, e', hl, hv, _⟩ := hv
    refine ok_here hs (v := .pointer (some ⟨b, off + i * n, none⟩)) ?_ ?_
    · have : 0 ≤ j ∧ j < (len : Int) := ⟨h0, by omega⟩
      simp [execOp, hop, Instr.indexAt, hiv, asIntOf, run_underlying hu, e', this, run_sizeOf hn, add_eq, hj]
    · unfold VR; exact ⟨_, _, rfl, hv.drop _⟩
  · unfold VR at hv; obtain ⟨hb, cap, hl, e'⟩ := hv
    refine ok_here hs (v := .pointer (some ⟨M.blk b, off + i * n, none⟩)) ?_ ?_
    · have : 0 ≤ j ∧ j < (len : Int) := ⟨h0, by omega⟩
      simp [execOp, hop, Instr.indexAt, hiv, asIntOf, run_underlying hu, e', this, run_sizeOf hn, add_eq, hj]
    · unfold VR; exact ⟨hb, rfl⟩
  · unfold VR at hv; obtain ⟨hb, hl, e'⟩ := hv
    refine ok_here hs (v := .pointer (some ⟨M.blk b, i * n, none⟩)) ?_ ?_
    · have : 0 ≤ j ∧ j < (len : Int) := ⟨h0, by omega⟩
      simp [execOp, hop, Instr.indexAt, hiv, asIntOf, run_underlying hu, e', this, run_sizeOf hn, add_eq, hj]
    · unfold VR; exact ⟨hb, rfl⟩
  · unfold VR at hv; obtain ⟨b, off, e', hv⟩ := hv
    refine ok_here hs (v := .pointer (some ⟨b, off + i * n, none⟩)) ?_ ?_
    · have : 0 ≤ j ∧ j < (len : Int) := ⟨h0, by omega⟩
      simp [execOp, hop, Instr.indexAt, hiv, asIntOf, run_underlying hu, e', Instr.sureAddr, this, run_sizeOf hn, add_eq, hj]
    · unfold VR; exact ⟨_, _, rfl, hv.drop _⟩
  · unfold VR at hv; obtain ⟨hb, e'⟩ := hv
    refine ok_here hs (v := .pointer (some ⟨M.blk b, off + i * n, none⟩)) ?_ ?_
    · have : 0 ≤ j ∧ j < (len : Int) := ⟨h0, by omega⟩
      simp [execOp, hop, Instr.indexAt, hiv, asIntOf, run_underlying hu, e', Instr.sureAddr, this, run_sizeOf hn, add_eq, hj]
    · unfold VR; exact ⟨hb, rfl⟩
theorem s_indexAddr {o : Oper} {a : Act} {T : Tm} {t e : TypeId} {x ix : Operand} {i n : Nat} {ci c d : AV} (hs : Sim G B0 w0 w s M) (hT : TmR w s M T a) (hop : o.op = .indexAddr t x ix) (hi : opd G T ix = some ci) (hin : asNat ci = some i) (hn : sizeT P e = some n)
    (h : opd G T x = some c)
    (hc : (P.underlying t = some (.slice e) ∧ ((∃ cs len tok, c = .sl cs len tok ∧ i < len ∧ d = .ref (cs.drop (i * n))) ∨ (∃ b off len, c = .ms b off len ∧ i < len ∧ d = .box b (off + i * n)) ∨ ∃ b len, c = .mg b len ∧ i < len ∧ d = .box b (i * n))) ∨
      ∃ len, P.underlying t = some (.array len e) ∧ i < len ∧ ((∃ cs, c = .ref cs ∧ d = .ref (cs.drop (i * n))) ∨ ∃ b off, c = .box b off ∧ d = .box b (off + i * n))) : OpOk P G B0 w0 w s M o a d s := by
  obtain ⟨k, j, rfl, h0, hj⟩ := asNat_some hin
  exact s_indexAddrV hs hT hop (VR_v.1 (opd_sound hs hT hi)).1 h0 hj hn h hc

theorem s_index {o : Oper} {a : Act} {T : Tm} {t e : TypeId} {x ix : Operand} {i n len : Nat} {ci d : AV} {cs : List AV} (hs : Sim G B0 w0 w s M) (hT : TmR w s M T a) (hop : o.op = .index t x ix) (hi : opd G T ix = some ci) (hin : asNat ci = some i) (hn : sizeT P e = some n)
    (h : opd G T x = some (.agg cs)) (hu : P.underlying t = some (.array len e)) (hlt : i < len) (hd : partT P e cs (i * n) = some d) : OpOk P G B0 w0 w s M o a d s := by
  have hv := opd_sound hs hT h
  obtain ⟨k, j, rfl, h0, hj⟩ := asNat_some hin
  have hiv := (VR_v.1 (opd_sound hs hT hi)).1
  unfold VR at hv; obtain ⟨vs, e', hv⟩ := hv
  obtain ⟨v, hr, hv⟩ := run_part (P := P) (w := w) hv hd
  refine ok_here hs (v := v) ?_ hv
  have : 0 ≤ j ∧ j < (len : Int) := ⟨h0, by omega⟩
  simp [execOp, hop, Instr.index, hiv, asIntOf, run_underlying hu, e', this, run_sizeOf hn, hj, hr]

theorem s_extract {o : Oper} {a : Act} {T : Tm} {x : Operand} {ix : Nat} {vs : List AV} {d : AV} (hs : Sim G B0 w0 w s M) (hT : TmR w s M T a) (hop : o.op = .extract x ix) (h : opd G T x = some (.tup vs)) (hd : vs[ix]? = some d) : OpOk P G B0 w0 w s M o a d s := by
  have hv := opd_sound hs hT h
  unfold VR at hv; obtain ⟨us, e, hv⟩ := hv
  rcases hv.get ix with ⟨h1, _⟩ | ⟨c, v, h1, h2, h3⟩
  · rw [h1] at hd; cases hd
  · rw [h1] at hd; cases hd
    rw [Array.getElem?_toList] at h2
    exact ok_here hs (v := v) (by simp [execOp, hop, Instr.extract, e, h2]) h3

theorem s_makeFunc {o : Oper} {a : Act} {T : Tm} {fn : FuncId} {first captured : Array Operand} {p q : List AV} (hs : Sim G B0 w0 w s M) (hT : TmR w s M T a) (hop : o.op = .makeFunc (.func fn) first captured) (h1 : opds G T first.toList = some p) (h2 : opds G T captured.toList = some q) :
    OpOk P G B0 w0 w s M o a (.fn (.func fn) p q) s := by
  refine ok_here hs (v := .func (.func fn) (first.map a.eval) (captured.map a.eval)) (by simp [execOp, hop, Instr.makeFunc]) ?_
  unfold VR
  exact ⟨_, _, _, rfl, rfl, by rw [Array.toList_map]; exact opds_sound hs hT h1, by rw [Array.toList_map]; exact opds_sound hs hT h2⟩
end
end Go.Ab
