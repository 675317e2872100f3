/- The evaluator's operations against the model's, continued: what is made, conversions, lengths, slices, maps. -/
import Derived.Test.YtaeeblcdggjokaaDoorSxOps4
namespace Go.Ab
set_option linter.unusedVariables false
set_option linter.unusedSimpArgs false
set_option linter.unusedSectionVars false
set_option linter.constructorNameAsVariable false
open Go Go.RowKit

section
variable [Interp] {P : Program} {G : Nat → Option (List AV)} {B0 : Nat} {w0 w : World} {s : St} {M : Mp}

theorem VRl_rep {z : List AV} {zv : List Value} (h : VRl w s M z zv) : ∀ n, VRl w s M (rep z n) ((List.replicate n zv).flatten)
  | 0 => VRl_nil
  | n + 1 => by rw [List.replicate_succ, List.flatten_cons]; exact h.append (VRl_rep h n)
theorem length_rep (z : List AV) : ∀ n, (rep z n).length = n * z.length
  | 0 => by simp [rep]
  | n + 1 => by simp only [rep, List.length_append, length_rep z n]; rw [Nat.add_mul]; omega
theorem all_rep {z : List AV} (h : z.all isCell = true) : ∀ n, (rep z n).all isCell = true
  | 0 => rfl
  | n + 1 => by rw [rep, List.all_append, h, all_rep h n]; rfl
theorem getElem?_flatten_replicate {α : Type} (z : List α) : ∀ (n i : Nat), i < n * z.length → (List.replicate n z).flatten[i]? = z[i % z.length]?
  | 0, i, h => by simp at h
  | n + 1, i, h => by
    rw [List.replicate_succ, List.flatten_cons]
    by_cases hi : i < z.length
    · rw [List.getElem?_append_left hi, Nat.mod_eq_of_lt hi]
    · rw [List.getElem?_append_right (by omega), getElem?_flatten_replicate z n (i - z.length) (by rw [Nat.add_mul, Nat.one_mul] at h; omega), ← Nat.mod_eq_sub_mod (by omega)]
/-- The cells of a made slice are as many zero values. -/
theorem cyc_eq (z : Array Value) (n : Nat) : ((Array.range (n * z.size)).map fun i => z[i % z.size]!) = ((List.replicate n z.toList).flatten).toArray := by
  apply Array.toList_inj.1
  apply List.ext_getElem?
  intro i
  simp only [Array.toList_map, Array.toList_range, List.getElem?_map]
  by_cases h : i < n * z.size
  · have hz : 0 < z.size := by
      rcases Nat.eq_zero_or_pos z.size with e | e
      · rw [e] at h; simp at h
      · exact e
    rw [List.getElem?_range h, getElem?_flatten_replicate _ _ _ (by simpa using h)]
    simp only [Option.map_some, Array.length_toList, Array.getElem?_toList]
    have hm := Nat.mod_lt i hz
    rw [Array.getElem?_eq_getElem hm, getElem!_pos z _ hm]
  · rw [List.getElem?_eq_none (by simp; omega), List.getElem?_eq_none (by simp; omega)]
    rfl

theorem run_makeSlice' {t e : TypeId} {i : TypeInfo} {z : Value} (ht : P.underlying t = some (.slice e)) (hi : P.info? e = some i) (hz : i.zero = some z) (hzs : z.cells.size = i.size) {kl kc : IntKind} {l c : Int} (h0 : 0 ≤ l) (hlc : l ≤ c)
    (hbytes : i.bytes * c.toNat ≤ 2 ^ 40) (h63 : c.toNat ≤ 2 ^ 40) :
    (Instr.makeSlice t (.int kl l) (.int kc c)).run P w = .ok (.slice (some ⟨w.heap.size, 0, none⟩) l.toNat c.toNat) (w.alloc (.cells ((List.replicate c.toNat z.cells.toList).flatten).toArray e)) := by
  have hb : (i.bytes : Int) * c ≤ 281474976710656 := by
    have h1 : ((i.bytes * c.toNat : Nat) : Int) ≤ ((2 ^ 40 : Nat) : Int) := by exact_mod_cast hbytes
    have h2 : ((c.toNat : Nat) : Int) = c := by omega
    rw [Int.natCast_mul, h2] at h1
    have : ((2 ^ 40 : Nat) : Int) = 1099511627776 := by decide
    omega
  have hc : c ≤ 9223372036854775807 := by
    have : (2 ^ 40 : Nat) = 1099511627776 := by decide
    omega
  rw [run_make w t e i z ht hi hz kl kc l c h0 hlc hb hc]
  congr 2
  unfold madeCells
  by_cases hn : c.toNat * i.size = 0
  · simp only [hn]
    rw [Nat.mul_eq_zero] at hn
    rcases hn with hn | hn
    · rw [hn]; simp
    · have : z.cells = #[] := Array.eq_empty_of_size_eq_zero (by rw [hzs, hn])
      rw [this]; simp
  · rw [← hzs, cyc_eq]

theorem info_of {t : TypeId} {size bytes : Nat} {zc : List AV} (h1 : sizeT P t = some size) (h2 : bytesT P t = some bytes) (h3 : zeroCellsT P t = some zc) (h4 : zc.length = size) :
    ∃ i z, P.info? t = some i ∧ i.zero = some z ∧ i.size = size ∧ i.bytes = bytes ∧ scAll z.cells.toList = some zc ∧ z.cells.size = i.size := by
  obtain ⟨zv, hz1, hz2⟩ := zeroCells_some h3
  unfold sizeT at h1; unfold bytesT at h2; unfold zeroT at hz1
  rw [Option.map_eq_some_iff] at h1 h2
  rw [Option.bind_eq_some_iff] at hz1
  obtain ⟨i, hi, rfl⟩ := h1
  obtain ⟨i', hi', rfl⟩ := h2
  obtain ⟨i'', hi'', hzv⟩ := hz1
  rw [hi] at hi' hi''; cases hi'; cases hi''
  refine ⟨i, zv, hi, hzv, rfl, rfl, hz2, ?_⟩
  have := (VRl_scAll (w := default) (s := none0) (M := ⟨id, id, fun _ => .nil, fun _ _ => False⟩) hz2).length
  rw [h4] at this; simp at this; exact this.symm

theorem s_make_full {o : Oper} {a : Act} {T : Tm} {t e : TypeId} {ol oc : Operand} {cl cc : AV} {l size bytes : Nat} {z : List AV} (hs : Sim G B0 w0 w s M) (hT : TmR w s M T a) (hop : o.op = .makeSlice t ol oc) (ht : P.underlying t = some (.slice e))
    (h1 : sizeT P e = some size) (h2 : bytesT P e = some bytes) (h3 : zeroCellsT P e = some z) (h4 : z.length = size) (hl : opd G T ol = some cl) (hc : opd G T oc = some cc) (hln : asNat cl = some l) (hcn : asNat cc = some l) (hr : s.room = true)
    (hb : bytes * l ≤ 2 ^ 40) (h63 : l ≤ 2 ^ 40) : OpOk P G B0 w0 w s M o a (.ms s.n 0 l) (s.new (.box (rep z l) 0)) := by
  obtain ⟨i, zv, hi, hzv, rfl, rfl, hz2, hzs⟩ := info_of h1 h2 h3 h4
  obtain ⟨kl, jl, rfl, hl0, hl1⟩ := asNat_some hln
  obtain ⟨kc, jc, rfl, hc0, hc1⟩ := asNat_some hcn
  have el := (VR_v.1 (opd_sound hs hT hl)).1
  have ec := (VR_v.1 (opd_sound hs hT hc)).1
  have hrun := run_makeSlice' (w := w) ht hi hzv hzs (kl := kl) (kc := kc) hl0 (by omega : jl ≤ jc) (by rw [hc1]; exact hb) (by rw [hc1]; exact h63)
  rw [hc1, hl1] at hrun
  have hv := VRl_rep (VRl_scAll (w := w) (s := s) (M := M) hz2) l
  obtain ⟨hs', hE⟩ := new_box hs hr (vs := ((List.replicate l zv.cells.toList).flatten).toArray) e hv (all_rep (scAll_cells hz2) l)
  refine ok_value (v := .slice (some ⟨w.heap.size, 0, none⟩) l l) (by simp [execOp, hop, el, ec, hrun]) ?_ hs' hE
  unfold VR
  exact ⟨by simp [St.new], l, Nat.le_refl _, by simp [Mp.add]⟩
theorem s_make_none {o : Oper} {a : Act} {T : Tm} {t e : TypeId} {ol oc : Operand} {cl cc : AV} {c size bytes : Nat} {z : List AV} (hs : Sim G B0 w0 w s M) (hT : TmR w s M T a) (hop : o.op = .makeSlice t ol oc) (ht : P.underlying t = some (.slice e))
    (h1 : sizeT P e = some size) (h2 : bytesT P e = some bytes) (h3 : zeroCellsT P e = some z) (h4 : z.length = size) (hl : opd G T ol = some cl) (hc : opd G T oc = some cc) (hln : asNat cl = some 0) (hcn : asNat cc = some c) (hr : s.room = true)
    (hb : bytes * c ≤ 2 ^ 40) (h63 : c ≤ 2 ^ 40) : OpOk P G B0 w0 w s M o a (.sl [] 0 (some s.n)) (s.new (.row (.c 0) size)) := by
  obtain ⟨i, zv, hi, hzv, rfl, rfl, hz2, hzs⟩ := info_of h1 h2 h3 h4
  obtain ⟨kl, jl, rfl, hl0, hl1⟩ := asNat_some hln
  obtain ⟨kc, jc, rfl, hc0, hc1⟩ := asNat_some hcn
  have el := (VR_v.1 (opd_sound hs hT hl)).1
  have ec := (VR_v.1 (opd_sound hs hT hc)).1
  have hrun := run_makeSlice' (w := w) ht hi hzv hzs (kl := kl) (kc := kc) hl0 (by omega : jl ≤ jc) (by rw [hc1]; exact hb) (by rw [hc1]; exact h63)
  rw [hc1, hl1] at hrun
  obtain ⟨hs', hE⟩ := new_row hs hr (vs := ((List.replicate c zv.cells.toList).flatten).toArray) e (0, 0) (.c 0) i.size c (by simp [hzs]) (Nat.zero_le _) (.inl rfl)
  refine ok_value (v := .slice (some ⟨w.heap.size, 0, none⟩) 0 c) (by simp [execOp, hop, el, ec, hrun]) ?_ hs' hE
  unfold VR
  refine ⟨w.heap.size, 0, c, rfl, Nat.zero_le _, VRs_nil, fun t' ht' => ?_⟩
  cases ht'
  exact ⟨by simp [St.new], fun tip e' _ => by simp [Mp.add]⟩

theorem s_makeMap {o : Oper} {a : Act} {t : TypeId} (hs : Sim G B0 w0 w s M) (hop : o.op = .makeMap t none) (hr : s.room = true) : OpOk P G B0 w0 w s M o a (.mp s.n) (s.new (.map [])) := by
  have hE := ext_new (w := w) (M := M) (room_lt hr) (fun i hi => (hs.blk i hi).2) (.map #[] 0) (.map []) 0
  refine ok_value (v := .map (some w.heap.size)) (by simp [execOp, hop, Instr.makeMap]) ?_ (sim_new hs (room_lt hr) (.map #[] 0) (.map []) 0 ⟨#[], 0, heap_new _ _, rfl⟩) hE
  unfold VR; simp [St.new, Mp.add]

/-! ### Texts and bytes -/
theorem s_str_bytes {o : Oper} {a : Act} {T : Tm} {src dst e : TypeId} {x : Operand} {b : ByteArray} (hs : Sim G B0 w0 w s M) (hT : TmR w s M T a) (hop : o.op = .convert src dst x) (h1 : P.underlying src = some .string) (h2 : P.underlying dst = some (.slice e))
    (h3 : P.underlying e = some (.int .u8)) (hx : opd G T x = some (.v (.string b))) (hr : s.room = true) :
    OpOk P G B0 w0 w s M o a (.sl (b.data.toList.map fun c => .v (.int .u8 c.toNat)) b.size (some s.n)) (s.new (.row (.c b.size) 1)) := by
  have ex := (VR_v.1 (opd_sound hs hT hx)).1
  let cap := (Question.appendCap b.size 0 e).cut (w.tape w.drawn (.appendCap b.size 0 e))
  have hcap : b.size ≤ cap := by simp [cap, Question.cut]
  let cells : Array Value := (b.data.map fun b => .int .u8 b.toNat) ++ Array.replicate (cap - b.size) (.int .u8 0)
  have hsz : cells.size = cap := by simp only [cells, Array.size_append, Array.size_map, Array.size_replicate]; show b.size + (cap - b.size) = cap; omega
  have hfr : ∀ W : World, ({ W.alloc (.cells cells e) with } : World) = W.alloc (.cells cells e) := fun _ => rfl
  have hmark : (markStringish ⟨w.drew.heap.size, 0, none⟩).run P (w.drew.alloc (.cells cells e)) = .ok () (w.drew.alloc (.cells cells e (cells.size, cells.size + 1))) := by
    have hsh : (w.drew.alloc (.cells cells e)).shape? w.drew.heap.size = some (e, cells.size) := by unfold World.shape?; rw [heap_new]
    unfold markStringish
    simp only [Sem.run_bind, run_shape, Result.andThen_ok, hsh, run_freeze]
    congr 1
    unfold World.freeze
    rw [if_neg (by decide)]
    show ({ w.drew.alloc (.cells cells e) with heap := (w.drew.heap.push (.cells cells e)).modify w.drew.heap.size _ } : World) = { w.drew with heap := w.drew.heap.push (.cells cells e (cells.size, cells.size + 1)) }
    have hm : ∀ (a : Array Obj) (x : Obj) (f : Obj → Obj), (a.push x).modify a.size f = a.push (f x) := by
      intro a x f
      apply Array.ext
      · simp
      · intro i h1 h2
        simp only [Array.getElem_modify, Array.getElem_push]
        by_cases h : a.size = i
        · subst h; simp
        · have hi : i < a.size := by simp at h1; omega
          simp [h, hi]
    rw [hm]
    rfl
  have hrun : (execOp a.eval o).run P w = .ok (.value (.slice (some ⟨w.heap.size, 0, none⟩) b.size cap)) (w.drew.alloc (.cells cells e (cells.size, cells.size + 1))) := by
    have hm' := hmark
    simp only [World.size_drew] at hm'
    simp only [execOp, hop, convert, ex, Sem.run_bind, run_underlying h1, run_underlying h2, run_underlying h3, Result.andThen_ok, Conv.stringToBytes, run_choose, Question.forced, Bool.false_eq_true, if_false, newRow, run_newObj, World.alloc_eq, World.drew_eq, Sem.run_pure]
    show Result.andThen (Result.andThen ((markStringish ⟨w.drew.heap.size, 0, none⟩).run P (w.drew.alloc (.cells cells e))) _) _ = _
    rw [hmark]
    rfl
  have hs1 := sim_drew hs
  obtain ⟨hs2, hE2⟩ := new_row hs1 hr (vs := cells) e (cells.size, cells.size + 1) (.c b.size) 1 cap (by rw [hsz, Nat.mul_one]) (by rw [hsz]; exact hcap) (.inr (Nat.le_refl _))
  refine ok_value hrun ?_ hs2 (ext_drew.trans hE2)
  have hgn : (s.new (.row (.c b.size) 1)).get s.n = some (.row (.c b.size) 1) := by rw [St.get_new _ _ _ (room_lt hr)]; exact if_pos rfl
  have hbn : (M.add s.n w.drew.heap.size cap).blk s.n = w.heap.size := by simp [Mp.add]
  have hlt : s.n < (s.new (.row (.c b.size) 1)).n := by simp [St.new]
  unfold VR
  refine ⟨w.heap.size, 0, cap, rfl, hcap, ?_, fun t' ht' => ?_⟩
  · have := VRs_row hs2 hlt hgn (c := cells) (e := e) (fr := (cells.size, cells.size + 1)) (by rw [hbn]; exact heap_new w.drew _) (cs := b.data.toList.map fun c => .v (.int .u8 c.toNat))
      (by
        have e1 : cells.toList.take (b.data.toList.map fun c => AV.v (.int .u8 c.toNat)).length = b.data.toList.map fun c => Value.int .u8 c.toNat := by
          simp only [cells, Array.toList_append, Array.toList_map, List.length_map]
          rw [List.take_left']
          simp
        rw [e1]
        refine VRl.of_get (by simp) fun i c v h1 h2 => ?_
        simp only [List.getElem?_map, Option.map_eq_some_iff] at h1 h2
        obtain ⟨b1, hb1, rfl⟩ := h1
        obtain ⟨b2, hb2, rfl⟩ := h2
        rw [hb1] at hb2; cases hb2
        exact VR_v_of rfl)
      (by simp [Tip.val]) (by rw [List.all_eq_true]; intro q hq; rw [List.mem_map] at hq; obtain ⟨_, _, rfl⟩ := hq; rfl)
    rw [hbn] at this; exact this
  · cases ht'
    exact ⟨hlt, fun tip e' _ => by simp [Mp.add]⟩

theorem bytesGo : ∀ {cs : List AV} {acc b : ByteArray} {vs : List Value}, bytesOfCells.go cs acc = some b → VRl w s M cs vs → ∃ ns : List Int, vs = ns.map (Value.int .u8) ∧ b = ns.foldl (fun r n => r.push (UInt8.ofNat n.toNat)) acc
  | [], acc, b, vs, h, k => by
    simp only [bytesOfCells.go, Option.some.injEq] at h
    unfold VRl at k; subst k h
    exact ⟨[], rfl, rfl⟩
  | c :: r, acc, b, vs, h, k => by
    unfold VRl at k; obtain ⟨v, t, rfl, k1, k2⟩ := k
    unfold bytesOfCells.go at h
    split at h
    · cases ‹_ :: _ = []›
    · rename_i acc' n r' e
      cases e
      obtain ⟨rfl, _⟩ := VR_v.1 k1
      obtain ⟨ns, rfl, rfl⟩ := bytesGo h k2
      exact ⟨n :: ns, rfl, rfl⟩
    · cases h
theorem bytesOf {cs : List AV} {b : ByteArray} {vs : List Value} (h : bytesOfCells cs = some b) (k : VRl w s M cs vs) : ∃ ns : List Int, vs = ns.map (Value.int .u8) ∧ b = ns.foldl (fun r n => r.push (UInt8.ofNat n.toNat)) .empty := by
  unfold bytesOfCells at h
  split at h
  · cases h; unfold VRl at k; subst k; exact ⟨[], rfl, rfl⟩
  · exact bytesGo h k

theorem s_bytes_str {o : Oper} {a : Act} {T : Tm} {src dst e : TypeId} {x : Operand} {c : AV} {cs : List AV} {n : Nat} {b : ByteArray} (hs : Sim G B0 w0 w s M) (hT : TmR w s M T a) (hop : o.op = .convert src dst x) (h1 : P.underlying src = some (.slice e))
    (h2 : P.underlying dst = some .string) (h3 : P.underlying e = some (.int .u8)) (hx : opd G T x = some c) (hc : (∃ cs len tok, c = .sl cs len tok) ∨ (∃ b off len, c = .ms b off len) ∨ ∃ b len, c = .mg b len) (hh : heldBy s 1 c = some (cs, n)) (hb : bytesOfCells cs = some b) :
    OpOk P G B0 w0 w s M o a (.v (.string b)) s := by
  have vx := opd_sound hs hT hx
  have hl : cs.length = n * 1 := by
    rcases hc with ⟨cs', len, tok, rfl⟩ | ⟨b', off, len, rfl⟩ | ⟨b', len, rfl⟩
    · simp only [heldBy] at hh
      split at hh
      · rename_i hle; simp only [Option.some.injEq, Prod.mk.injEq] at hh; obtain ⟨rfl, rfl⟩ := hh
        have := Nat.le_of_ble_eq_true hle; rw [List.length_take]; omega
      · cases hh
    · simp only [heldBy] at hh
      split at hh
      · split at hh
        · rename_i hle; simp only [Option.some.injEq, Prod.mk.injEq] at hh; obtain ⟨rfl, rfl⟩ := hh
          have := Nat.le_of_ble_eq_true hle; rw [List.length_take, List.length_drop]; omega
        · cases hh
      · cases hh
    · simp only [heldBy] at hh
      split at hh
      · split at hh
        · rename_i hle; simp only [Option.some.injEq, Prod.mk.injEq] at hh; obtain ⟨rfl, rfl⟩ := hh
          have := Nat.le_of_ble_eq_true hle; rw [List.length_take]; omega
        · cases hh
      · cases hh
  obtain ⟨vs, hvs, hlen, hf, _⟩ := heldBy_sound (P := P) hs hh vx hl
  obtain ⟨ns, rfl, rfl⟩ := bytesOf hb hvs
  have key : ∃ b off cap, a.eval x = .slice (some ⟨b, off, none⟩) n cap := by
    rcases hc with ⟨cs', len, tok, rfl⟩ | ⟨b', off, len, rfl⟩ | ⟨b', len, rfl⟩
    · unfold VR at vx; obtain ⟨b, off, cap, e1, _⟩ := vx
      have := hlen w; rw [e1] at this; simp [Builtin.lenOf] at this; subst this
      exact ⟨b, off, cap, e1⟩
    · unfold VR at vx; obtain ⟨_, cap, _, e1⟩ := vx
      have := hlen w; rw [e1] at this; simp [Builtin.lenOf] at this; subst this
      exact ⟨_, off, cap, e1⟩
    · unfold VR at vx; obtain ⟨_, _, e1⟩ := vx
      have := hlen w; rw [e1] at this; simp [Builtin.lenOf] at this; subst this
      exact ⟨_, 0, _, e1⟩
  obtain ⟨b, off, cap, e1⟩ := key
  rw [e1] at hf
  simp only [Builtin.firstCells, Nat.mul_one] at hf
  refine ok_here hs (v := .string _) ?_ (VR_v_of rfl)
  simp only [execOp, hop, Sem.run_bind, e1, run_convert_bytes_string w src dst e _ _ _ h1 h3 h2, run_bytesToString w _ n cap ns hf, Result.andThen_ok, Sem.run_pure]

theorem s_nil_str {o : Oper} {a : Act} {T : Tm} {src dst e : TypeId} {x : Operand} {c : AV} (hs : Sim G B0 w0 w s M) (hT : TmR w s M T a) (hop : o.op = .convert src dst x) (h1 : P.underlying src = some (.slice e))
    (h2 : P.underlying dst = some .string) (h3 : P.underlying e = some (.int .u8)) (hx : opd G T x = some c) (hc : (∃ l k, c = .v (.slice none l k)) ∨ c = .e0) : OpOk P G B0 w0 w s M o a (.v (.string .empty)) s := by
  have vx := opd_sound hs hT hx
  refine ok_here hs (v := .string .empty) ?_ (VR_v_of rfl)
  rcases hc with ⟨l, k, rfl⟩ | rfl
  · have e1 := (VR_v.1 vx).1
    simp only [execOp, hop, Sem.run_bind, e1, run_convert_bytes_string w src dst e _ _ _ h1 h3 h2]
    simp [Conv.bytesToString]
  · unfold VR at vx; obtain ⟨b, off, e1⟩ := vx
    have := run_bytesToString (P := P) w ⟨b, off, none⟩ 0 0 [] (by simp [loadCells, loadCellsFrom])
    simp only [execOp, hop, Sem.run_bind, e1, run_convert_bytes_string w src dst e _ _ _ h1 h3 h2, this, Result.andThen_ok, Sem.run_pure]
    rfl
end
end Go.Ab
