/- The evaluator's operations against the model's: pointers held against themselves, unsafe pointers and texts (strings.Builder), methods behind interfaces. -/
import Derived.Test.YtaeeblcdggjokaaDoorSxOps8
import Derived.Lib.Builder
import Derived.Lib.UnsafeStr
import Derived.Laws.Externs
import Derived.KernelRfl
namespace Go.Ab
set_option linter.unusedVariables false
set_option linter.unusedSimpArgs false
set_option linter.unusedSectionVars false
set_option linter.constructorNameAsVariable false
open Go Go.RowKit

section
variable [Interp] {P : Program} {G : Nat → Option (List AV)} {B0 : Nat} {w0 w : World} {s : St} {M : Mp}

theorem s_ptrEq {o : Oper} {a : Act} {T : Tm} {op : BinOp} {t yt : TypeId} {x y : Operand} {c d : AV} {r : Bool} (hs : Sim G B0 w0 w s M) (hT : TmR w s M T a) (hop : o.op = .binOp op t x y yt) (hx : opd G T x = some c) (hy : opd G T y = some d)
    (hr : ptrEq P t c d = some r) (ho : op = .eql ∨ op = .neq) : OpOk P G B0 w0 w s M o a (.v (.bool (if op = .eql then r else !r))) s := by
  have h1 := opd_sound hs hT hx
  have h2 := opd_sound hs hT hy
  unfold ptrEq at hr
  split at hr
  · rename_i e i p j q hu
    split at hr
    · rename_i hc
      simp only [Bool.and_eq_true] at hc
      obtain ⟨⟨e1, e2⟩, e3⟩ := hc
      have e1 := nbe e1; have e2 := nbe e2
      subst e1; subst e2
      cases hr
      obtain ⟨inf, hi⟩ := Option.isSome_iff_exists.1 e3
      unfold VR at h1 h2
      obtain ⟨_, h1⟩ := h1; obtain ⟨_, h2⟩ := h2
      have heq : (Op.equal t (.pointer (some ⟨M.blk i, p, none⟩)) (.pointer (some ⟨M.blk i, p, none⟩))).run P w = .ok true w := by
        have h : ∀ d : Nat, (Op.equalIn (d + 1) t (.pointer (some ⟨M.blk i, p, none⟩)) (.pointer (some ⟨M.blk i, p, none⟩))).run P w = .ok true w := fun d => by
          simp [Op.equalIn, run_underlying hu, sizeOf, typeInfo, hi, run_sameAddr_same]
        simp [Op.equal, Op.maxDepth, h 9999]
      refine ok_here hs (v := .bool (if op = .eql then true else !true)) ?_ (VR_v_of rfl)
      have k2 : (eqGuard op t x y (a.eval x) (a.eval y)).run P w = .ok () w := by rw [h1, h2]; rcases ho with rfl | rfl <;> rfl
      have k3 : binOp .eql t (a.eval x) (a.eval y) = (do pure (.bool (← Op.equal t (a.eval x) (a.eval y)))) := by rw [h1, h2]; rfl
      have k4 : binOp .neq t (a.eval x) (a.eval y) = (do pure (.bool (!(← Op.equal t (a.eval x) (a.eval y))))) := by rw [h1, h2]; rfl
      have heq : (Op.equal t (a.eval x) (a.eval y)).run P w = .ok true w := by rw [h1, h2]; exact heq
      rcases ho with rfl | rfl
      · simp only [execOp, hop, Sem.run_bind, k2, Result.andThen_ok, k3, heq, Sem.run_pure, if_true]
      · simp only [execOp, hop, Sem.run_bind, k2, Result.andThen_ok, k4, heq, Sem.run_pure]
        rfl
    · cases hr
  · cases hr
theorem s_eqRef {o : Oper} {a : Act} {T : Tm} {op : BinOp} {t yt : TypeId} {x y : Operand} {c d : AV} {r : Bool} (hs : Sim G B0 w0 w s M) (hT : TmR w s M T a) (hop : o.op = .binOp op t x y yt) (hx : opd G T x = some c) (hy : opd G T y = some d)
    (hr : eqRef P t c d = some r) (ho : op = .eql ∨ op = .neq) : OpOk P G B0 w0 w s M o a (.v (.bool (if op = .eql then r else !r))) s := by
  unfold eqRef at hr
  split at hr
  · rename_i r' h
    cases hr; exact s_eqNil hs hT hop hx hy h ho
  · exact s_ptrEq hs hT hop hx hy hr ho

theorem cmpV_run {op : BinOp} {x y : Value} {b : Bool} (t : TypeId) (h : cmpV op x y = some b) (w : World) : (binOp op t x y).run P w = .ok (.bool b) w := by
  unfold cmpV at h
  split at h
  · rename_i k a k' c
    split at h
    · rename_i hk
      subst hk
      split at h <;> first | (cases h; done) | (cases h; simp [binOp, Op.intCmp])
    · cases h
  · rename_i a c
    split at h <;> first | (cases h; done) | (cases h; simp [binOp, Op.stringOp])
  · cases h
theorem cmpV_guard {op : BinOp} {x y : Value} {b : Bool} (t : TypeId) (ox oy : Operand) (h : cmpV op x y = some b) (w : World) : (eqGuard op t ox oy x y).run P w = .ok () w := by
  unfold cmpV at h
  split at h
  · unfold eqGuard; split <;> rfl
  · unfold eqGuard; split <;> rfl
  · cases h
theorem keyIs_eq {l m : Value} (h : keyIs l m = true) : m = l := by
  unfold keyIs at h
  split at h
  · rename_i hk; exact sameKey_eq hk
  · cases h
theorem symLook_some {op : BinOp} {l x : Value} {r : Bool} : ∀ {bits : List (BinOp × Value × Bool)}, symLook op l bits = some r → (∀ e ∈ bits, cmpV e.1 x e.2.1 = some e.2.2) → cmpV op x l = some r
  | [], h, _ => by cases h
  | (o, m, b) :: rest, h, hb => by
    unfold symLook at h
    split at h
    · rename_i hc
      rw [Bool.and_eq_true] at hc
      have h1 : o = op := by simpa using hc.1
      have h2 := keyIs_eq hc.2
      have h3 := hb (o, m, b) (by simp)
      simp only at h3
      rw [h2, h1] at h3
      rw [h3]; exact h
    · exact symLook_some h fun e he => hb e (List.mem_cons_of_mem _ he)
theorem cmpV_comm {x y : Value} {b : Bool} (h : cmpV .eql x y = some b) : cmpV .eql y x = some b := by
  unfold cmpV at h
  split at h
  · rename_i k a k' c
    split at h
    · rename_i hk
      subst hk
      unfold cmpV
      simp only [if_true] at h ⊢
      rw [← h]
      congr 1
      rw [Bool.eq_iff_iff, beq_iff_eq, beq_iff_eq]; exact ⟨Eq.symm, Eq.symm⟩
    · cases h
  · rename_i a c
    unfold cmpV
    simp only at h ⊢
    rw [← h]
    congr 1
    rw [Bool.eq_iff_iff, beq_iff_eq, beq_iff_eq]; exact ⟨Eq.symm, Eq.symm⟩
  · cases h
theorem s_symCmp {o : Oper} {a : Act} {T : Tm} {op : BinOp} {t yt : TypeId} {x y : Operand} {c d : AV} {r : Bool} (hs : Sim G B0 w0 w s M) (hT : TmR w s M T a) (hop : o.op = .binOp op t x y yt) (hx : opd G T x = some c) (hy : opd G T y = some d)
    (hr : symCmp op c d = some r) : OpOk P G B0 w0 w s M o a (.v (.bool r)) s := by
  have h1 := opd_sound hs hT hx
  have h2 := opd_sound hs hT hy
  have key : cmpV op (a.eval x) (a.eval y) = some r := by
    unfold symCmp at hr
    split at hr
    · rename_i xv bits l
      unfold VR at h1
      obtain ⟨e1, _, _, hb⟩ := h1
      rw [e1, (VR_v.1 h2).1]
      exact symLook_some hr hb
    · rename_i l xv bits
      unfold VR at h2
      obtain ⟨e1, _, _, hb⟩ := h2
      rw [e1, (VR_v.1 h1).1]
      split at hr
      · rename_i ho
        subst ho
        exact cmpV_comm (symLook_some hr hb)
      · cases hr
    · cases hr
  refine ok_here hs (v := .bool r) ?_ (VR_v_of rfl)
  simp only [execOp, hop, Sem.run_bind, cmpV_guard t x y key w, Result.andThen_ok, cmpV_run t key w, Sem.run_pure]

theorem s_toUnsafe {o : Oper} {a : Act} {T : Tm} {src dst e : TypeId} {x : Operand} {c r : AV} {s' : St} (hs : Sim G B0 w0 w s M) (hT : TmR w s M T a) (hop : o.op = .convert src dst x) (hu : P.underlying src = some (.pointer e)) (hd : P.underlying dst = some .unsafePointer)
    (hx : opd G T x = some c) (h : toUnsafe P e s c = some (r, s')) : OpOk P G B0 w0 w s M o a r s' := by
  have hv := opd_sound hs hT hx
  unfold toUnsafe at h
  split at h
  · rename_i i off
    split at h
    · rename_i cs k n hg hn
      split at h
      · rename_i hc
        simp only [Bool.and_eq_true, Bool.not_eq_true'] at hc
        cases h
        have hv' := hv
        unfold VR at hv
        obtain ⟨hi, ev⟩ := hv
        obtain ⟨vs, el, fr, h1, h2, _⟩ := hs.obj i _ hi hg
        unfold sizeT at hn
        obtain ⟨inf, hinf, rfl⟩ := Option.map_eq_some_iff.1 hn
        have hl := h2.length
        have hle := Nat.le_of_ble_eq_true hc.1
        refine ok_here hs (v := a.eval x) ?_ hv'
        have := Lib.run_to_unsafe (P := P) (src := src) (dst := dst) w ⟨M.blk i, off, none⟩ hu hd hinf (fun e0 => by rw [e0] at hc; cases hc.2) (e := el) (cells := vs.size) (by unfold World.shape?; rw [h1]) (by simp only; simp at hl; omega)
        rw [ev]
        simp [execOp, hop, ev, this]
      · cases h
    · cases h
  · cases h
theorem s_fromUnsafe {o : Oper} {a : Act} {T : Tm} {src dst e : TypeId} {x : Operand} {c r : AV} {s' : St} (hs : Sim G B0 w0 w s M) (hT : TmR w s M T a) (hop : o.op = .convert src dst x) (hu : P.underlying src = some .unsafePointer) (hd : P.underlying dst = some (.pointer e))
    (hx : opd G T x = some c) (h : fromUnsafe P e s c = some (r, s')) : OpOk P G B0 w0 w s M o a r s' := by
  have hv := opd_sound hs hT hx
  unfold fromUnsafe at h
  split at h
  · rename_i i off
    split at h
    · rename_i cs k hg
      split at h
      · rename_i hc
        simp only [Bool.and_eq_true] at hc
        obtain ⟨⟨⟨c1, c2⟩, c3⟩, c4⟩ := hc
        cases h
        have hv' := hv
        unfold VR at hv
        obtain ⟨hi, ev⟩ := hv
        obtain ⟨vs, el, fr, h1, h2, _, _, h5⟩ := hs.obj i _ hi hg
        obtain ⟨inf, hinf⟩ := Option.isSome_iff_exists.1 c3
        obtain ⟨rfl, hsz⟩ := h5.2 (Nat.le_of_ble_eq_true c1)
        have hsz := hsz (nbe c2)
        refine ok_here hs (v := a.eval x) ?_ hv'
        have := Lib.run_from_unsafe (P := P) (src := src) (dst := dst) w ⟨M.blk i, off, none⟩ hu hd hinf (e := k / tyBase - 1) (cells := vs.size) (by unfold World.shape?; rw [h1]) (by rw [hsz]; exact c4)
        rw [ev]
        simp [execOp, hop, ev, this]
      · cases h
    · cases h
  · cases h

theorem s_sliceData {o : Oper} {a : Act} {T : Tm} {c : Go.Call} {x r : AV} (hs : Sim G B0 w0 w s M) (hT : TmR w s M T a) (hop : o.op = .call c) (hc : c.callee = .builtin .unsafeSliceData) (ha : opds G T c.args.toList = some [x]) (h : sliceData x = some r) :
    OpOk P G B0 w0 w s M o a r s := by
  have hv := opds_sound hs hT ha
  unfold VRl at hv
  obtain ⟨v, t, e, hv, ht⟩ := hv
  unfold VRl at ht
  subst ht
  have eargs : c.args.map a.eval = #[v] := by apply Array.toList_inj.1; rw [Array.toList_map, e]
  unfold sliceData at h
  split at h
  · rename_i b len
    split at h
    · rename_i hl
      cases h
      unfold VR at hv
      obtain ⟨hb, hcap, rfl⟩ := hv
      have hl := Nat.le_of_ble_eq_true hl
      refine ok_here hs (v := .pointer (some ⟨M.blk b, 0, none⟩)) ?_ (by unfold VR; exact ⟨hb, rfl⟩)
      have := Lib.run_unsafeSliceData_row (P := P) w c.argTypes o.type ⟨M.blk b, 0, none⟩ len (M.cap b) (by omega)
      simp [execOp, hop, resolve, hc, invoke, builtin, eargs, this]
    · cases h
  · cases h
    obtain ⟨rfl, _⟩ := VR_v.1 hv
    refine ok_here hs (v := .pointer none) ?_ (VR_v_of rfl)
    have := Lib.run_unsafeSliceData_nil (P := P) w c.argTypes o.type
    simp [execOp, hop, resolve, hc, invoke, builtin, eargs, this]
  · cases h

theorem bytesEx_cells : ∀ {l : List AV} {vs : List Value} {bs : List UInt8}, bytesEx l = some bs → VRl w s M l vs → vs = Lib.byteCells bs ∧ bs.length = l.length
  | [], vs, bs, h, hv => by
    simp only [bytesEx, Option.some.injEq] at h
    unfold VRl at hv
    subst h; subst hv
    exact ⟨rfl, rfl⟩
  | c :: r, vs, bs, h, hv => by
    unfold VRl at hv
    obtain ⟨v, u, rfl, h1, h2⟩ := hv
    unfold bytesEx at h
    split at h
    · rename_i e; cases e
    · rename_i m r' e
      cases e
      split at h
      · rename_i hm
        split at h
        · rename_i l hl
          cases h
          obtain ⟨rfl, _⟩ := VR_v.1 h1
          obtain ⟨rfl, k⟩ := bytesEx_cells hl h2
          have hm := Nat.le_of_ble_eq_true hm
          refine ⟨?_, by simp [k]⟩
          simp only [Lib.byteCells, List.map_cons, List.cons.injEq, and_true, Value.int.injEq, true_and]
          rw [UInt8.toNat_ofNat_of_lt' (by simp [UInt8.size]; omega)]
          rfl
        · cases h
      · cases h
    · cases h

theorem s_unsafeStr {o : Oper} {a : Act} {T : Tm} {c : Go.Call} {pt : TypeId} {x r : AV} {n : Nat} {s' : St} (hs : Sim G B0 w0 w s M) (hT : TmR w s M T a) (hop : o.op = .call c) (hc : c.callee = .builtin .unsafeString) {it : TypeId} (hA : c.argTypes.toList = [pt, it])
    (ha : opds G T c.args.toList = some [x, .v (.int .i64 (.ofNat n))]) (h : unsafeStr P pt s x n = some (r, s')) : OpOk P G B0 w0 w s M o a r s' := by
  have hv := opds_sound hs hT ha
  unfold VRl at hv
  obtain ⟨v, t, e, hv, ht⟩ := hv
  unfold VRl at ht
  obtain ⟨v2, t2, rfl, hv2, ht2⟩ := ht
  unfold VRl at ht2
  subst ht2
  have eargs : c.args.map a.eval = #[v, v2] := by apply Array.toList_inj.1; rw [Array.toList_map, e]
  have eA : c.argTypes = #[pt, it] := by apply Array.toList_inj.1; rw [hA]
  obtain ⟨rfl, _⟩ := VR_v.1 hv2
  unfold unsafeStr at h
  split at h
  · split at h
    · rename_i hz
      have hz := nbe hz
      subst hz
      cases h
      obtain ⟨rfl, _⟩ := VR_v.1 hv
      refine ok_here hs (v := .string .empty) ?_ (VR_v_of rfl)
      have := Lib.run_unsafeString_none (P := P) w pt it o.type none
      simp [execOp, hop, resolve, hc, invoke, builtin, eargs, eA, this]
    · cases h
  · rename_i b
    split at h
    · rename_i cs kk ee hrow hu
      split at h
      · rename_i hcond
        simp only [Bool.and_eq_true] at hcond
        obtain ⟨⟨⟨⟨⟨c1, c2⟩, c3⟩, c4⟩, c5⟩, c6⟩ := hcond
        have c1 := Nat.le_of_ble_eq_true c1; have c2 := Nat.le_of_ble_eq_true c2; have c3 := Nat.le_of_ble_eq_true c3
        have c4 := nbe c4; have c5 := nbe c5; have c6 := nbe c6
        split at h
        · rename_i l hl
          cases h
          unfold VR at hv
          obtain ⟨hb, rfl⟩ := hv
          -- the row
          obtain ⟨ob, hg, hlive, hrw, vs, el, fr, h1, h2, h3, h5⟩ : ∃ ob, s.get b = some ob ∧ ob.live ∧ (∀ tip e, ob ≠ .row tip e) ∧ ∃ vs el fr, w.heap[M.blk b]? = some (.cells vs el fr) ∧ VRl w s M cs (vs.toList.take cs.length) ∧ cs.all isCell = true ∧ BoxK kk cs.length vs.size (M.cap b) el := by
            unfold rowOf at hrow
            split at hrow
            · rename_i cs' k' hg
              cases hrow
              obtain ⟨vs, el, fr, h1, h2, h3, _, h5⟩ := hs.obj b _ hb hg
              exact ⟨_, hg, trivial, fun _ _ => by simp, vs, el, fr, h1, h2, h3, h5⟩
            · rename_i cs' k' hg
              cases hrow
              obtain ⟨vs, el, fr, h1, h2, h3, h5⟩ := hs.obj b _ hb hg
              exact ⟨_, hg, trivial, fun _ _ => by simp, vs, el, fr, h1, h2, h3, h5⟩
            · cases hrow
          have hbase : tyBase ≤ kk := by
            rcases Nat.lt_or_ge kk tyBase with q | q
            · rw [Nat.div_eq_of_lt q] at c5; omega
            · exact q
          have hel : el = ee := by rw [(h5.2 hbase).1, c5]; rfl
          subst hel
          have hlen := h2.length
          obtain ⟨hbytes, hll⟩ := bytesEx_cells hl (h2.take n)
          rw [List.length_take, Nat.min_eq_left c2] at hll
          have htake : vs.toList.take n = Lib.byteCells l := by
            rw [List.take_take, Nat.min_eq_left c2] at hbytes
            exact hbytes
          have hsz : n ≤ vs.size := by
            have := congrArg List.length htake
            rw [Lib.byteCells_length, List.length_take] at this
            simp at this; omega
          have hUS : (Builtin.unsafeString_ #[pt, it] o.type #[.pointer (some ⟨M.blk b, 0, none⟩), .int .i64 (Int.ofNat n)]).run P w = .ok (.string ⟨l.toArray⟩) (w.freeze ⟨M.blk b, 0, none⟩ l.length) := by
            have hcell : ∀ j x, l[j]? = some x → w.cell? ((⟨M.blk b, 0, none⟩ : Addr).add j) = some (.int .u8 x.toNat) := fun j x hx => by
              have hj : j < l.length := (List.getElem?_eq_some_iff.1 hx).1
              have h7 : (vs.toList.take n)[j]? = some (.int .u8 x.toNat) := by rw [htake]; simp [Lib.byteCells, hx]
              rw [List.getElem?_take, if_pos (by omega)] at h7
              have : Addr.add ⟨M.blk b, 0, none⟩ j = ⟨M.blk b, j, none⟩ := by
                unfold Addr.add
                by_cases e0 : j = 0
                · subst e0; rfl
                · rw [if_neg e0]; simp
              rw [this]
              simp only [World.cell?, h1]
              simpa using h7
            have hsh : w.shape? (M.blk b) = some (el, vs.size) := by unfold World.shape?; rw [h1]
            have := Lib.run_unsafeString_row (P := P) w pt it o.type el hu c6 (M.blk b) vs.size hsh l (by intro e; rw [e] at hll; simp at hll; omega) (by omega) (by omega) hcell
            rw [hll] at this ⊢
            exact this
          have hw1 : (w.freeze ⟨M.blk b, 0, none⟩ l.length).heap[M.blk b]? = some (.cells vs el (if fr.1 == fr.2 then (0, 0 + l.length) else (min fr.1 0, max fr.2 (0 + l.length)))) := by
            simp only [World.freeze]
            rw [if_neg (by omega)]
            simp only [Array.getElem?_modify, if_true, h1, Option.map_some]
          have hw2 : ∀ k, k ≠ M.blk b → (w.freeze ⟨M.blk b, 0, none⟩ l.length).heap[k]? = w.heap[k]? := fun k hk => by
            simp only [World.freeze]
            rw [if_neg (by omega)]
            simp only [Array.getElem?_modify]
            rw [if_neg (Ne.symm hk)]
          have hw3 : (w.freeze ⟨M.blk b, 0, none⟩ l.length).heap.size = w.heap.size := by
            simp only [World.freeze]
            rw [if_neg (by omega)]
            simp
          have hbel : Below B0 w0 (w.freeze ⟨M.blk b, 0, none⟩ l.length) := Lib.below_freeze hs.below (p := ⟨M.blk b, 0, none⟩) (hs.blk b hb).1 _
          have hE := ext_write (w' := w.freeze ⟨M.blk b, 0, none⟩ l.length) (y := .fz cs kk) hs hb hg hrw hlive (fun _ _ => by simp) trivial hw2 (by omega)
          have hs' := sim_write (w' := w.freeze ⟨M.blk b, 0, none⟩ l.length) (y := .fz cs kk) hs hb hg hrw hlive (fun _ _ => by simp) trivial hw2 hbel hw3 ⟨vs, el, _, hw1, h2.ext hE, h3, h5⟩
          refine ok_value (v := .string ⟨l.toArray⟩) ?_ (VR_v_of rfl) hs' hE
          rw [Int.ofNat_eq_natCast] at hUS eargs
          simp [execOp, hop, resolve, hc, invoke, builtin, eargs, eA, hUS]
        · cases h
      · cases h
    · cases h
  · cases h

/-! ### Methods -/
theorem method_run {t : TypeId} {name : String} {f : FuncId} {v : Value} (h : methodA P t name = some f) (w : World) (fuel : Nat) : (method (fuel + 1) t v name).run P w = .ok (f, v) w := by
  unfold methodA at h
  split at h
  · cases h
  · rename_i i hi
    split at h
    · cases h
    · rename_i m hm
      split at h
      · cases h
      · rename_i hp
        have hp : m.path = #[] := by simpa using hp
        unfold method
        simp only [Sem.run_bind, typeInfo, run_program, Result.andThen_ok, hi, Sem.run_pure, hm, hp, follow]
        split at h
        · rename_i f' e hmf hu
          cases h
          simp [hmf, follow, receiverAt, run_underlying hu, Place.get]
        · cases h
        · rename_i f' d hne hmf hu
          cases h
          simp only [hmf, follow, Sem.run_bind, Sem.run_pure, Result.andThen_ok, receiverAt, run_underlying hu]
          cases d <;> first | (simp [Place.get]; done) | exact absurd hu (by intro hu'; exact (hne _ _ hmf hu').elim)
        · cases h

theorem noEscape_run {f : FuncId} {fn : Func} (hP : (fn.name == "runtime.NumGoroutine") = false) (hf : P.funcs[f]? = some fn) (hb : fn.body = none) (hn : (fn.name == "internal/abi.NoEscape") = true) (hx : (Extern.findNext fn).isNone = true) (x : Value) (w : World) : (callFunc f #[x]).run P w = .ok (.value x) w := by
  have hn : fn.name = "internal/abi.NoEscape" := by simpa using hn
  have e2 : Extern.find fn = some Extern.AbiNoEscape.same := by
    unfold Extern.find
    rw [hn]
    have a1 : Extern.allGenericRows.lookup "internal/abi.NoEscape" = none := by kernel_rfl
    have a2 : Extern.allTypedRows.lookup "internal/abi.NoEscape" = none := by kernel_rfl
    have a3 : Extern.allRows.lookup "internal/abi.NoEscape" = some Extern.AbiNoEscape.same := by kernel_rfl
    simp [a1, a2, a3]
  rw [run_callFunc_extern hf hP (by rw [hb]; rfl) (by simpa using hx) e2, Lib.run_noEscape]
  rfl
end
end Go.Ab
