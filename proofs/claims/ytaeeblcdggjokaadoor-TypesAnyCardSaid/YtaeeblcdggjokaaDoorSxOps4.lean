/- The evaluator's operations against the model's, continued: append, copy, make, conversions. -/
import Derived.Test.YtaeeblcdggjokaaDoorSxOps3
import Derived.Laws.MakeOwn
import Derived.Laws.BytesString
namespace Go.Ab
set_option linter.unusedVariables false
set_option linter.unusedSimpArgs false
set_option linter.unusedSectionVars false
set_option linter.constructorNameAsVariable false
open Go Go.RowKit

section
variable [Interp] {P : Program} {G : Nat → Option (List AV)} {B0 : Nat} {w0 w : World} {s : St} {M : Mp}

theorem size_zeroCells (z : Array Value) (n : Nat) : (Builtin.zeroCells z n).size = n * z.size := by simp [Builtin.zeroCells]

theorem run_append_grow' (t0 t1 ty e : TypeId) (A : Array TypeId) (hA0 : A[0]? = some t0) (hA1 : A[1]? = some t1) (i : TypeInfo) (z : Value) (d : TypeDesc) (ht0 : P.underlying t0 = some (.slice e)) (ht1 : P.underlying t1 = some d) (hd : ∀ k, d ≠ .int k)
    (hi : P.info? e = some i) (hz : i.zero = some z) (base : Option Addr) (sLen sCap n : Nat) (y : Value) (olds news : List Value) (hlen : ∀ W : World, (Builtin.lenOf y).run P W = .ok n W)
    (hold : (Builtin.firstCells i.size sLen (.slice base sLen sCap)).run P w.drew = .ok olds.toArray w.drew) (hnew : (Builtin.firstCells i.size n y).run P w.drew = .ok news.toArray w.drew)
    (hg : sCap < sLen + n) (h63 : ((sLen + n : Nat) : Int) ≤ 9223372036854775807) (hfit : Builtin.nextslicecap (sLen + n) sCap * i.bytes ≤ 281474976710656) :
    (Builtin.append_ A ty #[.slice base sLen sCap, y]).run P w =
      .ok (.slice (some ⟨w.heap.size, 0, none⟩) (sLen + n) (grownCap w (sLen + n) sCap e))
        (w.drew.alloc (.cells (olds.toArray ++ news.toArray ++ Builtin.zeroCells z.cells (grownCap w (sLen + n) sCap e - (sLen + n))) e)) := by
  have hn : ¬ (sLen + n ≤ sCap) := by omega
  have h63' : ¬ (9223372036854775807 < ((sLen : Int) + (n : Int))) := by omega
  have h48' : ¬ (281474976710656 < Builtin.nextslicecap (sLen + n) sCap * i.bytes) := by omega
  simp [Builtin.append_, hA0, hA1, run_underlying ht0, run_underlying ht1, sizeOf, typeInfo, zeroValue, hi, hz, hlen, hn, h63', h48', Question.forced, hold, hnew, newRow, grownCap]
  congr 2
  apply Array.toList_inj.1
  simp

theorem run_append_room' (t0 t1 ty e : TypeId) (A : Array TypeId) (hA0 : A[0]? = some t0) (hA1 : A[1]? = some t1) (i : TypeInfo) (d : TypeDesc) (ht0 : P.underlying t0 = some (.slice e)) (ht1 : P.underlying t1 = some d) (hd : ∀ k, d ≠ .int k)
    (hi : P.info? e = some i) (base : Option Addr) (sLen sCap n : Nat) (y : Value) (news : List Value) (hlen : ∀ W : World, (Builtin.lenOf y).run P W = .ok n W)
    (hnew : (Builtin.firstCells i.size n y).run P w = .ok news.toArray w) (hg : sLen + n ≤ sCap) {w' : World} (hst : ∀ a, base = some a → (storeCells (a.add (sLen * i.size)) news).run P w = .ok () w') (hst' : base = none → w' = w) :
    (Builtin.append_ A ty #[.slice base sLen sCap, y]).run P w = .ok (.slice base (sLen + n) sCap) w' := by
  cases base with
  | none => have := hst' rfl; subst this; simp [Builtin.append_, hA0, hA1, run_underlying ht0, run_underlying ht1, sizeOf, typeInfo, hi, hlen, hg, hnew]
  | some a => simp [Builtin.append_, hA0, hA1, run_underlying ht0, run_underlying ht1, sizeOf, typeInfo, hi, hlen, hg, hnew, hst a rfl]

theorem grownCap_ge (w : World) (need old : Nat) (e : TypeId) : need ≤ grownCap w need old e := by simp [grownCap, Question.cut]

theorem at_of {w : World} {b : Nat} {c : Array Value} {e : TypeId} {fr : Nat × Nat} {vs : List Value} (h : w.heap[b]? = some (.cells c e fr)) (hv : vs = c.toList.take vs.length) : At w b 0 vs := by
  rw [hv]; exact (at_block h).take _

theorem exec_append {o : Oper} {a : Act} {c : Go.Call} (hop : o.op = .call c) (hc : c.callee = .builtin .append) {w' : World} {v : Value}
    (h : (Builtin.append_ c.argTypes o.type (c.args.map a.eval)).run P w = .ok v w') : (execOp a.eval o).run P w = .ok (.value v) w' := by
  simp [execOp, hop, resolve, hc, invoke, builtin, h]

theorem tooLong_no {bytes need : Nat} (h : tooLong bytes need = false) : (2 * need + 2048) * bytes ≤ 2 ^ 47 ∧ 0 < bytes := by
  simp only [tooLong, Bool.or_eq_false_iff, Bool.not_eq_false'] at h
  refine ⟨Nat.le_of_ble_eq_true h.1, ?_⟩
  rcases Nat.eq_zero_or_pos bytes with e | e
  · subst e; exact absurd h.2 (by decide)
  · exact e

theorem s_append {o : Oper} {a : Act} {T : Tm} {c : Go.Call} {t0 t1 e : TypeId} {d : TypeDesc} {x y : AV} {ox oy : Operand} {r : AV} {s' : St} (hs : Sim G B0 w0 w s M) (hT : TmR w s M T a) (hop : o.op = .call c) (hc : c.callee = .builtin .append)
    (hA0 : c.argTypes[0]? = some t0) (hA1 : c.argTypes[1]? = some t1) (ht0 : P.underlying t0 = some (.slice e)) (ht1 : P.underlying t1 = some d) (hd : ∀ k, d ≠ .int k)
    (hargs : c.args = #[ox, oy]) (hx : opd G T ox = some x) (hy : opd G T oy = some y) (h : appendA P e s x y = some (r, s')) : OpOk P G B0 w0 w s M o a r s' := by
  have vx := opd_sound hs hT hx
  have vy := opd_sound hs hT hy
  have hargs' : c.args.map a.eval = #[a.eval ox, a.eval oy] := by rw [hargs]; simp
  simp only [appendA, Option.bind_eq_bind, Option.bind_eq_some_iff] at h
  obtain ⟨size, hsize, bytes, hbytes, z, hz, ⟨ys, n⟩, hheld, h⟩ := h
  obtain ⟨zv, hz1, hz2⟩ := zeroCells_some hz
  unfold sizeT at hsize; unfold bytesT at hbytes; unfold zeroT at hz1
  rw [Option.map_eq_some_iff] at hsize hbytes
  rw [Option.bind_eq_some_iff] at hz1
  obtain ⟨i, hi, rfl⟩ := hsize
  obtain ⟨i', hi', rfl⟩ := hbytes
  obtain ⟨i'', hi'', hzv⟩ := hz1
  rw [hi] at hi' hi''; cases hi'; cases hi''
  split at h
  · cases h
  · rename_i hsz
    simp only [Bool.or_eq_true, Bool.not_eq_true', not_or, Bool.not_eq_false] at hsz
    obtain ⟨hz3, hyl⟩ := hsz
    have hz3 := nbe hz3
    have hyl := nbe hyl
    have hzs : zv.cells.size = i.size := by have := (VRl_scAll (w := w) (s := s) (M := M) hz2).length; rw [hz3] at this; simp at this; exact this.symm
    obtain ⟨vs, hvs, hlen, hf1, hf2⟩ := heldBy_sound (P := P) hs hheld vy hyl
    have hvl : vs.length = n * i.size := by rw [← hvs.length, hyl]
    -- the new row, of what there was and what comes
    have fresh : ∀ (base : Option Addr) (sLen sCap : Nat) (olds : List AV) (ovs : List Value) (s1 : St), a.eval ox = .slice base sLen sCap → Sim G B0 w0 w s1 M → Ext w s M w s1 M → s1.room = true → VRl w s M olds ovs → olds.all isCell = true → olds.length = sLen * i.size →
        (Builtin.firstCells i.size sLen (.slice base sLen sCap)).run P w.drew = .ok ovs.toArray w.drew → sCap < sLen + n → tooLong i.bytes (sLen + n) = false → ys.all isCell = true →
        OpOk P G B0 w0 w s M o a (.sl (olds ++ ys) (sLen + n) (some s1.n)) (s1.new (.row (.c (sLen * i.size + n * i.size)) i.size)) := by
      intro base sLen sCap olds ovs s1 ex hs1 hE1 hroom hov hoc hol hold hg htl hyc
      obtain ⟨hb1, hb2⟩ := tooLong_no htl
      have hneed : sLen + n ≤ 2 ^ 47 := by
        have h1 : (2 * (sLen + n) + 2048) * 1 ≤ (2 * (sLen + n) + 2048) * i.bytes := Nat.mul_le_mul_left _ hb2
        omega
      have hfit : Builtin.nextslicecap (sLen + n) sCap * i.bytes ≤ 281474976710656 := growslice_fits hg (by
        have h1 : (sLen + n) * i.bytes ≤ (2 * (sLen + n) + 2048) * i.bytes := Nat.mul_le_mul_right _ (by omega)
        omega)
      have hrun := run_append_grow' (w := w) t0 t1 o.type e c.argTypes hA0 hA1 i zv d ht0 ht1 hd hi hzv base sLen sCap n (a.eval oy) ovs vs hlen hold hf2 hg (by omega) hfit
      have hcapge := grownCap_ge w (sLen + n) sCap e
      have hcells : (ovs.toArray ++ vs.toArray ++ Builtin.zeroCells zv.cells (grownCap w (sLen + n) sCap e - (sLen + n))).size = grownCap w (sLen + n) sCap e * i.size := by
        simp only [Array.size_append, size_zeroCells, hzs, List.size_toArray, hvl, ← hov.length, hol]
        rw [← Nat.add_mul, ← Nat.add_mul]; congr 1; omega
      have hs2 := sim_drew hs1
      have hEd : Ext w s M w.drew s1 M := hE1.trans ext_drew
      have hov2 : VRl w.drew s1 M (olds ++ ys) (ovs ++ vs) := (hov.ext hEd).append (hvs.ext hEd)
      obtain ⟨hs3, hE3⟩ := new_row hs2 hroom (vs := ovs.toArray ++ vs.toArray ++ Builtin.zeroCells zv.cells (grownCap w (sLen + n) sCap e - (sLen + n))) e (0, 0) (.c (sLen * i.size + n * i.size)) i.size (grownCap w (sLen + n) sCap e) hcells
        (by rw [hcells, ← Nat.add_mul]; exact Nat.mul_le_mul_right _ hcapge) (.inl rfl)
      refine ok_value (v := .slice (some ⟨w.heap.size, 0, none⟩) (sLen + n) (grownCap w (sLen + n) sCap e)) (exec_append hop hc (by rw [hargs', ex]; exact hrun)) ?_ hs3 (hEd.trans hE3)
      have hgn : (s1.new (.row (.c (sLen * i.size + n * i.size)) i.size)).get s1.n = some (.row (.c (sLen * i.size + n * i.size)) i.size) := by rw [St.get_new _ _ _ (room_lt hroom), if_pos rfl]
      have hbn : (M.add s1.n w.drew.heap.size (grownCap w (sLen + n) sCap e)).blk s1.n = w.heap.size := by simp [Mp.add]
      have hlt : s1.n < (s1.new (.row (.c (sLen * i.size + n * i.size)) i.size)).n := by simp [St.new]
      unfold VR
      refine ⟨w.heap.size, 0, _, rfl, hcapge, ?_, fun t ht => ?_⟩
      · have := VRs_row hs3 hlt hgn (c := ovs.toArray ++ vs.toArray ++ Builtin.zeroCells zv.cells (grownCap w (sLen + n) sCap e - (sLen + n))) (e := e) (fr := (0, 0)) (by rw [hbn]; exact heap_new w.drew _) (cs := olds ++ ys)
          (by
            have : (ovs.toArray ++ vs.toArray ++ Builtin.zeroCells zv.cells (grownCap w (sLen + n) sCap e - (sLen + n))).toList.take (olds ++ ys).length = ovs ++ vs := by
              rw [hov2.length]
              simp only [Array.toList_append]
              rw [List.take_left']
              simp
            rw [this]; exact hov2.ext hE3)
          (by rw [List.length_append, hol, hyl]; exact Nat.le_refl _) (by rw [List.all_append, hoc, hyc]; rfl)
        rw [hbn] at this; exact this
      · cases ht
        refine ⟨hlt, fun tip e' hg' => ⟨hbn.symm, rfl, ?_⟩⟩
        simp [Mp.add]
    split at h
    · -- a nil slice
      rename_i l k
      obtain ⟨ex, hsc⟩ := VR_v.1 vx
      have hlk : l = 0 ∧ k = 0 := by simp only [scalar, Bool.and_eq_true] at hsc; exact ⟨nbe hsc.1, nbe hsc.2⟩
      obtain ⟨rfl, rfl⟩ := hlk
      split at h
      · rename_i hn0
        have hn0 := nbe hn0; subst hn0
        simp only [Option.some.injEq, Prod.mk.injEq] at h
        obtain ⟨rfl, rfl⟩ := h
        have hrun := run_append_room' (w := w) (w' := w) t0 t1 o.type e c.argTypes hA0 hA1 i d ht0 ht1 hd hi none 0 0 0 (a.eval oy) vs hlen hf1 (Nat.le_refl _) (fun a h => by cases h) (fun _ => rfl)
        refine ok_here hs (exec_append hop hc (by rw [hargs', ex]; exact hrun)) ?_
        exact VR_v_of hsc
      · rename_i hn0
        split at h
        · cases h
        · rename_i hcond
          simp only [Bool.or_eq_true, Bool.not_eq_true', not_or, Bool.not_eq_false, Bool.not_eq_true] at hcond
          obtain ⟨⟨h1, h2⟩, h3⟩ := hcond
          simp only [Option.some.injEq, Prod.mk.injEq] at h
          obtain ⟨rfl, rfl⟩ := h
          have hnz : n ≠ 0 := fun e => hn0 (by rw [e]; rfl)
          have := fresh none 0 0 [] [] s ex hs (Ext.refl _ _ _) h2 VRl_nil rfl (by simp) (by simp [Builtin.firstCells]) (by omega) (by simpa using h1) h3
          simpa using this
    · -- an empty slice without room
      have vx' := vx
      unfold VR at vx
      obtain ⟨b, off, ex⟩ := vx
      split at h
      · rename_i hn0
        have hn0 := nbe hn0; subst hn0
        simp only [Option.some.injEq, Prod.mk.injEq] at h
        obtain ⟨rfl, rfl⟩ := h
        have hv0 : vs = [] := List.length_eq_zero_iff.1 (by rw [hvl]; simp)
        have hrun := run_append_room' (w := w) (w' := w) t0 t1 o.type e c.argTypes hA0 hA1 i d ht0 ht1 hd hi (some ⟨b, off, none⟩) 0 0 0 (a.eval oy) vs hlen hf1 (Nat.le_refl _) (fun a h => by subst hv0; rfl) (fun h => by cases h)
        refine ok_here hs (exec_append hop hc (by rw [hargs', ex]; exact hrun)) ?_
        unfold VR; exact ⟨b, off, rfl⟩
      · rename_i hn0
        split at h
        · cases h
        · rename_i hcond
          simp only [Bool.or_eq_true, Bool.not_eq_true', not_or, Bool.not_eq_false, Bool.not_eq_true] at hcond
          obtain ⟨⟨h1, h2⟩, h3⟩ := hcond
          simp only [Option.some.injEq, Prod.mk.injEq] at h
          obtain ⟨rfl, rfl⟩ := h
          have hnz : n ≠ 0 := fun e => hn0 (by rw [e]; rfl)
          have := fresh (some ⟨b, off, none⟩) 0 0 [] [] s ex hs (Ext.refl _ _ _) h2 VRl_nil rfl (by simp) (by have := run_firstCells_some (P := P) w.drew i.size 0 ⟨b, off, none⟩ 0 0 [] (by simp) (by simp); simpa using this) (by omega) (by simpa using h1) h3
          simpa using this
    · -- a row of the call's own
      rename_i cs len t
      split at h
      · rename_i tip esz hg
        split at h
        · cases h
        · rename_i hcond
          simp only [Bool.or_eq_true, Bool.not_eq_true', not_or, Bool.not_eq_false, Bool.not_eq_true] at hcond
          obtain ⟨⟨⟨⟨⟨h1, h2⟩, h3⟩, h4⟩, h5⟩, h6⟩ := hcond
          simp only [Option.some.injEq, Prod.mk.injEq] at h
          obtain ⟨rfl, rfl⟩ := h
          have h3 := nbe h3
          have h4 := nbe h4
          have h5 := Nat.le_of_ble_eq_true h5
          subst h3 h4
          have vx' := vx
          unfold VR at vx
          obtain ⟨b, off, cap, ex, hle, hv, htok⟩ := vx
          obtain ⟨ht, htok⟩ := htok t rfl
          obtain ⟨rfl, rfl, rfl⟩ := htok _ _ hg
          obtain ⟨ovs, hov, hat⟩ := (hv.take (len * i.size)).vals
          have hol : (cs.take (len * i.size)).length = len * i.size := by rw [List.length_take]; omega
          have hovl : ovs.length = len * i.size := by rw [← hov.length, hol]
          have hoc : (cs.take (len * i.size)).all isCell = true := by
            rw [List.all_eq_true]
            intro q hq
            obtain ⟨j, hj⟩ := List.mem_iff_getElem?.1 hq
            obtain ⟨_, _, _, hcell, _⟩ := (hv.take (len * i.size)).get j q hj
            exact hcell
          by_cases hroomy : len + n ≤ M.cap t
          · -- there is room
            obtain ⟨c0, e0', fr, a1, a2, a3, a4⟩ := hs.obj t _ ht hg
            have hfits : len * i.size + n * i.size ≤ c0.size := by rw [a2, ← Nat.add_mul]; exact Nat.mul_le_mul_right _ hroomy
            obtain ⟨k1, k2, k3⟩ := heap_setCells vs (len * i.size) w c0 a1 (by rw [hvl]; exact hfits)
            have hst : (storeCells ⟨M.blk t, len * i.size, none⟩ vs).run P w = .ok () (w.setCells (M.blk t) (len * i.size) vs) := by
              have := run_storeCells_cells (P := P) (M.blk t) (len * i.size) vs 0 w (fun j hj => ?_) (fun j hj => ?_) (oneCell_all h6 hvs)
              · simpa using this
              · simp only [World.cell?, a1]
                simp
                omega
              · simp only [World.frozen?, a1]
                have := a4.no (show len * i.size + 0 + j < c0.size by omega)
                simp only [Bool.and_eq_false_iff, decide_eq_false_iff_not]
                rcases Classical.em (fr.1 ≤ len * i.size + 0 + j) with q | q
                · exact .inr fun q' => this ⟨q, q'⟩
                · exact .inl q
            have hrun := run_append_room' (w := w) t0 t1 o.type e c.argTypes hA0 hA1 i d ht0 ht1 hd hi (some ⟨M.blk t, 0, none⟩) len (M.cap t) n (a.eval oy) vs hlen hf1 hroomy (fun q hq => by cases hq; rw [add_eq, Nat.zero_add]; exact hst) (fun h => by cases h)
            have hnewsz : (c0.toList.take (len * i.size) ++ vs ++ c0.toList.drop (len * i.size + vs.length)).toArray.size = c0.size := by
              simp only [List.size_toArray, List.length_append, List.length_take, List.length_drop, Array.length_toList, hvl]; omega
            obtain ⟨hs2, hE2⟩ := grow_in (tip' := .c (len * i.size + n * i.size)) hs h2 ht hg (show len * i.size ≤ len * i.size + n * i.size by omega) a1 k1 hnewsz hfits (fun j hj => by
              have hj : j < len * i.size := hj
              rw [List.getElem?_toArray, List.append_assoc, List.getElem?_append_left (by simp; omega), List.getElem?_take, if_pos hj, Array.getElem?_toList]) k2 (below_setCells (hs.blk t ht).1 vs _ w hs.below) k3
            refine ok_value (v := .slice (some ⟨M.blk t, 0, none⟩) (len + n) (M.cap t)) (exec_append hop hc (by rw [hargs', ex]; exact hrun)) ?_ hs2 hE2
            have htl : t < Tr.lid := Nat.lt_of_lt_of_le ht hs.bound
            have hgn : ((s.put t .dead).new (.row (.c (len * i.size + n * i.size)) i.size)).get s.n = some (.row (.c (len * i.size + n * i.size)) i.size) := by rw [St.get_new _ _ _ (by simpa [St.put] using room_lt h2)]; exact if_pos rfl
            have hlt : s.n < ((s.put t .dead).new (.row (.c (len * i.size + n * i.size)) i.size)).n := by simp [St.new, St.put]
            have hbn : (M.add s.n (M.blk t) (M.cap t)).blk s.n = M.blk t := by simp [Mp.add]
            unfold VR
            refine ⟨M.blk t, 0, _, rfl, hroomy, ?_, fun t' ht' => ?_⟩
            · have := VRs_row hs2 hlt hgn (by rw [hbn]; exact k1) (cs := cs.take (len * i.size) ++ ys)
                (by
                  have e1 : (c0.toList.take (len * i.size) ++ vs ++ c0.toList.drop (len * i.size + vs.length)).toArray.toList.take (cs.take (len * i.size) ++ ys).length = ovs ++ vs := by
                    have e2 : c0.toList.take (len * i.size) = ovs := by
                      apply List.ext_getElem?
                      intro j
                      rw [List.getElem?_take]
                      by_cases hj : j < len * i.size
                      · rw [if_pos hj]
                        obtain ⟨q, hq⟩ : ∃ q, ovs[j]? = some q := ⟨ovs[j], List.getElem?_eq_getElem (by omega)⟩
                        have := hat j q hq
                        simp only [Nat.zero_add, World.cell?, a1] at this
                        rw [hq, Array.getElem?_toList]; simpa using this
                      · rw [if_neg hj, List.getElem?_eq_none (by omega)]
                    rw [e2, List.length_append, hol, hyl]
                    rw [List.take_left']
                    simp [hovl, hvl]
                  rw [e1]; exact (hov.append hvs).ext hE2)
                (by rw [List.length_append, hol, hyl]; exact Nat.le_refl _) (by rw [List.all_append, hoc, h6]; rfl)
              rw [hbn] at this; exact this
            · cases ht'
              exact ⟨hlt, fun tip e' hg' => ⟨hbn.symm, rfl, by simp [Mp.add, St.put]⟩⟩
          · -- a new row
            have hk := sim_kill hs t ht
            have := fresh (some ⟨M.blk t, 0, none⟩) len (M.cap t) (cs.take (len * i.size)) ovs (s.put t .dead) ex hk (ext_kill t (Nat.lt_of_lt_of_le ht hs.bound)) (by simpa [St.room, St.put] using h2) hov hoc hol
              (run_firstCells_some (P := P) w.drew i.size len ⟨M.blk t, 0, none⟩ len (M.cap t) ovs hovl fun j q hq => by rw [add_eq]; exact hat j q hq) (by omega) h1 h6
            exact this
      · cases h
    · cases h
theorem new_grow (hs : Sim G B0 w0 w s M) (hr : s.room = true) {cs : List AV} {vs : Array Value} (t : TypeId) (esz cap : Nat) (h0 : esz < tyBase) (hz : esz ≠ 0) (h1 : vs.size = cap * esz) (hv : VRl w s M cs (vs.toList.take cs.length)) (hc : cs.all isCell = true) :
    Sim G B0 w0 (w.alloc (.cells vs t)) (s.new (.box cs (codeOf t esz))) (M.add s.n w.heap.size cap) ∧ Ext w s M (w.alloc (.cells vs t)) (s.new (.box cs (codeOf t esz))) (M.add s.n w.heap.size cap) := by
  have hE := ext_new (w := w) (M := M) (room_lt hr) (fun i hi => (hs.blk i hi).2) (.cells vs t) (.box cs (codeOf t esz)) cap
  exact ⟨sim_new hs (room_lt hr) _ _ _ ⟨vs, t, (0, 0), heap_new _ _, hv.ext hE, hc, .inl rfl, fun _ => by rw [codeOf_mod h0]; exact h1, fun _ => ⟨(codeOf_div h0).symm, fun h => by rw [codeOf_mod h0] at h; exact absurd h hz⟩⟩, hE⟩

theorem s_appendM {o : Oper} {a : Act} {T : Tm} {c : Go.Call} {t0 t1 e : TypeId} {d : TypeDesc} {x y : AV} {ox oy : Operand} {r : AV} {s' : St} (hs : Sim G B0 w0 w s M) (hT : TmR w s M T a) (hop : o.op = .call c) (hc : c.callee = .builtin .append)
    (hA0 : c.argTypes[0]? = some t0) (hA1 : c.argTypes[1]? = some t1) (ht0 : P.underlying t0 = some (.slice e)) (ht1 : P.underlying t1 = some d) (hd : ∀ k, d ≠ .int k)
    (hargs : c.args = #[ox, oy]) (hx : opd G T ox = some x) (hy : opd G T oy = some y) (h : appendM P e s x y = some (r, s')) : OpOk P G B0 w0 w s M o a r s' := by
  have vx := opd_sound hs hT hx
  have vy := opd_sound hs hT hy
  have hargs' : c.args.map a.eval = #[a.eval ox, a.eval oy] := by rw [hargs]; simp
  simp only [appendM, Option.bind_eq_bind, Option.bind_eq_some_iff] at h
  obtain ⟨size, hsize, bytes, hbytes, z, hz, ⟨ys, n⟩, hheld, h⟩ := h
  obtain ⟨zv, hz1, hz2⟩ := zeroCells_some hz
  unfold sizeT at hsize; unfold bytesT at hbytes; unfold zeroT at hz1
  rw [Option.map_eq_some_iff] at hsize hbytes
  rw [Option.bind_eq_some_iff] at hz1
  obtain ⟨i, hi, rfl⟩ := hsize
  obtain ⟨i', hi', rfl⟩ := hbytes
  obtain ⟨i'', hi'', hzv⟩ := hz1
  rw [hi] at hi' hi''; cases hi'; cases hi''
  split at h
  · cases h
  · rename_i hsz
    simp only [Bool.or_eq_true, Bool.not_eq_true', not_or, Bool.not_eq_false] at hsz
    obtain ⟨hz3, hyl⟩ := hsz
    have hz3 := nbe hz3
    have hyl := nbe hyl
    have hzs : zv.cells.size = i.size := by have := (VRl_scAll (w := w) (s := s) (M := M) hz2).length; rw [hz3] at this; simp at this; exact this.symm
    obtain ⟨vs, hvs, hlen, hf1, hf2⟩ := heldBy_sound (P := P) hs hheld vy hyl
    have hvl : vs.length = n * i.size := by rw [← hvs.length, hyl]
    -- the new row, of what there was and what comes
    have fresh : ∀ (base : Option Addr) (sLen sCap : Nat) (olds : List AV) (ovs : List Value) (s1 : St), a.eval ox = .slice base sLen sCap → Sim G B0 w0 w s1 M → Ext w s M w s1 M → s1.room = true → VRl w s M olds ovs → olds.all isCell = true → olds.length = sLen * i.size →
        (Builtin.firstCells i.size sLen (.slice base sLen sCap)).run P w.drew = .ok ovs.toArray w.drew → sCap < sLen + n → tooLong i.bytes (sLen + n) = false → ys.all isCell = true → Nat.beq i.size 0 = false → Nat.ble (i.size + 1) tyBase = true →
        OpOk P G B0 w0 w s M o a (.mg s1.n (sLen + n)) (s1.new (.box (olds ++ ys) (codeOf e i.size))) := by
      intro base sLen sCap olds ovs s1 ex hs1 hE1 hroom hov hoc hol hold hg htl hyc hz00 hzb
      obtain ⟨hb1, hb2⟩ := tooLong_no htl
      have hneed : sLen + n ≤ 2 ^ 47 := by
        have h1 : (2 * (sLen + n) + 2048) * 1 ≤ (2 * (sLen + n) + 2048) * i.bytes := Nat.mul_le_mul_left _ hb2
        omega
      have hfit : Builtin.nextslicecap (sLen + n) sCap * i.bytes ≤ 281474976710656 := growslice_fits hg (by
        have h1 : (sLen + n) * i.bytes ≤ (2 * (sLen + n) + 2048) * i.bytes := Nat.mul_le_mul_right _ (by omega)
        omega)
      have hrun := run_append_grow' (w := w) t0 t1 o.type e c.argTypes hA0 hA1 i zv d ht0 ht1 hd hi hzv base sLen sCap n (a.eval oy) ovs vs hlen hold hf2 hg (by omega) hfit
      have hcapge := grownCap_ge w (sLen + n) sCap e
      have hcells : (ovs.toArray ++ vs.toArray ++ Builtin.zeroCells zv.cells (grownCap w (sLen + n) sCap e - (sLen + n))).size = grownCap w (sLen + n) sCap e * i.size := by
        simp only [Array.size_append, size_zeroCells, hzs, List.size_toArray, hvl, ← hov.length, hol]
        rw [← Nat.add_mul, ← Nat.add_mul]; congr 1; omega
      have hs2 := sim_drew hs1
      have hEd : Ext w s M w.drew s1 M := hE1.trans ext_drew
      have hov2 : VRl w.drew s1 M (olds ++ ys) (ovs ++ vs) := (hov.ext hEd).append (hvs.ext hEd)
      have htk : (ovs.toArray ++ vs.toArray ++ Builtin.zeroCells zv.cells (grownCap w (sLen + n) sCap e - (sLen + n))).toList.take (olds ++ ys).length = ovs ++ vs := by
        rw [hov2.length]
        simp only [Array.toList_append]
        rw [List.take_left']
        simp
      obtain ⟨hs3, hE3⟩ := new_grow hs2 hroom (vs := ovs.toArray ++ vs.toArray ++ Builtin.zeroCells zv.cells (grownCap w (sLen + n) sCap e - (sLen + n))) e i.size (grownCap w (sLen + n) sCap e) (Nat.le_of_ble_eq_true hzb) (fun h => by rw [h] at hz00; cases hz00) hcells (by rw [htk]; exact hov2) (by rw [List.all_append, hoc, hyc]; rfl)
      refine ok_value (v := .slice (some ⟨w.heap.size, 0, none⟩) (sLen + n) (grownCap w (sLen + n) sCap e)) (exec_append hop hc (by rw [hargs', ex]; exact hrun)) ?_ hs3 (hEd.trans hE3)
      unfold VR
      exact ⟨by simp [St.new], by simp only [Mp.add, if_true]; exact hcapge, by simp only [Mp.add, if_true]; rfl⟩
    split at h
    · -- a nil slice
      rename_i l k
      obtain ⟨ex, hsc⟩ := VR_v.1 vx
      have hlk : l = 0 ∧ k = 0 := by simp only [scalar, Bool.and_eq_true] at hsc; exact ⟨nbe hsc.1, nbe hsc.2⟩
      obtain ⟨rfl, rfl⟩ := hlk
      split at h
      · rename_i hn0
        have hn0 := nbe hn0; subst hn0
        simp only [Option.some.injEq, Prod.mk.injEq] at h
        obtain ⟨rfl, rfl⟩ := h
        have hrun := run_append_room' (w := w) (w' := w) t0 t1 o.type e c.argTypes hA0 hA1 i d ht0 ht1 hd hi none 0 0 0 (a.eval oy) vs hlen hf1 (Nat.le_refl _) (fun a h => by cases h) (fun _ => rfl)
        refine ok_here hs (exec_append hop hc (by rw [hargs', ex]; exact hrun)) ?_
        exact VR_v_of hsc
      · rename_i hn0
        split at h
        · cases h
        · rename_i hcond
          simp only [Bool.or_eq_true, Bool.not_eq_true', not_or, Bool.not_eq_false, Bool.not_eq_true] at hcond
          obtain ⟨⟨⟨⟨h1, h2⟩, h3⟩, h4⟩, h5⟩ := hcond
          simp only [Option.some.injEq, Prod.mk.injEq] at h
          obtain ⟨rfl, rfl⟩ := h
          have hnz : n ≠ 0 := fun e => hn0 (by rw [e]; rfl)
          have := fresh none 0 0 [] [] s ex hs (Ext.refl _ _ _) h2 VRl_nil rfl (by simp) (by simp [Builtin.firstCells]) (by omega) (by simpa using h1) h3 h4 h5
          simpa using this
    · -- an empty slice without room
      have vx' := vx
      unfold VR at vx
      obtain ⟨b, off, ex⟩ := vx
      split at h
      · rename_i hn0
        have hn0 := nbe hn0; subst hn0
        simp only [Option.some.injEq, Prod.mk.injEq] at h
        obtain ⟨rfl, rfl⟩ := h
        have hv0 : vs = [] := List.length_eq_zero_iff.1 (by rw [hvl]; simp)
        have hrun := run_append_room' (w := w) (w' := w) t0 t1 o.type e c.argTypes hA0 hA1 i d ht0 ht1 hd hi (some ⟨b, off, none⟩) 0 0 0 (a.eval oy) vs hlen hf1 (Nat.le_refl _) (fun a h => by subst hv0; rfl) (fun h => by cases h)
        refine ok_here hs (exec_append hop hc (by rw [hargs', ex]; exact hrun)) ?_
        unfold VR; exact ⟨b, off, rfl⟩
      · rename_i hn0
        split at h
        · cases h
        · rename_i hcond
          simp only [Bool.or_eq_true, Bool.not_eq_true', not_or, Bool.not_eq_false, Bool.not_eq_true] at hcond
          obtain ⟨⟨⟨⟨h1, h2⟩, h3⟩, h4⟩, h5⟩ := hcond
          simp only [Option.some.injEq, Prod.mk.injEq] at h
          obtain ⟨rfl, rfl⟩ := h
          have hnz : n ≠ 0 := fun e => hn0 (by rw [e]; rfl)
          have := fresh (some ⟨b, off, none⟩) 0 0 [] [] s ex hs (Ext.refl _ _ _) h2 VRl_nil rfl (by simp) (by have := run_firstCells_some (P := P) w.drew i.size 0 ⟨b, off, none⟩ 0 0 [] (by simp) (by simp); simpa using this) (by omega) (by simpa using h1) h3 h4 h5
          simpa using this
    · -- a row of the call's own
      rename_i b len
      split at h
      · rename_i cs esz hg
        split at h
        · cases h
        · rename_i hcond
          simp only [Bool.or_eq_true, Bool.not_eq_true', not_or, Bool.not_eq_false, Bool.not_eq_true] at hcond
          obtain ⟨⟨⟨⟨⟨⟨h1, h2⟩, h3⟩, h4⟩, h6⟩, h7⟩, h8⟩ := hcond
          simp only [Option.some.injEq, Prod.mk.injEq] at h
          obtain ⟨rfl, rfl⟩ := h
          have h3 := nbe h3
          have h4 := nbe h4
          subst h4
          have hz0 : i.size ≠ 0 := fun e => by rw [e] at h7; cases h7
          unfold VR at vx
          obtain ⟨ht, hle, ex⟩ := vx
          obtain ⟨c0, e0', fr, a1, a2, a3, a4, a5⟩ := hs.obj b _ ht hg
          have h80 : i.size < tyBase := Nat.le_of_ble_eq_true h8
          have hk0 : codeOf e i.size % tyBase ≠ 0 := by rw [codeOf_mod h80]; exact hz0
          have a5 := a5.1 hk0
          rw [codeOf_mod h80] at a5
          have hol : cs.length = len * i.size := h3
          have hlen0 := a2.length
          have hovl : (c0.toList.take cs.length).length = len * i.size := by rw [← hlen0, hol]
          have hat : At w (M.blk b) 0 (c0.toList.take cs.length) := (at_block a1).take _
          by_cases hroomy : len + n ≤ M.cap b
          · -- there is room
            have hfits : len * i.size + n * i.size ≤ c0.size := by rw [a5, ← Nat.add_mul]; exact Nat.mul_le_mul_right _ hroomy
            obtain ⟨k1, k2, k3⟩ := heap_setCells vs (len * i.size) w c0 a1 (by rw [hvl]; exact hfits)
            have hst : (storeCells ⟨M.blk b, len * i.size, none⟩ vs).run P w = .ok () (w.setCells (M.blk b) (len * i.size) vs) := by
              have := run_storeCells_cells (P := P) (M.blk b) (len * i.size) vs 0 w (fun j hj => ?_) (fun j hj => ?_) (oneCell_all h6 hvs)
              · simpa using this
              · simp only [World.cell?, a1]
                simp
                omega
              · simp only [World.frozen?, a1]
                have := a4.no (show len * i.size + 0 + j < c0.size by omega)
                simp only [Bool.and_eq_false_iff, decide_eq_false_iff_not]
                rcases Classical.em (fr.1 ≤ len * i.size + 0 + j) with q | q
                · exact .inr fun q' => this ⟨q, q'⟩
                · exact .inl q
            have hrun := run_append_room' (w := w) t0 t1 o.type e c.argTypes hA0 hA1 i d ht0 ht1 hd hi (some ⟨M.blk b, 0, none⟩) len (M.cap b) n (a.eval oy) vs hlen hf1 hroomy (fun q hq => by cases hq; rw [add_eq, Nat.zero_add]; exact hst) (fun h => by cases h)
            have hnewsz : (c0.toList.take (len * i.size) ++ vs ++ c0.toList.drop (len * i.size + vs.length)).toArray.size = c0.size := by
              simp only [List.size_toArray, List.length_append, List.length_take, List.length_drop, Array.length_toList, hvl]; omega
            have htk : (c0.toList.take (len * i.size) ++ vs ++ c0.toList.drop (len * i.size + vs.length)).toArray.toList.take (cs ++ ys).length = c0.toList.take cs.length ++ vs := by
              rw [List.length_append, hol, hyl]
              show (c0.toList.take (len * i.size) ++ vs ++ c0.toList.drop (len * i.size + vs.length)).take (len * i.size + n * i.size) = _
              rw [List.take_left']
              rw [hol] at hovl
              simp only [List.length_append, hovl, hvl]
            obtain ⟨hs2, hE2⟩ := grow_box (cs' := cs ++ ys) hs h2 hk0 ht hg a1 k1 hnewsz (by rw [htk]; exact a2.append hvs) (by rw [List.all_append, a3, h6]; rfl) k2 (below_setCells (hs.blk b ht).1 vs _ w hs.below) k3
            refine ok_value (v := .slice (some ⟨M.blk b, 0, none⟩) (len + n) (M.cap b)) (exec_append hop hc (by rw [hargs', ex]; exact hrun)) ?_ hs2 hE2
            unfold VR
            exact ⟨by simp [St.new, St.put], by simp only [Mp.add, if_true]; exact hroomy, by simp only [Mp.add, if_true]⟩
          · -- a new row
            have hk := sim_kill hs b ht
            have := fresh (some ⟨M.blk b, 0, none⟩) len (M.cap b) cs (c0.toList.take cs.length) (s.put b .dead) ex hk (ext_kill b (Nat.lt_of_lt_of_le ht hs.bound)) (by simpa [St.room, St.put] using h2) a2 a3 hol
              (run_firstCells_some (P := P) w.drew i.size len ⟨M.blk b, 0, none⟩ len (M.cap b) _ hovl fun j q hq => by rw [add_eq]; exact hat j q hq) (by omega) h1 h6 h7 h8
            exact this
      · cases h
    · cases h

theorem s_appendX {o : Oper} {a : Act} {T : Tm} {c : Go.Call} {t0 t1 e : TypeId} {d : TypeDesc} {mu : Bool} {x y : AV} {ox oy : Operand} {r : AV} {s' : St} (hs : Sim G B0 w0 w s M) (hT : TmR w s M T a) (hop : o.op = .call c) (hc : c.callee = .builtin .append)
    (hA0 : c.argTypes[0]? = some t0) (hA1 : c.argTypes[1]? = some t1) (ht0 : P.underlying t0 = some (.slice e)) (ht1 : P.underlying t1 = some d) (hd : ∀ k, d ≠ .int k)
    (hargs : c.args = #[ox, oy]) (hx : opd G T ox = some x) (hy : opd G T oy = some y) (h : appendX P mu e s x y = some (r, s')) : OpOk P G B0 w0 w s M o a r s' := by
  have k1 : appendM P e s x y = some (r, s') → OpOk P G B0 w0 w s M o a r s' := s_appendM hs hT hop hc hA0 hA1 ht0 ht1 hd hargs hx hy
  have k2 : appendA P e s x y = some (r, s') → OpOk P G B0 w0 w s M o a r s' := s_append hs hT hop hc hA0 hA1 ht0 ht1 hd hargs hx hy
  unfold appendX at h
  split at h
  · exact k1 h
  · split at h
    · exact k1 h
    · exact k2 h
  · split at h
    · exact k1 h
    · exact k2 h
  · exact k2 h
end
end Go.Ab
