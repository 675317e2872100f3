/- Merged own texts, without what this claim does not use. -/
import Derived.Test.YtflhikakndanjaaDoorMa
import Derived.Laws.Slices
import Derived.Lib.Builder
import Derived.Lib.UnsafeStr
import Derived.Laws.Externs
import Derived.KernelRfl
import Derived.Laws.Strings
set_option linter.unusedVariables false
set_option linter.unusedSimpArgs false
set_option linter.unusedSectionVars false
set_option linter.constructorNameAsVariable false
/- The evaluator's operations against the model's, the last: lengths, slices, maps, copies, structs built. -/
namespace Go.Ab
open Go Go.RowKit

section
variable [Interp] {P : Program} {G : Nat -> Option (List AV)} {B0 : Nat} {w0 w : World} {s : St} {M : Mp}

theorem s_refreeze {o : Oper} {a : Act} {T : Tm} {t0 e e2 : TypeId} {x : Operand} {cs : List AV} {len t esz : Nat} {tip : Tip} (hs : Sim G B0 w0 w s M) (hT : TmR w s M T a) (hop : o.op = .convert t0 t0 x) (h1 : P.underlying t0 = some (.slice e)) (h2 : P.underlying t0 = some (.slice e2))
  (h3 : P.underlying e = some (.int .u8)) (hx : opd G T x = some (.sl cs len (some t))) (hg : s.get t = some (.row tip esz)) :
  OpOk P G B0 w0 w s M o a (.sl cs len (some t)) (s.put t (.row tip esz)) := by
 have vx := opd_sound hs hT hx
 have vx' := vx
 unfold VR at vx
 obtain ⟨b, off, cap, ex, hle, hv, htok⟩ := vx
 obtain ⟨ht, htok⟩ := htok t rfl
 obtain ⟨rfl, rfl, rfl⟩ := htok _ _ hg
 obtain ⟨c, ec, fr, a1, a2, a3, a4⟩ := hs.obj t _ ht hg
 have hlt := (hs.blk t ht).2
 have htl : t < Tr.lid := Nat.lt_of_lt_of_le ht hs.bound
 let fr' : Nat × Nat := if fr.1 == fr.2 then (c.size, c.size + 1) else (min fr.1 c.size, max fr.2 (c.size + 1))
 have hfr' : Free fr' c.size := by
  simp only [fr']
  split
  ·exact .inr (Nat.le_refl _)
  ·rename_i hne
   have hne : fr.1 ≠ fr.2 := by simpa using hne
   rcases a4 with h | h
   ·exact absurd h hne
   ·exact .inr (by simp only; omega)
 let w' := w.freeze ⟨M.blk t, c.size, none⟩ 1
 have hb1 : w'.heap[M.blk t]? = some (.cells c ec fr') := by
  simp only [w', World.freeze]
  rw [if_neg (by decide)]
  simp only [Array.getElem?_modify, if_true, a1, Option.map_some]
  rfl
 have hb2 : ∀ k, k ≠ M.blk t -> w'.heap[k]? = w.heap[k]? := fun k hk => by
  simp only [w', World.freeze]
  rw [if_neg (by decide)]
  simp only [Array.getElem?_modify]
  rw [if_neg (Ne.symm hk)]
 have hb3 : w'.heap.size = w.heap.size := by
  simp only [w', World.freeze]
  rw [if_neg (by decide)]
  simp
 have hbel : Below B0 w w' := ⟨by simp only [w', World.freeze]; rw [if_neg (by decide)], by simp only [w', World.freeze]; rw [if_neg (by decide)], by simp only [w', World.freeze]; rw [if_neg (by decide)], Nat.le_of_eq hb3.symm,
  fun k hk => hb2 k (by have := (hs.blk t ht).1; omega)⟩
 have hcell : ∀ b off, w'.cell? ⟨b, off, none⟩ = w.cell? ⟨b, off, none⟩ := fun b off => by
  by_cases e1 : b = M.blk t
  ·subst e1; simp only [World.cell?, hb1, a1]
  ·exact World.cell?_of_block (w := w) (w' := w') (hb2 b e1)
 have hget : ∀ i, (s.put t (.row tip esz)).get i = s.get i := fun i => by
  rw [St.get_put _ _ _ _ htl]
  by_cases e1 : i = t
  ·subst e1; rw [if_pos rfl, hg]
  ·rw [if_neg e1]
 have hE : Ext w s M w' (s.put t (.row tip esz)) M := ⟨fun b off v h1 h2 => ⟨by rw [hcell]; exact h1, fun i o hi hgi hbk => h2.1 i o hi (by rw [<- hget]; exact hgi) hbk, h2.2⟩, Nat.le_refl _, fun _ _ => ⟨rfl, rfl⟩, fun i tp e' _ hgi => by rw [<- hget]; exact hgi, ⟨by omega, fun b _ hno => hb2 b fun e => hno t _ ht hg trivial e.symm, fun i o hi hgi hl _ => ⟨i, o, hi, by rw [<- hget]; exact hgi, hl, rfl⟩⟩, rfl, rfl, rfl⟩
 have hs' : Sim G B0 w0 w' (s.put t (.row tip esz)) M := by
  refine ⟨hs.below.trans hbel, hs.size, hs.bound, fun i hi => by rw [hb3]; exact hs.blk i hi, fun i j oi oj hi hj gi gj => hs.inj i j oi oj hi hj (by rw [<- hget]; exact gi) (by rw [<- hget]; exact gj), fun i o hi hgi => ?_, fun g cs hgl => (hs.glob g cs hgl).ext hE, hs.fx, hs.outw (by omega)⟩
  rw [hget] at hgi
  have ho := hs.obj i o hi hgi
  by_cases e1 : i = t
  ·subst e1; rw [hg] at hgi; cases hgi
   exact ⟨c, ec, fr', hb1, a2, a3, hfr'⟩
  ·cases o with
   | dead => trivial
   | box cs =>
    have hne : M.blk i ≠ M.blk t := fun e' => e1 (hs.inj i t _ _ hi ht hgi hg trivial trivial e')
    obtain ⟨c, e', fr, a1, a2, a3⟩ := ho; exact ⟨c, e', fr, (hb2 _ hne).trans a1, a2.ext hE, a3⟩
   | fz cs =>
    have hne : M.blk i ≠ M.blk t := fun e' => e1 (hs.inj i t _ _ hi ht hgi hg trivial trivial e')
    obtain ⟨c, e', fr, a1, a2, a3⟩ := ho; exact ⟨c, e', fr, (hb2 _ hne).trans a1, a2.ext hE, a3⟩
   | row tip esz =>
    have hne : M.blk i ≠ M.blk t := fun e' => e1 (hs.inj i t _ _ hi ht hgi hg trivial trivial e')
    obtain ⟨c, e', fr, a1, a2⟩ := ho; exact ⟨c, e', fr, (hb2 _ hne).trans a1, a2⟩
   | map es =>
    have hne : M.blk i ≠ M.blk t := fun e' => e1 (hs.inj i t _ _ hi ht hgi hg trivial trivial e')
    obtain ⟨c, k, a1, a2⟩ := ho; exact ⟨c, k, (hb2 _ hne).trans a1, a2.ext hE⟩
   | loop T ps asg body st pend =>
    have hne : M.blk i ≠ M.blk t := fun e' => e1 (hs.inj i t _ _ hi ht hgi hg trivial trivial e')
    obtain ⟨rc, a1, a2, a3, a4, a5, a6, a7, a8⟩ := ho; exact ⟨rc, (hb2 _ hne).trans a1, a2, a3, a4, a5, a6, a7, fun t => (a8 t).ext hE⟩
   | defs =>
    have hne : M.blk i ≠ M.blk t := fun e' => e1 (hs.inj i t _ _ hi ht hgi hg trivial trivial e')
    exact (hb2 _ hne).trans ho
   | sym k =>
    have hne : M.blk i ≠ M.blk t := fun e' => e1 (hs.inj i t _ _ hi ht hgi hg trivial trivial e')
    show SymR _ _ _ _; rw [hb2 _ hne]; exact ho
   | ar t' e' z' =>
    have hne : M.blk i ≠ M.blk t := fun e' => e1 (hs.inj i t _ _ hi ht hgi hg trivial trivial e')
    exact arR_ext hE (hb2 _ hne) ho
 refine ok_value (v := a.eval x) (w' := w') ?_ (vx'.ext hE) hs' hE
 have hsh : w.shape? (M.blk t) = some (ec, c.size) := by unfold World.shape?; rw [a1]
 rw [h1] at h2; cases h2
 simp only [execOp, hop, convert, Sem.run_bind, run_underlying h1, run_underlying h3, ex, Result.andThen_ok, beq_self_eq_true, markStringish, run_shape, hsh, run_freeze, Sem.run_pure]
 rfl

theorem args_head {hs : Sim G B0 w0 w s M} {T : Tm} {a : Act} (hT : TmR w s M T a) {c : Go.Call} {cs : List AV} {x : AV} (h : opds G T c.args.toList = some cs) (hx : cs.head? = some x) : ∃ v, (c.args.map a.eval)[0]? = some v /\ VR w s M x v := by
 have := opds_sound hs hT h
 rcases this.get 0 with ⟨h1, _⟩ | ⟨c', v, h1, h2, h3⟩
 ·rw [List.head?_eq_getElem?, h1] at hx; cases hx
 ·rw [List.head?_eq_getElem?, h1] at hx; cases hx
  refine ⟨v, ?_, h3⟩
  rw [<- Array.toList_map] at h2
  rw [<- Array.getElem?_toList]; exact h2
theorem s_len {o : Oper} {a : Act} {T : Tm} {c : Go.Call} {t0 : TypeId} {d : TypeDesc} {cs : List AV} {x : AV} {n : Nat} (hs : Sim G B0 w0 w s M) (hT : TmR w s M T a) (hop : o.op = .call c) (hc : c.callee = .builtin .len) (hA0 : c.argTypes[0]? = some t0)
  (h : opds G T c.args.toList = some cs) (hx : cs.head? = some x) (hd : P.underlying t0 = some d)
  (hk : (d = .string /\ ∃ b : ByteArray, x = .v (.string b) /\ n = b.size) \/ ((∃ e, d = .slice e) /\ ((∃ k, x = .v (.slice none n k)) \/ (x = .e0 /\ n = 0) \/ (∃ l t, x = .sl l n t) \/ (∃ b off, x = .ms b off n) \/ ∃ b, x = .mg b n)) \/ (∃ e, d = .array n e) \/
   ((∃ k e, d = .map k e) /\ ((x = .v (.map none) /\ n = 0) \/ ∃ m es, x = .mp m /\ s.get m = some (.map es) /\ n = es.length))) : OpOk P G B0 w0 w s M o a (.v (goInt n)) s := by
 obtain ⟨v, hv, vx⟩ := args_head (hs := hs) hT h hx
 have key : (Builtin.len_ c.argTypes o.type (c.args.map a.eval)).run P w = .ok (goInt n) w := by
  unfold Builtin.len_
  rcases hk with ⟨rfl, b, rfl, rfl⟩ | ⟨⟨e, rfl⟩, hk⟩ | ⟨e, rfl⟩ | ⟨⟨k, e, rfl⟩, hk⟩
  ·have := (VR_v.1 vx).1; subst this
   simp [hA0, hv, run_underlying hd]
  ·rcases hk with ⟨k, rfl⟩ | ⟨rfl, rfl⟩ | ⟨l, t, rfl⟩ | ⟨b, off, rfl⟩ | ⟨b, rfl⟩
   ·have := (VR_v.1 vx).1; subst this; simp [hA0, hv, run_underlying hd]
   ·unfold VR at vx; obtain ⟨b, off, rfl⟩ := vx; simp [hA0, hv, run_underlying hd]
   ·unfold VR at vx; obtain ⟨b, off, cap, rfl, _⟩ := vx; simp [hA0, hv, run_underlying hd]
   ·unfold VR at vx; obtain ⟨_, cap, _, rfl⟩ := vx; simp [hA0, hv, run_underlying hd]
   ·unfold VR at vx; obtain ⟨_, _, rfl⟩ := vx; simp [hA0, hv, run_underlying hd]
  ·simp [hA0, hv, run_underlying hd]
  ·rcases hk with ⟨rfl, rfl⟩ | ⟨m, es, rfl, hg, rfl⟩
   ·have := (VR_v.1 vx).1; subst this; simp [hA0, hv, run_underlying hd]
   ·unfold VR at vx; obtain ⟨hm, rfl⟩ := vx
    obtain ⟨ents, clock, h1, h2⟩ := hs.obj m _ hm hg
    have hl : ∀ {es : List (Value × AV)} {l : List MapEntry}, MR w s M es l -> es.length = l.length := by
     intro es
     induction es with
     | nil => intro l h; simp only [MR] at h; subst h; rfl
     | cons p r ih => intro l h; obtain ⟨k, x⟩ := p; obtain ⟨e, t, rfl, _, _, h⟩ := h; simp [ih h]
    have hl := hl h2
    simp at hl
    have hgo : (getObj (M.blk m)).run P w = .ok (.map ents clock) w := by simp [getObj, Sem.run, h1]
    simp [hA0, hv, run_underlying hd, hgo, hl]
 refine ok_here hs (v := goInt n) ?_ (VR_v_of rfl)
 simp [execOp, hop, resolve, hc, invoke, builtin, key]

def Bd (v : Option Value) (dflt n : Nat) : Prop := (v = none /\ n = dflt) \/ ∃ k i, v = some (.int k i) /\ 0 <= i /\ i.toNat = n
theorem bd_of (hs : Sim G B0 w0 w s M) {T : Tm} {a : Act} (hT : TmR w s M T a) {x : Option Operand} {dflt n : Nat} (h : bnd G T x dflt = some n) : Bd (x.map a.eval) dflt n := by
 cases x with
 | none => simp only [bnd, Option.some.injEq] at h; exact .inl ⟨rfl, h.symm⟩
 | some i =>
  simp only [bnd, Option.bind_eq_some_iff] at h
  obtain ⟨c, h1, h2⟩ := h
  obtain ⟨k, j, rfl, h3, h4⟩ := asNat_some h2
  have := (VR_v.1 (opd_sound hs hT h1)).1
  exact .inr ⟨k, j, by simp [this], h3, h4⟩
theorem run_bounds {isS : Bool} {len cap l h : Nat} {lo hi : Option Value} (h1 : Bd lo 0 l) (h2 : Bd hi len h) (hl : l <= h) (hh : h <= cap) : (Instr.sliceBounds isS len cap lo hi none).run P w = .ok (l, h, cap) w := by
 rcases h1 with ⟨rfl, rfl⟩ | ⟨k1, i1, rfl, p1, rfl⟩ <;> rcases h2 with ⟨rfl, rfl⟩ | ⟨k2, i2, rfl, p2, rfl⟩
 ·simp [Instr.sliceBounds]
 ·simp [Instr.sliceBounds, run_sliceBound _ k2 i2 cap _ p2 (by omega)]
 ·simp [Instr.sliceBounds, run_sliceBound _ k1 i1 h _ p1 (by omega)]
 ·simp [Instr.sliceBounds, run_sliceBound _ k2 i2 cap _ p2 (by omega), run_sliceBound _ k1 i1 i2.toNat _ p1 (by omega)]
theorem run_sliceAt' {t e : TypeId} {size : Nat} (hu : P.underlying t = some (.slice e)) (hn : sizeT P e = some size) {len cap l h : Nat} {lo hi : Option Value} {base : Option Addr} (h1 : Bd lo 0 l) (h2 : Bd hi len h) (hl : l <= h) (hh : h <= cap) :
  (Instr.sliceAt t (.slice base len cap) lo hi none).run P w = .ok (.slice (if cap = l then base else base.map (·.add (l * size))) (h - l) (cap - l)) w := by
 simp [Instr.sliceAt, Instr.slice, run_underlying hu, run_bounds h1 h2 hl hh, run_sizeOf hn]
theorem run_sliceArr {t e : TypeId} {n size : Nat} (hu : P.underlying t = some (.array n e)) (hn : sizeT P e = some size) {l h : Nat} {lo hi : Option Value} {ad : Addr} (h1 : Bd lo 0 l) (h2 : Bd hi n h) (hl : l <= h) (hh : h <= n) :
  (Instr.sliceAt t (.pointer (some ad)) lo hi none).run P w = .ok (.slice (some (if n = l then ad else ad.add (l * size))) (h - l) (n - l)) w := by
 simp [Instr.sliceAt, Instr.sureAddr, run_underlying hu, run_bounds h1 h2 hl hh, run_sizeOf hn]

theorem s_slice {o : Oper} {a : Act} {T : Tm} {t e : TypeId} {x : Operand} {lo hi : Option Operand} {size l h : Nat} {c d : AV} (hs : Sim G B0 w0 w s M) (hT : TmR w s M T a) (hop : o.op = .slice t x lo hi none) (hu : P.underlying t = some (.slice e)) (hn : sizeT P e = some size)
  (hx : opd G T x = some c) (hlo : bnd G T lo 0 = some l)
  (hk : (∃ p q, c = .v (.slice none p q) /\ bnd G T hi 0 = some h /\ l = 0 /\ h = 0 /\ d = c) \/
   (c = .e0 /\ bnd G T hi 0 = some h /\ l = 0 /\ h = 0 /\ d = c) \/
   (∃ cs len tok, c = .sl cs len tok /\ bnd G T hi len = some h /\ l <= h /\ h <= len /\ ((l = len /\ d = .sl [] 0 none) \/ (l ≠ len /\ ∃ tok', (tok' = none \/ (tok' = tok /\ l = 0 /\ h = len)) /\ d = .sl (cs.drop (l * size)) (h - l) tok'))) \/
   (∃ b off len, c = .ms b off len /\ bnd G T hi len = some h /\ l <= h /\ h <= len /\ ((l = len /\ d = .sl [] 0 none) \/ (l ≠ len /\ d = .ms b (off + l * size) (h - l)))) \/
   (∃ b len, c = .mg b len /\ bnd G T hi len = some h /\ l <= h /\ h <= len /\ ((l = len /\ d = .sl [] 0 none) \/ (l ≠ len /\ ((l = 0 /\ h = len /\ d = .mg b len) \/ d = .ms b (l * size) (h - l)))))) : OpOk P G B0 w0 w s M o a d s := by
 have vx := opd_sound hs hT hx
 have b1 := bd_of hs hT hlo
 have fin : ∀ v, (Instr.sliceAt t (a.eval x) (lo.map a.eval) (hi.map a.eval) none).run P w = .ok v w -> VR w s M d v -> OpOk P G B0 w0 w s M o a d s := fun v hr hv => ok_here hs (v := v) (by simp [execOp, hop, hr]) hv
 rcases hk with ⟨p, q, rfl, hhi, rfl, rfl, rfl⟩ | ⟨rfl, hhi, rfl, rfl, rfl⟩ | ⟨cs, len, tok, rfl, hhi, h1, h2, hk⟩ | ⟨b, off, len, rfl, hhi, h1, h2, hk⟩ | ⟨b, len, rfl, hhi, h1, h2, hk⟩
 ·have vx' := VR_v.1 vx
  have hz : p = 0 /\ q = 0 := by have := vx'.2; simp only [scalar, Bool.and_eq_true] at this; exact ⟨nbe this.1, nbe this.2⟩
  obtain ⟨rfl, rfl⟩ := hz
  refine fin _ ?_ vx
  rw [vx'.1]
  have := run_sliceAt' (w := w) (base := none) (cap := 0) hu hn b1 (bd_of hs hT hhi) (Nat.le_refl _) (Nat.le_refl _)
  simpa using this
 ·have vx' := vx
  unfold VR at vx; obtain ⟨b, off, ex⟩ := vx
  refine fin _ ?_ vx'
  rw [ex]
  have := run_sliceAt' (w := w) (base := some ⟨b, off, none⟩) (cap := 0) hu hn b1 (bd_of hs hT hhi) (Nat.le_refl _) (Nat.le_refl _)
  simpa using this
 ·unfold VR at vx; obtain ⟨b, off, cap, ex, hle, hv, htok⟩ := vx
  have hr := run_sliceAt' (w := w) (base := some ⟨b, off, none⟩) (cap := cap) hu hn b1 (bd_of hs hT hhi) h1 (by omega)
  rw [<- ex] at hr
  refine fin _ hr ?_
  rcases hk with ⟨rfl, rfl⟩ | ⟨hne, tok', htok', rfl⟩
  ·have : h - l = 0 := by omega
   rw [this]
   unfold VR
   by_cases e1 : cap = l
   ·rw [if_pos e1]; exact ⟨b, off, _, rfl, Nat.zero_le _, VRs_nil, fun t ht => by cases ht⟩
   ·rw [if_neg e1]; simp only [Option.map_some, add_eq]; exact ⟨b, _, _, rfl, Nat.zero_le _, VRs_nil, fun t ht => by cases ht⟩
  ·rw [if_neg (by omega)]
   simp only [Option.map_some, add_eq]
   unfold VR
   refine ⟨b, _, _, rfl, by omega, hv.drop _, fun t ht => ?_⟩
   rcases htok' with rfl | ⟨rfl, rfl, rfl⟩
   ·cases ht
   ·obtain ⟨k1, k2⟩ := htok t ht
    refine ⟨k1, fun tip e' hg => ?_⟩
    obtain ⟨r1, r2, r3⟩ := k2 tip e' hg
    exact ⟨r1, by rw [r2]; simp, by rw [r3]; simp⟩
 ·unfold VR at vx; obtain ⟨hb, cap, hle, ex⟩ := vx
  have hr := run_sliceAt' (w := w) (base := some ⟨M.blk b, off, none⟩) (cap := cap) hu hn b1 (bd_of hs hT hhi) h1 (by omega)
  rw [<- ex] at hr
  refine fin _ hr ?_
  rcases hk with ⟨rfl, rfl⟩ | ⟨hne, rfl⟩
  ·have : h - l = 0 := by omega
   rw [this]
   unfold VR
   by_cases e1 : cap = l
   ·rw [if_pos e1]; exact ⟨_, off, _, rfl, Nat.zero_le _, VRs_nil, fun t ht => by cases ht⟩
   ·rw [if_neg e1]; simp only [Option.map_some, add_eq]; exact ⟨_, _, _, rfl, Nat.zero_le _, VRs_nil, fun t ht => by cases ht⟩
  ·rw [if_neg (by omega)]
   simp only [Option.map_some, add_eq]
   unfold VR
   exact ⟨hb, _, by omega, rfl⟩
 ·unfold VR at vx; obtain ⟨hb, hle, ex⟩ := vx
  have hr := run_sliceAt' (w := w) (base := some ⟨M.blk b, 0, none⟩) (cap := M.cap b) hu hn b1 (bd_of hs hT hhi) h1 (by omega)
  rw [<- ex] at hr
  refine fin _ hr ?_
  rcases hk with ⟨rfl, rfl⟩ | ⟨hne, ⟨rfl, rfl, rfl⟩ | rfl⟩
  ·have : h - l = 0 := by omega
   rw [this]
   unfold VR
   by_cases e1 : M.cap b = l
   ·rw [if_pos e1]; exact ⟨_, 0, _, rfl, Nat.zero_le _, VRs_nil, fun t ht => by cases ht⟩
   ·rw [if_neg e1]; simp only [Option.map_some, add_eq]; exact ⟨_, _, _, rfl, Nat.zero_le _, VRs_nil, fun t ht => by cases ht⟩
  ·rw [if_neg (by omega)]
   simp only [Option.map_some, add_eq, Nat.zero_mul, Nat.add_zero, Nat.sub_zero]
   unfold VR
   exact ⟨hb, hle, rfl⟩
  ·rw [if_neg (by omega)]
   simp only [Option.map_some, add_eq, Nat.zero_add]
   unfold VR
   exact ⟨hb, _, by omega, rfl⟩

theorem s_slice_arr {o : Oper} {a : Act} {T : Tm} {t e : TypeId} {x : Operand} {lo hi : Option Operand} {n size l h : Nat} {c d : AV} (hs : Sim G B0 w0 w s M) (hT : TmR w s M T a) (hop : o.op = .slice t x lo hi none) (hu : P.underlying t = some (.array n e)) (hn : sizeT P e = some size)
  (hx : opd G T x = some c) (hlo : bnd G T lo 0 = some l) (hhi : bnd G T hi n = some h) (h1 : l <= h) (h2 : h <= n)
  (hk : (∃ cs, c = .ref cs /\ ((l = n /\ d = .sl [] 0 none) \/ (l ≠ n /\ d = .sl (cs.drop (l * size)) (h - l) none))) \/
   (∃ b off, c = .box b off /\ ((l = n /\ d = .sl [] 0 none) \/ (l ≠ n /\ d = .ms b (off + l * size) (h - l))))) : OpOk P G B0 w0 w s M o a d s := by
 have vx := opd_sound hs hT hx
 have b1 := bd_of hs hT hlo
 have b2 := bd_of hs hT hhi
 have fin : ∀ v, (Instr.sliceAt t (a.eval x) (lo.map a.eval) (hi.map a.eval) none).run P w = .ok v w -> VR w s M d v -> OpOk P G B0 w0 w s M o a d s := fun v hr hv => ok_here hs (v := v) (by simp [execOp, hop, hr]) hv
 rcases hk with ⟨cs, rfl, hk⟩ | ⟨b, off, rfl, hk⟩
 ·unfold VR at vx; obtain ⟨b, off, ex, hv⟩ := vx
  have hr := run_sliceArr (w := w) (ad := ⟨b, off, none⟩) hu hn b1 b2 h1 h2
  rw [<- ex] at hr
  refine fin _ hr ?_
  rcases hk with ⟨rfl, rfl⟩ | ⟨hne, rfl⟩
  ·have : h - l = 0 := by omega
   rw [this, if_pos rfl]
   unfold VR; exact ⟨b, off, _, rfl, Nat.zero_le _, VRs_nil, fun t ht => by cases ht⟩
  ·rw [if_neg (Ne.symm hne), add_eq]
   unfold VR; exact ⟨b, _, _, rfl, by omega, hv.drop _, fun t ht => by cases ht⟩
 ·unfold VR at vx; obtain ⟨hb, ex⟩ := vx
  have hr := run_sliceArr (w := w) (ad := ⟨M.blk b, off, none⟩) hu hn b1 b2 h1 h2
  rw [<- ex] at hr
  refine fin _ hr ?_
  rcases hk with ⟨rfl, rfl⟩ | ⟨hne, rfl⟩
  ·have : h - l = 0 := by omega
   rw [this, if_pos rfl]
   unfold VR; exact ⟨_, off, _, rfl, Nat.zero_le _, VRs_nil, fun t ht => by cases ht⟩
  ·rw [if_neg (Ne.symm hne), add_eq]
   unfold VR; exact ⟨hb, _, by omega, rfl⟩

theorem s_slice_none {o : Oper} {a : Act} {T : Tm} {t e : TypeId} {x hi mx : Operand} {lo : Option Operand} {size : Nat} {c d ch cm : AV} (hs : Sim G B0 w0 w s M) (hT : TmR w s M T a) (hop : o.op = .slice t x lo (some hi) (some mx)) (hu : P.underlying t = some (.slice e)) (hn : sizeT P e = some size)
  (hx : opd G T x = some c) (hlo : bnd G T lo 0 = some 0) (hhi : opd G T hi = some ch) (hmx : opd G T mx = some cm) (hh : asNat ch = some 0) (hm : asNat cm = some 0)
  (hk : (∃ p q, c = .v (.slice none p q) /\ d = c) \/ (((∃ cs len tok, c = .sl cs len tok) \/ (∃ b off len, c = .ms b off len) \/ (∃ b len, c = .mg b len) \/ c = .e0) /\ d = .e0)) : OpOk P G B0 w0 w s M o a d s := by
 have vx := opd_sound hs hT hx
 have b1 := bd_of hs hT hlo
 obtain ⟨k2, i2, rfl, p2, q2⟩ := asNat_some hh
 obtain ⟨k3, i3, rfl, p3, q3⟩ := asNat_some hm
 have e2 := (VR_v.1 (opd_sound hs hT hhi)).1
 have e3 := (VR_v.1 (opd_sound hs hT hmx)).1
 have z2 : i2 = 0 := by omega
 have z3 : i3 = 0 := by omega
 subst z2 z3
 have hb : ∀ len cap, (Instr.sliceBounds true len cap (lo.map a.eval) (some (a.eval hi)) (some (a.eval mx))).run P w = .ok (0, 0, 0) w := by
  intro len cap
  rw [e2, e3]
  rcases b1 with ⟨e1, _⟩ | ⟨k1, i1, e1, p1, q1⟩
  ·rw [e1]; simp [Instr.sliceBounds, run_sliceBound]
  ·have : i1 = 0 := by omega
   subst this
   rw [e1]; simp [Instr.sliceBounds, run_sliceBound]
 have hr : ∀ base len cap, (Instr.sliceAt t (.slice base len cap) (lo.map a.eval) (some (a.eval hi)) (some (a.eval mx))).run P w = .ok (.slice base 0 0) w := by
  intro base len cap
  simp [Instr.sliceAt, Instr.slice, run_underlying hu, hb, run_sizeOf hn]
 have fin : ∀ v, (Instr.sliceAt t (a.eval x) (lo.map a.eval) (some (a.eval hi)) (some (a.eval mx))).run P w = .ok v w -> VR w s M d v -> OpOk P G B0 w0 w s M o a d s := fun v hr hv => ok_here hs (v := v) (by simp [execOp, hop, hr]) hv
 rcases hk with ⟨p, q, rfl, rfl⟩ | ⟨⟨cs, len, tok, rfl⟩ | ⟨b, off, len, rfl⟩ | ⟨b, len, rfl⟩ | rfl, rfl⟩
 ·have vx' := VR_v.1 vx
  have hz : p = 0 /\ q = 0 := by have := vx'.2; simp only [scalar, Bool.and_eq_true] at this; exact ⟨nbe this.1, nbe this.2⟩
  obtain ⟨rfl, rfl⟩ := hz
  exact fin _ (by rw [vx'.1]; exact hr _ _ _) (VR_v_of vx'.2)
 ·unfold VR at vx; obtain ⟨b, off, cap, ex, _⟩ := vx
  exact fin _ (by rw [ex]; exact hr _ _ _) (by unfold VR; exact ⟨b, off, rfl⟩)
 ·unfold VR at vx; obtain ⟨_, cap, _, ex⟩ := vx
  exact fin _ (by rw [ex]; exact hr _ _ _) (by unfold VR; exact ⟨_, off, rfl⟩)
 ·unfold VR at vx; obtain ⟨_, _, ex⟩ := vx
  exact fin _ (by rw [ex]; exact hr _ _ _) (by unfold VR; exact ⟨_, 0, rfl⟩)
 ·unfold VR at vx; obtain ⟨b, off, ex⟩ := vx
  exact fin _ (by rw [ex]; exact hr _ _ _) (by unfold VR; exact ⟨b, off, rfl⟩)
end
end Go.Ab
/- The evaluator's operations against the model's, the very last: maps, copies, structs built, calls. -/
namespace Go.Ab
open Go Go.RowKit

section
variable [Interp] {P : Program} {G : Nat -> Option (List AV)} {B0 : Nat} {w0 w : World} {s : St} {M : Mp}

omit [Interp] in
theorem ba_beq (x y : ByteArray) : (x == y) = true ↔ x = y := by
 rcases x with ⟨a⟩
 rcases y with ⟨b⟩
 show (a == b) = true ↔ _
 simp
theorem sameKey_now {t : TypeId} {d : TypeDesc} {k x : Value} {b : Bool} (hd : P.underlying t = some d) (hk : keyT P t k = true) (h : sameKey k x = some b) : Instr.sameNow d k x = some b := by
 unfold keyT at hk
 rw [hd] at hk
 cases k <;> cases x <;> simp only [sameKey] at h <;> first | (cases h; done) | skip
 ·cases d <;> simp at hk
  exact h
 ·cases d <;> simp at hk
  exact h
theorem findA_now {t : TypeId} {d : TypeDesc} (hd : P.underlying t = some d) {k : Value} (hk : keyT P t k = true) : ∀ {es : List (Value × AV)} {ents : List MapEntry} {r : Option AV} (i : Nat), findA k es = some r -> MR w s M es ents ->
  (r = none /\ Instr.findNow d k ents i = some none) \/ ∃ x j v, r = some x /\ Instr.findNow d k ents i = some (some (j, v)) /\ VR w s M x v
 | [], ents, r, i, h, k' => by
  simp only [findA, Option.some.injEq] at h; subst h
  simp only [MR] at k'; subst k'
  exact .inl ⟨rfl, rfl⟩
 | (kx, x) :: es, ents, r, i, h, k' => by
  obtain ⟨e, t', rfl, rfl, k1, k2⟩ := k'
  simp only [findA, Option.bind_eq_bind, Option.bind_eq_some_iff] at h
  obtain ⟨b, h1, h⟩ := h
  have h1 := sameKey_now hd hk h1
  cases b with
  | true =>
   simp only [if_true, Option.pure_def, Option.some.injEq] at h; subst h
   exact .inr ⟨x, i, e.val, rfl, by simp [Instr.findNow, h1], k1⟩
  | false =>
   simp only [Bool.false_eq_true, if_false] at h
   rcases findA_now hd hk (i + 1) h k2 with ⟨p, q⟩ | ⟨x', j, v, p, q, r⟩
   ·exact .inl ⟨p, by simp [Instr.findNow, h1, q]⟩
   ·exact .inr ⟨x', j, v, p, by simp [Instr.findNow, h1, q], r⟩
theorem run_checkKey {t : TypeId} {k : Value} (hk : keyT P t k = true) (b : Bool) (n : Nat) : (Instr.checkKey b (n + 1) t k).run P w = .ok () w := by
 unfold keyT at hk
 cases hd : P.underlying t with
 | none => rw [hd] at hk; simp at hk
 | some d =>
  rw [hd] at hk
  cases d <;> cases k <;> first | (simp at hk; done) | simp [Instr.checkKey, run_underlying hd]
theorem run_checkKey' {t : TypeId} {k : Value} (hk : keyT P t k = true) (b : Bool) : (Instr.checkKey b 10000 t k).run P w = .ok () w := run_checkKey hk b 9999

theorem s_lookup {o : Oper} {a : Act} {T : Tm} {t kt e : TypeId} {x ix : Operand} {ok : Bool} {c ck z : AV} {key : Value} {zv : Value} {r : Option AV} (hs : Sim G B0 w0 w s M) (hT : TmR w s M T a) (hop : o.op = .lookup t x ix ok) (hu : P.underlying t = some (.map kt e))
  (hix : opd G T ix = some ck) (hkey : unSc ck = some key) (hz : zeroT P e = some zv) (hz2 : ofValue zv = some z) (hk : keyT P kt key = true) (hx : opd G T x = some c)
  (hr : (c = .v (.map none) /\ r = none) \/ ∃ m es, c = .mp m /\ s.get m = some (.map es) /\ findA key es = some r) : OpOk P G B0 w0 w s M o a (if ok then .tup [r.getD z, .v (.bool r.isSome)] else r.getD z) s := by
 have vx := opd_sound hs hT hx
 have vk := unSc_some hkey (opd_sound hs hT hix)
 have vz := VR_ofValue (w := w) (s := s) (M := M) hz2
 obtain ⟨d, hd⟩ : ∃ d, P.underlying kt = some d := by
  cases hd : P.underlying kt with
  | none => unfold keyT at hk; rw [hd] at hk; simp at hk
  | some d => exact ⟨d, rfl⟩
 have fin : ∀ v, VR w s M (r.getD z) v -> (Instr.lookup t (a.eval x) (a.eval ix) ok).run P w = .ok (if ok then .tuple #[v, .bool r.isSome] else v) w -> OpOk P G B0 w0 w s M o a (if ok then .tup [r.getD z, .v (.bool r.isSome)] else r.getD z) s := by
  intro v hv hrun
  refine ok_here hs (v := if ok then .tuple #[v, .bool r.isSome] else v) (by simp [execOp, hop, hrun]) ?_
  cases ok with
  | true => exact VR_tup (VRl_cons hv (VRl_cons (VR_v_of rfl) VRl_nil))
  | false => exact hv
 rcases hr with ⟨rfl, rfl⟩ | ⟨m, es, rfl, hg, hf⟩
 ·have ex := (VR_v.1 vx).1
  refine fin zv vz ?_
  cases ok <;> simp [Instr.lookup, run_underlying hu, ex, vk, run_checkKey' hk, Instr.findKey, run_underlying hd, Instr.findNow, run_zeroValue hz]
 ·unfold VR at vx; obtain ⟨hm, ex⟩ := vx
  obtain ⟨ents, clock, h1, h2⟩ := hs.obj m _ hm hg
  have hgo : (getObj (M.blk m)).run P w = .ok (.map ents clock) w := by simp [getObj, Sem.run, h1]
  rcases findA_now hd hk 0 hf h2 with ⟨rfl, hn⟩ | ⟨y, j, v, rfl, hn, hv⟩
  ·refine fin zv vz ?_
   cases ok <;> simp [Instr.lookup, run_underlying hu, ex, vk, hgo, run_checkKey' hk, Instr.findKey, run_underlying hd, hn, run_zeroValue hz]
  ·refine fin v hv ?_
   cases ok <;> simp [Instr.lookup, run_underlying hu, ex, vk, hgo, run_checkKey' hk, Instr.findKey, run_underlying hd, hn]

theorem sameBits_key {t : TypeId} {k : Value} (hk : keyT P t k = true) (n : Nat) : Instr.sameBits n k k = true := by
 unfold keyT at hk
 cases hd : P.underlying t with
 | none => rw [hd] at hk; simp at hk
 | some d =>
  rw [hd] at hk
  cases d <;> cases k <;> first | (simp at hk; done) | (cases n <;> simp [Instr.sameBits, ba_beq])
theorem sameKey_eq {k x : Value} (h : sameKey k x = some true) : x = k := by
 cases k <;> cases x <;> simp only [sameKey] at h <;> first | (cases h; done) | skip
 ·split at h
  ·rename_i e; subst e; simp only [Option.some.injEq, beq_iff_eq] at h; rw [h]
  ·cases h
 ·simp only [Option.some.injEq] at h; rw [(ba_beq _ _).1 h]
theorem setA_now {t : TypeId} {d : TypeDesc} (hd : P.underlying t = some d) {k : Value} (hk : keyT P t k = true) {y : AV} {yv : Value} {clock : Nat} (hy : VR w s M y yv) : ∀ {es es' : List (Value × AV)} {ents : List MapEntry} (i : Nat), setA k y es = some es' -> MR w s M es ents ->
  (Instr.findNow d k ents i = some none /\ MR w s M es' (ents ++ [{ key := k, val := yv, born := clock }])) \/
  ∃ p v e, Instr.findNow d k ents i = some (some (i + p, v)) /\ ents[p]? = some e /\ e.key = k /\ MR w s M es' (ents.modify p fun e => { e with key := k, val := yv })
 | [], es', ents, i, h, k' => by
  simp only [setA, Option.some.injEq] at h; subst h
  simp only [MR] at k'; subst k'
  exact .inl ⟨rfl, ⟨_, [], rfl, rfl, hy, rfl⟩⟩
 | (kx, x) :: es, es', ents, i, h, k' => by
  obtain ⟨e, t', rfl, rfl, k1, k2⟩ := k'
  simp only [setA, Option.bind_eq_bind, Option.bind_eq_some_iff] at h
  obtain ⟨b, h1, h⟩ := h
  have h1' := sameKey_now hd hk h1
  cases b with
  | true =>
   simp only [if_true, Option.pure_def, Option.some.injEq] at h; subst h
   have := sameKey_eq h1
   refine .inr ⟨0, e.val, e, by simp [Instr.findNow, h1'], rfl, this, ?_⟩
   exact ⟨_, t', rfl, rfl, hy, k2⟩
  | false =>
   simp only [Bool.false_eq_true, if_false, Option.bind_eq_some_iff, Option.pure_def, Option.some.injEq] at h
   obtain ⟨r, h2, rfl⟩ := h
   rcases setA_now hd hk hy (i + 1) h2 k2 with ⟨p, q⟩ | ⟨p, v, e', q1, q2, q3, q4⟩
   ·exact .inl ⟨by simp [Instr.findNow, h1', p], ⟨e, _, rfl, rfl, k1, q⟩⟩
   ·refine .inr ⟨p + 1, v, e', ?_, by simpa using q2, q3, ⟨e, _, rfl, rfl, k1, q4⟩⟩
    simp only [Instr.findNow, h1']
    rw [q1, show i + 1 + p = i + (p + 1) by omega]

theorem s_mapUpdate {o : Oper} {a : Act} {T : Tm} {t kt e : TypeId} {om ok ox : Operand} {ck y : AV} {key : Value} {m : Nat} {es es' : List (Value × AV)} (hs : Sim G B0 w0 w s M) (hT : TmR w s M T a) (hop : o.op = .mapUpdate t om ok ox \/ o.op = .insert t om ok ox) (hu : P.underlying t = some (.map kt e))
  (hik : opd G T ok = some ck) (hkey : unSc ck = some key) (hy : opd G T ox = some y) (hk : keyT P kt key = true) (hx : opd G T om = some (.mp m)) (hg : s.get m = some (.map es)) (hset : setA key y es = some es') : OpOk P G B0 w0 w s M o a und (s.put m (.map es')) := by
 have vx := opd_sound hs hT hx
 have vy := opd_sound hs hT hy
 have vk := unSc_some hkey (opd_sound hs hT hik)
 obtain ⟨d, hd⟩ : ∃ d, P.underlying kt = some d := by
  cases hd : P.underlying kt with
  | none => unfold keyT at hk; rw [hd] at hk; simp at hk
  | some d => exact ⟨d, rfl⟩
 unfold VR at vx; obtain ⟨hm, ex⟩ := vx
 obtain ⟨ents, clock, h1, h2⟩ := hs.obj m _ hm hg
 have hlt := (hs.blk m hm).2
 have hgo : (getObj (M.blk m)).run P w = .ok (.map ents clock) w := by simp [getObj, Sem.run, h1]
 have hso : ∀ ob : Obj, (setObj (M.blk m) ob).run P w = .ok () { w with heap := w.heap.setIfInBounds (M.blk m) ob } := fun ob => by simp [setObj, Sem.run, h1]
 have hh : ∀ ob : Obj, ({ w with heap := w.heap.setIfInBounds (M.blk m) ob } : World).heap[M.blk m]? = some ob := fun ob => by
  show (w.heap.setIfInBounds (M.blk m) ob)[M.blk m]? = some ob
  rw [Array.getElem?_setIfInBounds_self, if_pos hlt]
 have hh2 : ∀ (ob : Obj) k, k ≠ M.blk m -> ({ w with heap := w.heap.setIfInBounds (M.blk m) ob } : World).heap[k]? = w.heap[k]? := fun ob k hk => by
  show (w.heap.setIfInBounds (M.blk m) ob)[k]? = _
  rw [Array.getElem?_setIfInBounds_ne (Ne.symm hk)]
 have fin : ∀ ents' clock', (Instr.mapUpdate t (a.eval om) (a.eval ok) (a.eval ox)).run P w = .ok () { w with heap := w.heap.setIfInBounds (M.blk m) (.map ents' clock') } -> MR w s M es' ents'.toList -> OpOk P G B0 w0 w s M o a und (s.put m (.map es')) := by
  intro ents' clock' hrun hmr
  have hE : Ext w s M { w with heap := w.heap.setIfInBounds (M.blk m) (.map ents' clock') } (s.put m (.map es')) M := ext_write hs hm hg (fun _ _ => by simp) trivial (fun _ _ => by simp) trivial (hh2 _) (by simp)
  refine ok_skip (by rcases hop with hop | hop <;> simp [execOp, hop, hrun]) (sim_write hs hm hg (fun _ _ => by simp) trivial (fun _ _ => by simp) trivial (hh2 _) ?_ (by simp) ⟨ents', clock', hh _, hmr.ext hE⟩) hE
  exact hs.below.trans ⟨rfl, rfl, rfl, by simp, fun k hk => hh2 _ k (by have := (hs.blk m hm).1; omega)⟩
 rcases setA_now hd hk vy (clock := clock) 0 hset h2 with ⟨q1, q2⟩ | ⟨p, v, e', q1, q2, q3, q4⟩
 ·refine fin (ents.push { key := key, val := a.eval ox, born := clock }) (clock + 1) ?_ (by simpa using q2)
  simp [Instr.mapUpdate, run_underlying hu, ex, vk, hgo, run_checkKey' hk, Instr.findKey, run_underlying hd, q1, hso]
 ·refine fin (ents.modify p fun e => { e with key := key, val := a.eval ox }) clock ?_ (by simpa using q4)
  have hkk : (((ents[p]?).map (·.key)).getD key) = key := by rw [<- Array.getElem?_toList, q2]; exact q3
  have hst : (Instr.keyThatStays key key).run P w = .ok key w := by unfold Instr.keyThatStays; rw [sameBits_key hk]; rfl
  simp [Instr.mapUpdate, run_underlying hu, ex, vk, hgo, run_checkKey' hk, Instr.findKey, run_underlying hd, q1, hkk, hst, hso]

end
end Go.Ab
/- The evaluator's operations against the model's: copies, structs built, calls. -/
namespace Go.Ab
open Go Go.RowKit

section
variable [Interp] {P : Program} {G : Nat -> Option (List AV)} {B0 : Nat} {w0 w : World} {s : St} {M : Mp}

theorem extract_map (x : ByteArray) (k : Nat) : (x.extract 0 k).data.map (fun b => Value.int .u8 b.toNat) = ((x.data.toList.map fun b => Value.int .u8 b.toNat).take k).toArray := by
 apply Array.toList_inj.1
 rw [Array.toList_map, ByteArray.data_extract, Array.toList_extract, List.extract_eq_take_drop, <- List.map_take]
 simp
theorem heldBy_first (hs : Sim G B0 w0 w s M) {size n : Nat} {c : AV} {ys : List AV} {v : Value} (h : heldBy s size c = some (ys, n)) (hv : VR w s M c v) (hl : ys.length = n * size) :
  ∃ vs, VRl w s M ys vs /\ (∀ W : World, (Builtin.lenOf v).run P W = .ok n W) /\ ∀ k, k <= n -> (Builtin.firstCells size k v).run P w = .ok (vs.take (k * size)).toArray w := by
 obtain ⟨vs, h1, h2, h3, _⟩ := heldBy_sound (P := P) hs h hv hl
 refine ⟨vs, h1, h2, fun k hk => ?_⟩
 have hvl : vs.length = n * size := by rw [<- h1.length, hl]
 have hks : k * size <= n * size := Nat.mul_le_mul_right _ hk
 unfold heldBy at h
 split at h
 ·simp only [Option.some.injEq, Prod.mk.injEq] at h
  obtain ⟨rfl, rfl⟩ := h
  obtain ⟨rfl, _⟩ := VR_v.1 hv
  have : k = 0 := by omega
  subst this
  simp [Builtin.firstCells]
 ·simp only [Option.some.injEq, Prod.mk.injEq] at h
  obtain ⟨rfl, rfl⟩ := h
  unfold VR at hv; obtain ⟨b, off, rfl⟩ := hv
  have : k = 0 := by omega
  subst this
  have := run_firstCells_some (P := P) w size 0 ⟨b, off, none⟩ 0 0 [] (by simp) (by simp); simpa using this
 ·rename_i cs len tok
  split at h
  ·simp only [Option.some.injEq, Prod.mk.injEq] at h
   obtain ⟨rfl, rfl⟩ := h
   unfold VR at hv; obtain ⟨b, off, cap, rfl, hle, hv, _⟩ := hv
   obtain ⟨us, g1, g2⟩ := (hv.take (len * size)).vals
   have hu : us.length = len * size := by rw [<- g1.length, hl]
   have e1 := run_firstCells_some (P := P) w size len ⟨b, off, none⟩ len cap us hu fun j x hj => by rw [add_eq]; exact g2 j x hj
   rw [h3] at e1
   have e2 : vs = us := by
    simp only [Result.ok.injEq, and_true] at e1
    simpa using congrArg Array.toList e1
   subst e2
   refine run_firstCells_some (P := P) w size k ⟨b, off, none⟩ len cap _ (by rw [List.length_take]; omega) fun j x hj => ?_
   rw [add_eq]
   rw [List.getElem?_take] at hj
   split at hj
   ·exact g2 j x hj
   ·cases hj
  ·cases h
 ·rename_i b off len
  split at h
  ·rename_i c esz hg
   split at h
   ·simp only [Option.some.injEq, Prod.mk.injEq] at h
    obtain ⟨rfl, rfl⟩ := h
    unfold VR at hv; obtain ⟨hb, cap, hle, rfl⟩ := hv
    obtain ⟨d, e, fr, q1, q2, _⟩ := hs.obj b _ hb hg
    have ha := (((at_block q1).take c.length).drop off).take (len * size)
    rw [Nat.zero_add] at ha
    have hlen : (((d.toList.take c.length).drop off).take (len * size)).length = len * size := by rw [<- ((q2.drop off).take (len * size)).length, hl]
    have e1 := run_firstCells_some (P := P) w size len ⟨M.blk b, off, none⟩ len cap _ hlen fun j x hj => by rw [add_eq]; exact ha j x hj
    rw [h3] at e1
    have e2 : vs = ((d.toList.take c.length).drop off).take (len * size) := by
     simp only [Result.ok.injEq, and_true] at e1
     simpa using congrArg Array.toList e1
    refine run_firstCells_some (P := P) w size k ⟨M.blk b, off, none⟩ len cap _ (by rw [List.length_take]; omega) fun j x hj => ?_
    rw [add_eq]
    rw [List.getElem?_take, e2] at hj
    split at hj
    ·exact ha j x hj
    ·cases hj
   ·cases h
  ·cases h
 ·rename_i b len
  split at h
  ·rename_i c esz hg
   split at h
   ·simp only [Option.some.injEq, Prod.mk.injEq] at h
    obtain ⟨rfl, rfl⟩ := h
    unfold VR at hv; obtain ⟨hb, hle, rfl⟩ := hv
    obtain ⟨d, e, fr, q1, q2, _⟩ := hs.obj b _ hb hg
    have ha := ((at_block q1).take c.length).take (len * size)
    have hlen : ((d.toList.take c.length).take (len * size)).length = len * size := by rw [<- (q2.take (len * size)).length, hl]
    have e1 := run_firstCells_some (P := P) w size len ⟨M.blk b, 0, none⟩ len (M.cap b) _ hlen fun j x hj => by rw [add_eq]; exact ha j x hj
    rw [h3] at e1
    have e2 : vs = (d.toList.take c.length).take (len * size) := by
     simp only [Result.ok.injEq, and_true] at e1
     simpa using congrArg Array.toList e1
    refine run_firstCells_some (P := P) w size k ⟨M.blk b, 0, none⟩ len (M.cap b) _ (by rw [List.length_take]; omega) fun j x hj => ?_
    rw [add_eq]
    rw [List.getElem?_take, e2] at hj
    split at hj
    ·exact ha j x hj
    ·cases hj
   ·cases h
  ·cases h
 ·split at h
  ·rename_i x hsz
   have hsz := nbe hsz
   subst hsz
   simp only [Option.some.injEq, Prod.mk.injEq] at h
   obtain ⟨rfl, rfl⟩ := h
   obtain ⟨rfl, _⟩ := VR_v.1 hv
   have e1 := h3
   simp only [Builtin.firstCells, Sem.run_pure, Result.ok.injEq, and_true] at e1
   rw [extract_map] at e1
   have e2 : vs = x.data.toList.map fun b => Value.int .u8 b.toNat := by
    have := congrArg Array.toList e1
    simp only at this
    rw [<- this, List.take_of_length_le (by simp)]
   simp only [Builtin.firstCells, Sem.run_pure]
   rw [extract_map, e2, Nat.mul_one]
  ·cases h
 ·cases h

theorem s_copy {o : Oper} {a : Act} {T : Tm} {c : Go.Call} {t0 e : TypeId} {y : AV} {b off len n size esz : Nat} {ys ds : List AV} (hs : Sim G B0 w0 w s M) (hT : TmR w s M T a) (hop : o.op = .call c) (hc : c.callee = .builtin .copy) (hA0 : c.argTypes[0]? = some t0) (ht0 : P.underlying t0 = some (.slice e))
  (hargs : opds G T c.args.toList = some [.ms b off len, y]) (hn : sizeT P e = some size) (hh : heldBy s size y = some (ys, n)) (hyl : ys.length = n * size) (hg : s.get b = some (.box ds esz)) (h1 : off + Nat.min n len * size <= ds.length) (h3 : (ys.take (Nat.min n len * size)).all isCell = true) :
  OpOk P G B0 w0 w s M o a (.v (goInt (Nat.min n len))) (s.put b (.box (ds.take off ++ ys.take (Nat.min n len * size) ++ ds.drop (off + Nat.min n len * size)) esz)) := by
 have va := opds_sound hs hT hargs
 rw [<- Array.toList_map] at va
 unfold VRl at va; obtain ⟨v1, t1, e1, k1, va⟩ := va
 unfold VRl at va; obtain ⟨v2, t2, rfl, k2, va⟩ := va
 unfold VRl at va; subst va
 unfold VR at k1; obtain ⟨hb, cap, hle, rfl⟩ := k1
 obtain ⟨vs, hvs, hlen, hf⟩ := heldBy_first (P := P) hs hh k2 hyl
 have hargs' : c.args.map a.eval = #[.slice (some ⟨M.blk b, off, none⟩) len cap, v2] := by apply Array.toList_inj.1; rw [e1]
 have hk : Nat.min n len <= n := Nat.min_le_left _ _
 have htl : (ys.take (Nat.min n len * size)).length = Nat.min n len * size := by rw [List.length_take, hyl]; have := Nat.mul_le_mul_right size hk; omega
 have hf := hf _ hk
 have hvt := hvs.take (Nat.min n len * size)
 obtain ⟨hr, hs', hE⟩ := write_box (P := P) hs hb hg hvt (by rw [htl]; exact h1) h3
 rw [htl] at hs' hE
 refine ok_value (v := goInt (Nat.min n len)) ?_ (VR_v_of rfl) hs' hE
 have key : (Builtin.copy_ c.argTypes o.type (c.args.map a.eval)).run P w = .ok (goInt (Nat.min n len)) (w.setCells (M.blk b) off (vs.take (Nat.min n len * size))) := by
  rw [hargs']
  simp [Builtin.copy_, hA0, run_underlying ht0, hlen, run_sizeOf hn, hf, hr]
 simp [execOp, hop, resolve, hc, invoke, builtin, key]

theorem fold_set (off : Nat) : ∀ (vs : List Value) (k : Nat) (cells : Array Value), off + k + vs.length <= cells.size ->
  ((vs.zipIdx k).foldl (fun cs (x : Value × Nat) => cs.setIfInBounds (off + x.2) x.1) cells).toList = cells.toList.take (off + k) ++ vs ++ cells.toList.drop (off + k + vs.length)
 | [], k, cells, h => by simp
 | v :: r, k, cells, h => by
  simp only [List.length_cons] at h
  rw [List.zipIdx_cons, List.foldl_cons, fold_set off r (k + 1) _ (by simp; omega)]
  rw [Array.toList_setIfInBounds]
  have hlen : off + k < cells.toList.length := by simp; omega
  rw [List.set_eq_take_append_cons_drop, if_pos hlen]
  have e1 : (cells.toList.take (off + k) ++ v :: cells.toList.drop (off + k + 1)).take (off + (k + 1)) = cells.toList.take (off + k) ++ [v] := by
   rw [List.take_append, List.take_of_length_le (by simp; omega)]
   congr 1
   simp only [List.length_take]
   rw [show off + (k + 1) - min (off + k) cells.toList.length = 1 by omega]; rfl
  have e2 : (cells.toList.take (off + k) ++ v :: cells.toList.drop (off + k + 1)).drop (off + (k + 1) + r.length) = cells.toList.drop (off + k + (v :: r).length) := by
   rw [List.drop_append, List.drop_eq_nil_of_le (by simp; omega), List.nil_append]
   simp only [List.length_take, List.length_cons]
   rw [show off + (k + 1) + r.length - min (off + k) cells.toList.length = r.length + 1 by omega, List.drop_succ_cons, List.drop_drop]
   congr 1
   omega
  rw [e1, e2]
  simp
def PR (w : World) (s : St) (M : Mp) : List (Nat × AV) -> List (Nat × Value) -> Prop
 | [], ps => ps = []
 | (i, x) :: r, ps => ∃ v t, ps = (i, v) :: t /\ VR w s M x v /\ PR w s M r t
theorem fill_sound {place : Nat -> Option (Nat × Nat)} : ∀ {ps : List (Nat × AV)} {pv : List (Nat × Value)} {z cs : List AV} {zv : Array Value}, fillA place z ps = some cs -> PR w s M ps pv -> VRl w s M z zv.toList ->
  ∃ cv, Instr.fill place zv pv = some cv /\ VRl w s M cs cv.toList
 | [], pv, z, cs, zv, h, hp, hz => by
  simp only [fillA, Option.some.injEq] at h; subst h
  simp only [PR] at hp; subst hp
  exact ⟨zv, rfl, hz⟩
 | (i, x) :: r, pv, z, cs, zv, h, hp, hz => by
  obtain ⟨v, t, rfl, k1, k2⟩ := hp
  simp only [fillA] at h
  cases hpl : place i with
  | none => rw [hpl] at h; cases h
  | some q =>
   obtain ⟨off, size⟩ := q
   rw [hpl] at h
   simp only at h
   split at h
   ·rename_i hc
    rw [Bool.and_eq_true, Bool.and_eq_true] at hc
    have h1 := nbe hc.1.1
    have h2 := Nat.le_of_ble_eq_true hc.1.2
    have hcv := VR_cellsOf hc.2 k1
    have hvs : v.cells.size = size := by have := hcv.length; rw [h1] at this; simp at this; exact this.symm
    have hzl := hz.length
    simp only [Array.length_toList] at hzl
    have hfs := fold_set off v.cells.toList 0 zv (by simp; omega)
    have hfs' : (v.cells.zipIdx.foldl (fun cs (x : Value × Nat) => cs.setIfInBounds (off + x.2) x.1) zv).toList = zv.toList.take off ++ v.cells.toList ++ zv.toList.drop (off + size) := by
     rw [<- Array.foldl_toList, Array.toList_zipIdx, hfs]
     simp [hvs]
    have hz' : VRl w s M (z.take off ++ cellsOf x ++ z.drop (off + size)) (v.cells.zipIdx.foldl (fun cs (x : Value × Nat) => cs.setIfInBounds (off + x.2) x.1) zv).toList := by
     rw [hfs']; exact ((hz.take off).append hcv).append (hz.drop (off + size))
    obtain ⟨cv, g1, g2⟩ := fill_sound h k2 hz'
    refine ⟨cv, ?_, g2⟩
    simp only [Instr.fill, hpl]
    rw [if_neg (by simp [hvs]; omega)]
    exact g1
   ·cases h
theorem parts_sound (hs : Sim G B0 w0 w s M) {T : Tm} {a : Act} (hT : TmR w s M T a) : ∀ {ps : List (Nat × Operand)} {qs : List (Nat × AV)}, parts G T ps = some qs -> PR w s M qs (ps.map fun (i, x) => (i, a.eval x))
 | [], qs, h => by simp only [parts, Option.some.injEq] at h; subst h; rfl
 | (i, x) :: r, qs, h => by
  simp only [parts, Option.bind_eq_bind, Option.bind_eq_some_iff, Option.pure_def, Option.some.injEq] at h
  obtain ⟨c, h1, d, h2, rfl⟩ := h
  exact ⟨_, _, rfl, opd_sound hs hT h1, parts_sound hs hT h2⟩
theorem run_places : ∀ {fs : List Field} {pl : List (Nat × Nat)}, places P fs = some pl -> (fs.mapM fun f => do pure (f.offset, <- sizeOf f.type) : Sem (List (Nat × Nat))).run P w = .ok pl w
 | [], pl, h => by simp only [places, Option.some.injEq] at h; subst h; rfl
 | f :: r, pl, h => by
  simp only [places, Option.bind_eq_bind, Option.bind_eq_some_iff, Option.pure_def, Option.some.injEq] at h
  obtain ⟨n, h1, q, h2, rfl⟩ := h
  rw [List.mapM_cons]
  have ih := run_places h2
  simp only [Sem.run_bind, run_sizeOf h1, Result.andThen_ok, Sem.run_pure, ih]
theorem s_build_struct {o : Oper} {a : Act} {T : Tm} {t : TypeId} {ps : Array (Nat × Operand)} {z cs : List AV} {qs : List (Nat × AV)} {fs : Array Field} {pl : List (Nat × Nat)} (hs : Sim G B0 w0 w s M) (hT : TmR w s M T a) (hop : o.op = .build t ps) (hz : zeroCellsT P t = some z) (hps : parts G T ps.toList = some qs)
  (hu : P.underlying t = some (.struct fs)) (hpl : places P fs.toList = some pl) (hf : fillA (pl[·]?) z qs = some cs) : OpOk P G B0 w0 w s M o a (.agg cs) s := by
 obtain ⟨zv, hz1, hz2⟩ := zeroCells_some hz
 obtain ⟨cv, g1, g2⟩ := fill_sound (zv := zv.cells) hf (parts_sound hs hT hps) (VRl_scAll hz2)
 refine ok_here hs (v := .agg cv) ?_ (by unfold VR; exact ⟨cv, rfl, g2⟩)
 have hm : (fs.mapM fun f => do pure (f.offset, <- sizeOf f.type) : Sem (Array (Nat × Nat))).run P w = .ok pl.toArray w := by
  rw [Array.mapM_eq_mapM_toList, Sem.run_map, run_places hpl]; rfl
 have g1' : Instr.fill (fun i => pl.toArray[i]?) zv.cells (ps.toList.map fun (i, x) => (i, a.eval x)) = some cv := by
  rw [<- g1]; congr 1; funext i; simp
 have hrun : (Instr.build t (ps.map fun (i, x) => (i, a.eval x))).run P w = .ok (.agg cv) w := by
  simp only [Instr.build, Sem.run_bind, run_zeroValue hz1, Result.andThen_ok, run_underlying hu, hm, Array.toList_map, g1', Sem.run_pure]
 simp only [execOp, hop, Sem.run_bind]
 exact (congrArg (fun r => Result.andThen r _) hrun).trans rfl
theorem s_build_array {o : Oper} {a : Act} {T : Tm} {t e : TypeId} {n size : Nat} {ps : Array (Nat × Operand)} {z cs : List AV} {qs : List (Nat × AV)} (hs : Sim G B0 w0 w s M) (hT : TmR w s M T a) (hop : o.op = .build t ps) (hz : zeroCellsT P t = some z) (hps : parts G T ps.toList = some qs)
  (hu : P.underlying t = some (.array n e)) (hsz : sizeT P e = some size) (hf : fillA (fun i => some (i * size, size)) z qs = some cs) : OpOk P G B0 w0 w s M o a (.agg cs) s := by
 obtain ⟨zv, hz1, hz2⟩ := zeroCells_some hz
 obtain ⟨cv, g1, g2⟩ := fill_sound (zv := zv.cells) hf (parts_sound hs hT hps) (VRl_scAll hz2)
 refine ok_here hs (v := .agg cv) ?_ (by unfold VR; exact ⟨cv, rfl, g2⟩)
 have hrun : (Instr.build t (ps.map fun (i, x) => (i, a.eval x))).run P w = .ok (.agg cv) w := by
  simp only [Instr.build, Sem.run_bind, run_zeroValue hz1, Result.andThen_ok, run_underlying hu, run_sizeOf hsz, Array.toList_map, g1, Sem.run_pure]
 simp only [execOp, hop, Sem.run_bind]
 exact (congrArg (fun r => Result.andThen r _) hrun).trans rfl
theorem s_buildSlice {o : Oper} {a : Act} {T : Tm} {t e : TypeId} {len size : Nat} {ps : Array (Nat × Operand)} {z cs : List AV} {qs : List (Nat × AV)} (hs : Sim G B0 w0 w s M) (hT : TmR w s M T a) (hop : o.op = .buildSlice t len ps) (hu : P.underlying t = some (.slice e)) (hsz : sizeT P e = some size)
  (hz : zeroCellsT P e = some z) (hps : parts G T ps.toList = some qs) (hzl : z.length = size) (hm : len * size <= 2 ^ 24) (hf : fillA (fun i => some (i * size, size)) (rep z len) qs = some cs) (hc : cs.all isCell = true) :
  OpOk P G B0 w0 w s M o a (.sl cs len none) s := by
 obtain ⟨zv, hz1, hz2⟩ := zeroCells_some hz
 have hzs : zv.cells.size = size := by have := (VRl_scAll (w := w) (s := s) (M := M) hz2).length; rw [hzl] at this; simp at this; exact this.symm
 obtain ⟨cv, g1, g2⟩ := fill_sound (w := w) (s := s) (M := M) (zv := ((List.replicate len zv.cells.toList).flatten).toArray) hf (parts_sound hs hT hps) (VRl_rep (VRl_scAll hz2) len)
 have flen : ∀ {place : Nat -> Option (Nat × Nat)} {ps : List (Nat × AV)} {z cs : List AV}, fillA place z ps = some cs -> cs.length = z.length := by
  intro place ps
  induction ps with
  | nil => intro z cs h; simp only [fillA, Option.some.injEq] at h; rw [h]
  | cons p r ih =>
   intro z cs h
   obtain ⟨i, x⟩ := p
   simp only [fillA] at h
   split at h
   ·cases h
   ·split at h
    ·rename_i hcc
     rw [Bool.and_eq_true, Bool.and_eq_true] at hcc
     have h1 := nbe hcc.1.1
     have h2 := Nat.le_of_ble_eq_true hcc.1.2
     rw [ih h]
     simp only [List.length_append, List.length_take, List.length_drop, h1]
     omega
    ·cases h
 have hcl : cs.length = len * size := by rw [flen hf, length_rep, hzl]
 have hcv : cv.size = len * size := by have := g2.length; rw [hcl] at this; simp at this; exact this.symm
 obtain ⟨hs', hE⟩ := sim_frame hs (w' := w.alloc (.cells cv e)) ((Below.refl _ _).alloc (Nat.le_refl _) _)
 have hzc : (Array.range (len * size)).map (fun i => zv.cells[i % zv.cells.size]!) = ((List.replicate len zv.cells.toList).flatten).toArray := by rw [<- hzs]; exact cyc_eq _ _
 have hrun : (Instr.buildSlice t len (ps.map fun (i, x) => (i, a.eval x))).run P w = .ok (.slice (some ⟨w.heap.size, 0, none⟩) len len) (w.alloc (.cells cv e)) := by
  have hm' : ¬ (16777216 < len * size) := by omega
  by_cases h0 : len * size = 0
  ·have hemp : ((List.replicate len zv.cells.toList).flatten).toArray = (#[] : Array Value) := by
    apply Array.eq_empty_of_size_eq_zero
    simp [hzs, h0]
   rw [hemp] at g1
   have g1' : Instr.fill (fun i => some (i * size, size)) ((Array.range 0).map fun (_ : Nat) => (default : Value)) (ps.toList.map fun x => (x.fst, a.eval x.snd)) = some cv := by
    have e0 : ((Array.range 0).map fun (_ : Nat) => (default : Value)) = #[] := by simp [Array.range_zero']
    rw [e0]; exact g1
   simp only [Instr.buildSlice, Sem.run_bind, run_underlying hu, Result.andThen_ok, run_sizeOf hsz, h0, Array.toList_map, Sem.run_ite, Sem.run_pure]
   simp only [Nat.not_lt_zero, if_false, if_true, Nat.reducePow, gt_iff_lt]
   simp [g1', newRow]
  ·simp only [Instr.buildSlice, Sem.run_bind, run_underlying hu, Result.andThen_ok, run_sizeOf hsz, Array.toList_map, Sem.run_ite, Sem.run_pure]
   simp only [h0, if_false, run_zeroValue hz1, Result.andThen_ok, Nat.reducePow, gt_iff_lt, hm', hzc, g1]
   simp [newRow]
 refine ok_value (v := .slice (some ⟨w.heap.size, 0, none⟩) len len) ?_ ?_ hs' hE
 ·simp only [execOp, hop, Sem.run_bind]
  exact (congrArg (fun r => Result.andThen r _) hrun).trans rfl
 ·unfold VR
  refine ⟨w.heap.size, 0, len, rfl, Nat.le_refl _, ?_, fun t' ht' => by cases ht'⟩
  refine VRs.of_get fun i c hi => ?_
  rcases g2.get i with ⟨h1, _⟩ | ⟨c', v, h1, h2, h3⟩
  ·rw [h1] at hi; cases hi
  ·rw [h1] at hi; cases hi
   refine ⟨v, ?_, h3.ext hE, (List.all_eq_true.1 hc) c (List.mem_of_getElem? h1), fun j o' hj hg hbk => ?_, out_new hs (Nat.le_refl _)⟩
   ·simp only [Nat.zero_add]
    rw [show (w.alloc (.cells cv e)).cell? ⟨w.heap.size, i, none⟩ = cv[i]? by simp only [World.cell?, heap_new]; rfl]
    simpa using h2
   ·have := (hs.blk j hj).2
    omega
theorem s_buildSliceRow {o : Oper} {a : Act} {T : Tm} {t e : TypeId} {len size : Nat} {ps : Array (Nat × Operand)} {z cs : List AV} {qs : List (Nat × AV)} (hs : Sim G B0 w0 w s M) (hT : TmR w s M T a) (hop : o.op = .buildSlice t len ps) (hu : P.underlying t = some (.slice e)) (hsz : sizeT P e = some size)
  (hz : zeroCellsT P e = some z) (hps : parts G T ps.toList = some qs) (hzl : z.length = size) (hm : len * size <= 2 ^ 24) (hr : s.room = true) (hf : fillA (fun i => some (i * size, size)) (rep z len) qs = some cs) (hc : cs.all isCell = true) :
  OpOk P G B0 w0 w s M o a (.sl cs len (some s.n)) (s.new (.row (.c (len * size)) size)) := by
 obtain ⟨zv, hz1, hz2⟩ := zeroCells_some hz
 have hzs : zv.cells.size = size := by have := (VRl_scAll (w := w) (s := s) (M := M) hz2).length; rw [hzl] at this; simp at this; exact this.symm
 obtain ⟨cv, g1, g2⟩ := fill_sound (w := w) (s := s) (M := M) (zv := ((List.replicate len zv.cells.toList).flatten).toArray) hf (parts_sound hs hT hps) (VRl_rep (VRl_scAll hz2) len)
 have flen : ∀ {place : Nat -> Option (Nat × Nat)} {ps : List (Nat × AV)} {z cs : List AV}, fillA place z ps = some cs -> cs.length = z.length := by
  intro place ps
  induction ps with
  | nil => intro z cs h; simp only [fillA, Option.some.injEq] at h; rw [h]
  | cons p r ih =>
   intro z cs h
   obtain ⟨i, x⟩ := p
   simp only [fillA] at h
   split at h
   ·cases h
   ·split at h
    ·rename_i hcc
     rw [Bool.and_eq_true, Bool.and_eq_true] at hcc
     have h1 := nbe hcc.1.1
     have h2 := Nat.le_of_ble_eq_true hcc.1.2
     rw [ih h]
     simp only [List.length_append, List.length_take, List.length_drop, h1]
     omega
    ·cases h
 have hcl : cs.length = len * size := by rw [flen hf, length_rep, hzl]
 have hcv : cv.size = len * size := by have := g2.length; rw [hcl] at this; simp at this; exact this.symm
 obtain ⟨hs', hE⟩ := new_row hs hr (vs := cv) e (0, 0) (.c (len * size)) size len hcv (show len * size <= _ by omega) (.inl rfl)
 have hzc : (Array.range (len * size)).map (fun i => zv.cells[i % zv.cells.size]!) = ((List.replicate len zv.cells.toList).flatten).toArray := by rw [<- hzs]; exact cyc_eq _ _
 have hrun : (Instr.buildSlice t len (ps.map fun (i, x) => (i, a.eval x))).run P w = .ok (.slice (some ⟨w.heap.size, 0, none⟩) len len) (w.alloc (.cells cv e)) := by
  have hm' : ¬ (16777216 < len * size) := by omega
  by_cases h0 : len * size = 0
  ·have hemp : ((List.replicate len zv.cells.toList).flatten).toArray = (#[] : Array Value) := by
    apply Array.eq_empty_of_size_eq_zero
    simp [hzs, h0]
   rw [hemp] at g1
   have g1' : Instr.fill (fun i => some (i * size, size)) ((Array.range 0).map fun (_ : Nat) => (default : Value)) (ps.toList.map fun x => (x.fst, a.eval x.snd)) = some cv := by
    have e0 : ((Array.range 0).map fun (_ : Nat) => (default : Value)) = #[] := by simp [Array.range_zero']
    rw [e0]; exact g1
   simp only [Instr.buildSlice, Sem.run_bind, run_underlying hu, Result.andThen_ok, run_sizeOf hsz, h0, Array.toList_map, Sem.run_ite, Sem.run_pure]
   simp only [Nat.not_lt_zero, if_false, if_true, Nat.reducePow, gt_iff_lt]
   simp [g1', newRow]
  ·simp only [Instr.buildSlice, Sem.run_bind, run_underlying hu, Result.andThen_ok, run_sizeOf hsz, Array.toList_map, Sem.run_ite, Sem.run_pure]
   simp only [h0, if_false, run_zeroValue hz1, Result.andThen_ok, Nat.reducePow, gt_iff_lt, hm', hzc, g1]
   simp [newRow]
 refine ok_value (v := .slice (some ⟨w.heap.size, 0, none⟩) len len) ?_ ?_ hs' hE
 ·simp only [execOp, hop, Sem.run_bind]
  exact (congrArg (fun r => Result.andThen r _) hrun).trans rfl
 ·have hgn : (s.new (.row (.c (len * size)) size)).get s.n = some (.row (.c (len * size)) size) := by rw [St.get_new _ _ _ (room_lt hr)]; exact if_pos rfl
  have hbn : (M.add s.n w.heap.size len).blk s.n = w.heap.size := by simp [Mp.add]
  have hlt : s.n < (s.new (.row (.c (len * size)) size)).n := by simp [St.new]
  unfold VR
  refine ⟨w.heap.size, 0, len, rfl, Nat.le_refl _, ?_, fun t' ht' => ?_⟩
  ·have := VRs_row hs' hlt hgn (c := cv) (e := e) (fr := (0, 0)) (by rw [hbn]; exact heap_new w _) (cs := cs) (by rw [List.take_of_length_le (by simp; omega)]; exact g2.ext hE) (by show _ <= len * size; omega) hc
   rw [hbn] at this; exact this
  ·cases ht'
   exact ⟨hlt, fun tip e' _ => by simp [Mp.add]⟩
end
end Go.Ab
/- The evaluator's operations against the model's: pointers held against themselves, unsafe pointers and texts (strings.Builder), methods behind interfaces. -/
namespace Go.Ab
open Go Go.RowKit

section
variable [Interp] {P : Program} {G : Nat -> Option (List AV)} {B0 : Nat} {w0 w : World} {s : St} {M : Mp}

theorem s_ptrEq {o : Oper} {a : Act} {T : Tm} {op : BinOp} {t yt : TypeId} {x y : Operand} {c d : AV} {r : Bool} (hs : Sim G B0 w0 w s M) (hT : TmR w s M T a) (hop : o.op = .binOp op t x y yt) (hx : opd G T x = some c) (hy : opd G T y = some d)
  (hr : ptrEq P t c d = some r) (ho : op = .eql \/ op = .neq) : OpOk P G B0 w0 w s M o a (.v (.bool (if op = .eql then r else !r))) s := by
 have h1 := opd_sound hs hT hx
 have h2 := opd_sound hs hT hy
 unfold ptrEq at hr
 split at hr
 ·rename_i e i p j q hu
  split at hr
  ·rename_i hc
   simp only [Bool.and_eq_true] at hc
   obtain ⟨⟨e1, e2⟩, e3⟩ := hc
   have e1 := nbe e1; have e2 := nbe e2
   subst e1; subst e2
   cases hr
   obtain ⟨inf, hi⟩ := Option.isSome_iff_exists.1 e3
   unfold VR at h1 h2
   obtain ⟨_, h1⟩ := h1; obtain ⟨_, h2⟩ := h2
   have heq : (Op.equal t (.pointer (some ⟨M.blk i, p, none⟩)) (.pointer (some ⟨M.blk i, p, none⟩))).run P w = .ok true w := by
    have h : ∀ d : Nat, (Op.equalIn (d + 1) t (.pointer (some ⟨M.blk i, p, none⟩)) (.pointer (some ⟨M.blk i, p, none⟩))).run P w = .ok true w := fun d => by
     simp [Op.equalIn, run_underlying hu, sizeOf, typeInfo, hi, run_sameAddr_same]
    simp [Op.equal, Op.maxDepth, h 9999]
   refine ok_here hs (v := .bool (if op = .eql then true else !true)) ?_ (VR_v_of rfl)
   have k2 : (eqGuard op t x y (a.eval x) (a.eval y)).run P w = .ok () w := by rw [h1, h2]; rcases ho with rfl | rfl <;> rfl
   have k3 : binOp .eql t (a.eval x) (a.eval y) = (do pure (.bool (<- Op.equal t (a.eval x) (a.eval y)))) := by rw [h1, h2]; rfl
   have k4 : binOp .neq t (a.eval x) (a.eval y) = (do pure (.bool (!(<- Op.equal t (a.eval x) (a.eval y))))) := by rw [h1, h2]; rfl
   have heq : (Op.equal t (a.eval x) (a.eval y)).run P w = .ok true w := by rw [h1, h2]; exact heq
   rcases ho with rfl | rfl
   ·simp only [execOp, hop, Sem.run_bind, k2, Result.andThen_ok, k3, heq, Sem.run_pure, if_true]
   ·simp only [execOp, hop, Sem.run_bind, k2, Result.andThen_ok, k4, heq, Sem.run_pure]
    rfl
  ·cases hr
 ·cases hr
theorem s_eqRef {o : Oper} {a : Act} {T : Tm} {op : BinOp} {t yt : TypeId} {x y : Operand} {c d : AV} {r : Bool} (hs : Sim G B0 w0 w s M) (hT : TmR w s M T a) (hop : o.op = .binOp op t x y yt) (hx : opd G T x = some c) (hy : opd G T y = some d)
  (hr : eqRef P t c d = some r) (ho : op = .eql \/ op = .neq) : OpOk P G B0 w0 w s M o a (.v (.bool (if op = .eql then r else !r))) s := by
 unfold eqRef at hr
 split at hr
 ·rename_i r' h
  cases hr; exact s_eqNil hs hT hop hx hy h ho
 ·exact s_ptrEq hs hT hop hx hy hr ho

theorem cmpV_run {op : BinOp} {x y : Value} {b : Bool} (t : TypeId) (h : cmpV op x y = some b) (w : World) : (binOp op t x y).run P w = .ok (.bool b) w := by
 unfold cmpV at h
 split at h
 ·rename_i k a k' c
  split at h
  ·rename_i hk
   subst hk
   split at h <;> first | (cases h; done) | (cases h; simp [binOp, Op.intCmp])
  ·cases h
 ·rename_i a c
  split at h <;> first | (cases h; done) | (cases h; simp [binOp, Op.stringOp])
 ·cases h
theorem cmpV_guard {op : BinOp} {x y : Value} {b : Bool} (t : TypeId) (ox oy : Operand) (h : cmpV op x y = some b) (w : World) : (eqGuard op t ox oy x y).run P w = .ok () w := by
 unfold cmpV at h
 split at h
 ·unfold eqGuard; split <;> rfl
 ·unfold eqGuard; split <;> rfl
 ·cases h
theorem keyIs_eq {l m : Value} (h : keyIs l m = true) : m = l := by
 unfold keyIs at h
 split at h
 ·rename_i hk; exact sameKey_eq hk
 ·cases h
theorem symLook_some {op : BinOp} {l x : Value} {r : Bool} : ∀ {bits : List (BinOp × Value × Bool)}, symLook op l bits = some r -> (∀ e ∈ bits, cmpV e.1 x e.2.1 = some e.2.2) -> cmpV op x l = some r
 | [], h, _ => by cases h
 | (o, m, b) :: rest, h, hb => by
  unfold symLook at h
  split at h
  ·rename_i hc
   rw [Bool.and_eq_true] at hc
   have h1 : o = op := by simpa using hc.1
   have h2 := keyIs_eq hc.2
   have h3 := hb (o, m, b) (by simp)
   simp only at h3
   rw [h2, h1] at h3
   rw [h3]; exact h
  ·exact symLook_some h fun e he => hb e (List.mem_cons_of_mem _ he)
theorem cmpV_comm {x y : Value} {b : Bool} (h : cmpV .eql x y = some b) : cmpV .eql y x = some b := by
 unfold cmpV at h
 split at h
 ·rename_i k a k' c
  split at h
  ·rename_i hk
   subst hk
   unfold cmpV
   simp only [if_true] at h ⊢
   rw [<- h]
   congr 1
   rw [Bool.eq_iff_iff, beq_iff_eq, beq_iff_eq]; exact ⟨Eq.symm, Eq.symm⟩
  ·cases h
 ·rename_i a c
  unfold cmpV
  simp only at h ⊢
  rw [<- h]
  congr 1
  rw [Bool.eq_iff_iff, beq_iff_eq, beq_iff_eq]; exact ⟨Eq.symm, Eq.symm⟩
 ·cases h
theorem s_symCmp {o : Oper} {a : Act} {T : Tm} {op : BinOp} {t yt : TypeId} {x y : Operand} {c d : AV} {r : Bool} (hs : Sim G B0 w0 w s M) (hT : TmR w s M T a) (hop : o.op = .binOp op t x y yt) (hx : opd G T x = some c) (hy : opd G T y = some d)
  (hr : symCmp op c d = some r) : OpOk P G B0 w0 w s M o a (.v (.bool r)) s := by
 have h1 := opd_sound hs hT hx
 have h2 := opd_sound hs hT hy
 have key : cmpV op (a.eval x) (a.eval y) = some r := by
  unfold symCmp at hr
  split at hr
  ·rename_i xv bits l
   unfold VR at h1
   obtain ⟨e1, _, _, hb⟩ := h1
   rw [e1, (VR_v.1 h2).1]
   exact symLook_some hr hb
  ·rename_i l xv bits
   unfold VR at h2
   obtain ⟨e1, _, _, hb⟩ := h2
   rw [e1, (VR_v.1 h1).1]
   split at hr
   ·rename_i ho
    subst ho
    exact cmpV_comm (symLook_some hr hb)
   ·cases hr
  ·cases hr
 refine ok_here hs (v := .bool r) ?_ (VR_v_of rfl)
 simp only [execOp, hop, Sem.run_bind, cmpV_guard t x y key w, Result.andThen_ok, cmpV_run t key w, Sem.run_pure]

theorem s_toUnsafe {o : Oper} {a : Act} {T : Tm} {src dst e : TypeId} {x : Operand} {c r : AV} {s' : St} (hs : Sim G B0 w0 w s M) (hT : TmR w s M T a) (hop : o.op = .convert src dst x) (hu : P.underlying src = some (.pointer e)) (hd : P.underlying dst = some .unsafePointer)
  (hx : opd G T x = some c) (h : toUnsafe P e s c = some (r, s')) : OpOk P G B0 w0 w s M o a r s' := by
 have hv := opd_sound hs hT hx
 unfold toUnsafe at h
 split at h
 ·rename_i i off
  split at h
  ·rename_i cs k n hg hn
   split at h
   ·rename_i hc
    simp only [Bool.and_eq_true, Bool.not_eq_true'] at hc
    cases h
    have hv' := hv
    unfold VR at hv
    obtain ⟨hi, ev⟩ := hv
    obtain ⟨vs, el, fr, h1, h2, _⟩ := hs.obj i _ hi hg
    unfold sizeT at hn
    obtain ⟨inf, hinf, rfl⟩ := Option.map_eq_some_iff.1 hn
    have hl := h2.length
    have hle := Nat.le_of_ble_eq_true hc.1
    refine ok_here hs (v := a.eval x) ?_ hv'
    have := Lib.run_to_unsafe (P := P) (src := src) (dst := dst) w ⟨M.blk i, off, none⟩ hu hd hinf (fun e0 => by rw [e0] at hc; cases hc.2) (e := el) (cells := vs.size) (by unfold World.shape?; rw [h1]) (by simp only; simp at hl; omega)
    rw [ev]
    simp [execOp, hop, ev, this]
   ·cases h
  ·cases h
 ·cases h
theorem s_fromUnsafe {o : Oper} {a : Act} {T : Tm} {src dst e : TypeId} {x : Operand} {c r : AV} {s' : St} (hs : Sim G B0 w0 w s M) (hT : TmR w s M T a) (hop : o.op = .convert src dst x) (hu : P.underlying src = some .unsafePointer) (hd : P.underlying dst = some (.pointer e))
  (hx : opd G T x = some c) (h : fromUnsafe P e s c = some (r, s')) : OpOk P G B0 w0 w s M o a r s' := by
 have hv := opd_sound hs hT hx
 unfold fromUnsafe at h
 split at h
 ·rename_i i off
  split at h
  ·rename_i cs k hg
   split at h
   ·rename_i hc
    simp only [Bool.and_eq_true] at hc
    obtain ⟨⟨⟨c1, c2⟩, c3⟩, c4⟩ := hc
    cases h
    have hv' := hv
    unfold VR at hv
    obtain ⟨hi, ev⟩ := hv
    obtain ⟨vs, el, fr, h1, h2, _, _, h5⟩ := hs.obj i _ hi hg
    obtain ⟨inf, hinf⟩ := Option.isSome_iff_exists.1 c3
    obtain ⟨rfl, hsz⟩ := h5.2 (Nat.le_of_ble_eq_true c1)
    have hsz := hsz (nbe c2)
    refine ok_here hs (v := a.eval x) ?_ hv'
    have := Lib.run_from_unsafe (P := P) (src := src) (dst := dst) w ⟨M.blk i, off, none⟩ hu hd hinf (e := k / tyBase - 1) (cells := vs.size) (by unfold World.shape?; rw [h1]) (by rw [hsz]; exact c4)
    rw [ev]
    simp [execOp, hop, ev, this]
   ·cases h
  ·cases h
 ·cases h

theorem s_sliceData {o : Oper} {a : Act} {T : Tm} {c : Go.Call} {x r : AV} (hs : Sim G B0 w0 w s M) (hT : TmR w s M T a) (hop : o.op = .call c) (hc : c.callee = .builtin .unsafeSliceData) (ha : opds G T c.args.toList = some [x]) (h : sliceData x = some r) :
  OpOk P G B0 w0 w s M o a r s := by
 have hv := opds_sound hs hT ha
 unfold VRl at hv
 obtain ⟨v, t, e, hv, ht⟩ := hv
 unfold VRl at ht
 subst ht
 have eargs : c.args.map a.eval = #[v] := by apply Array.toList_inj.1; rw [Array.toList_map, e]
 unfold sliceData at h
 split at h
 ·rename_i b len
  split at h
  ·rename_i hl
   cases h
   unfold VR at hv
   obtain ⟨hb, hcap, rfl⟩ := hv
   have hl := Nat.le_of_ble_eq_true hl
   refine ok_here hs (v := .pointer (some ⟨M.blk b, 0, none⟩)) ?_ (by unfold VR; exact ⟨hb, rfl⟩)
   have := Lib.run_unsafeSliceData_row (P := P) w c.argTypes o.type ⟨M.blk b, 0, none⟩ len (M.cap b) (by omega)
   simp [execOp, hop, resolve, hc, invoke, builtin, eargs, this]
  ·cases h
 ·cases h
  obtain ⟨rfl, _⟩ := VR_v.1 hv
  refine ok_here hs (v := .pointer none) ?_ (VR_v_of rfl)
  have := Lib.run_unsafeSliceData_nil (P := P) w c.argTypes o.type
  simp [execOp, hop, resolve, hc, invoke, builtin, eargs, this]
 ·cases h

theorem bytesEx_cells : ∀ {l : List AV} {vs : List Value} {bs : List UInt8}, bytesEx l = some bs -> VRl w s M l vs -> vs = Lib.byteCells bs /\ bs.length = l.length
 | [], vs, bs, h, hv => by
  simp only [bytesEx, Option.some.injEq] at h
  unfold VRl at hv
  subst h; subst hv
  exact ⟨rfl, rfl⟩
 | c :: r, vs, bs, h, hv => by
  unfold VRl at hv
  obtain ⟨v, u, rfl, h1, h2⟩ := hv
  unfold bytesEx at h
  split at h
  ·rename_i e; cases e
  ·rename_i m r' e
   cases e
   split at h
   ·rename_i hm
    split at h
    ·rename_i l hl
     cases h
     obtain ⟨rfl, _⟩ := VR_v.1 h1
     obtain ⟨rfl, k⟩ := bytesEx_cells hl h2
     have hm := Nat.le_of_ble_eq_true hm
     refine ⟨?_, by simp [k]⟩
     simp only [Lib.byteCells, List.map_cons, List.cons.injEq, and_true, Value.int.injEq, true_and]
     rw [UInt8.toNat_ofNat_of_lt' (by simp [UInt8.size]; omega)]
     rfl
    ·cases h
   ·cases h
  ·cases h

theorem s_unsafeStr {o : Oper} {a : Act} {T : Tm} {c : Go.Call} {pt : TypeId} {x r : AV} {n : Nat} {s' : St} (hs : Sim G B0 w0 w s M) (hT : TmR w s M T a) (hop : o.op = .call c) (hc : c.callee = .builtin .unsafeString) {it : TypeId} (hA : c.argTypes.toList = [pt, it])
  (ha : opds G T c.args.toList = some [x, .v (.int .i64 (.ofNat n))]) (h : unsafeStr P pt s x n = some (r, s')) : OpOk P G B0 w0 w s M o a r s' := by
 have hv := opds_sound hs hT ha
 unfold VRl at hv
 obtain ⟨v, t, e, hv, ht⟩ := hv
 unfold VRl at ht
 obtain ⟨v2, t2, rfl, hv2, ht2⟩ := ht
 unfold VRl at ht2
 subst ht2
 have eargs : c.args.map a.eval = #[v, v2] := by apply Array.toList_inj.1; rw [Array.toList_map, e]
 have eA : c.argTypes = #[pt, it] := by apply Array.toList_inj.1; rw [hA]
 obtain ⟨rfl, _⟩ := VR_v.1 hv2
 unfold unsafeStr at h
 split at h
 ·split at h
  ·rename_i hz
   have hz := nbe hz
   subst hz
   cases h
   obtain ⟨rfl, _⟩ := VR_v.1 hv
   refine ok_here hs (v := .string .empty) ?_ (VR_v_of rfl)
   have := Lib.run_unsafeString_none (P := P) w pt it o.type none
   simp [execOp, hop, resolve, hc, invoke, builtin, eargs, eA, this]
  ·cases h
 ·rename_i b
  split at h
  ·rename_i cs kk ee hrow hu
   split at h
   ·rename_i hcond
    simp only [Bool.and_eq_true] at hcond
    obtain ⟨⟨⟨⟨⟨c1, c2⟩, c3⟩, c4⟩, c5⟩, c6⟩ := hcond
    have c1 := Nat.le_of_ble_eq_true c1; have c2 := Nat.le_of_ble_eq_true c2; have c3 := Nat.le_of_ble_eq_true c3
    have c4 := nbe c4; have c5 := nbe c5; have c6 := nbe c6
    split at h
    ·rename_i l hl
     cases h
     unfold VR at hv
     obtain ⟨hb, rfl⟩ := hv
     -- the row
     obtain ⟨ob, hg, hlive, hrw, vs, el, fr, h1, h2, h3, h5⟩ : ∃ ob, s.get b = some ob /\ ob.live /\ (∀ tip e, ob ≠ .row tip e) /\ ∃ vs el fr, w.heap[M.blk b]? = some (.cells vs el fr) /\ VRl w s M cs (vs.toList.take cs.length) /\ cs.all isCell = true /\ BoxK kk cs.length vs.size (M.cap b) el := by
      unfold rowOf at hrow
      split at hrow
      ·rename_i cs' k' hg
       cases hrow
       obtain ⟨vs, el, fr, h1, h2, h3, _, h5⟩ := hs.obj b _ hb hg
       exact ⟨_, hg, trivial, fun _ _ => by simp, vs, el, fr, h1, h2, h3, h5⟩
      ·rename_i cs' k' hg
       cases hrow
       obtain ⟨vs, el, fr, h1, h2, h3, h5⟩ := hs.obj b _ hb hg
       exact ⟨_, hg, trivial, fun _ _ => by simp, vs, el, fr, h1, h2, h3, h5⟩
      ·cases hrow
     have hbase : tyBase <= kk := by
      rcases Nat.lt_or_ge kk tyBase with q | q
      ·rw [Nat.div_eq_of_lt q] at c5; omega
      ·exact q
     have hel : el = ee := by rw [(h5.2 hbase).1, c5]; rfl
     subst hel
     have hlen := h2.length
     obtain ⟨hbytes, hll⟩ := bytesEx_cells hl (h2.take n)
     rw [List.length_take, Nat.min_eq_left c2] at hll
     have htake : vs.toList.take n = Lib.byteCells l := by
      rw [List.take_take, Nat.min_eq_left c2] at hbytes
      exact hbytes
     have hsz : n <= vs.size := by
      have := congrArg List.length htake
      rw [Lib.byteCells_length, List.length_take] at this
      simp at this; omega
     have hUS : (Builtin.unsafeString_ #[pt, it] o.type #[.pointer (some ⟨M.blk b, 0, none⟩), .int .i64 (Int.ofNat n)]).run P w = .ok (.string ⟨l.toArray⟩) (w.freeze ⟨M.blk b, 0, none⟩ l.length) := by
      have hcell : ∀ j x, l[j]? = some x -> w.cell? ((⟨M.blk b, 0, none⟩ : Addr).add j) = some (.int .u8 x.toNat) := fun j x hx => by
       have hj : j < l.length := (List.getElem?_eq_some_iff.1 hx).1
       have h7 : (vs.toList.take n)[j]? = some (.int .u8 x.toNat) := by rw [htake]; simp [Lib.byteCells, hx]
       rw [List.getElem?_take, if_pos (by omega)] at h7
       have : Addr.add ⟨M.blk b, 0, none⟩ j = ⟨M.blk b, j, none⟩ := by
        unfold Addr.add
        by_cases e0 : j = 0
        ·subst e0; rfl
        ·rw [if_neg e0]; simp
       rw [this]
       simp only [World.cell?, h1]
       simpa using h7
      have hsh : w.shape? (M.blk b) = some (el, vs.size) := by unfold World.shape?; rw [h1]
      have := Lib.run_unsafeString_row (P := P) w pt it o.type el hu c6 (M.blk b) vs.size hsh l (by intro e; rw [e] at hll; simp at hll; omega) (by omega) (by omega) hcell
      rw [hll] at this ⊢
      exact this
     have hw1 : (w.freeze ⟨M.blk b, 0, none⟩ l.length).heap[M.blk b]? = some (.cells vs el (if fr.1 == fr.2 then (0, 0 + l.length) else (min fr.1 0, max fr.2 (0 + l.length)))) := by
      simp only [World.freeze]
      rw [if_neg (by omega)]
      simp only [Array.getElem?_modify, if_true, h1, Option.map_some]
     have hw2 : ∀ k, k ≠ M.blk b -> (w.freeze ⟨M.blk b, 0, none⟩ l.length).heap[k]? = w.heap[k]? := fun k hk => by
      simp only [World.freeze]
      rw [if_neg (by omega)]
      simp only [Array.getElem?_modify]
      rw [if_neg (Ne.symm hk)]
     have hw3 : (w.freeze ⟨M.blk b, 0, none⟩ l.length).heap.size = w.heap.size := by
      simp only [World.freeze]
      rw [if_neg (by omega)]
      simp
     have hbel : Below B0 w0 (w.freeze ⟨M.blk b, 0, none⟩ l.length) := Lib.below_freeze hs.below (p := ⟨M.blk b, 0, none⟩) (hs.blk b hb).1 _
     have hE := ext_write (w' := w.freeze ⟨M.blk b, 0, none⟩ l.length) (y := .fz cs kk) hs hb hg hrw hlive (fun _ _ => by simp) trivial hw2 (by omega)
     have hs' := sim_write (w' := w.freeze ⟨M.blk b, 0, none⟩ l.length) (y := .fz cs kk) hs hb hg hrw hlive (fun _ _ => by simp) trivial hw2 hbel hw3 ⟨vs, el, _, hw1, h2.ext hE, h3, h5⟩
     refine ok_value (v := .string ⟨l.toArray⟩) ?_ (VR_v_of rfl) hs' hE
     rw [Int.ofNat_eq_natCast] at hUS eargs
     simp [execOp, hop, resolve, hc, invoke, builtin, eargs, eA, hUS]
    ·cases h
   ·cases h
  ·cases h
 ·cases h

theorem method_run {t : TypeId} {name : String} {f : FuncId} {v : Value} (h : methodA P t name = some f) (w : World) (fuel : Nat) : (method (fuel + 1) t v name).run P w = .ok (f, v) w := by
 unfold methodA at h
 split at h
 ·cases h
 ·rename_i i hi
  split at h
  ·cases h
  ·rename_i m hm
   split at h
   ·cases h
   ·rename_i hp
    have hp : m.path = #[] := by simpa using hp
    unfold method
    simp only [Sem.run_bind, typeInfo, run_program, Result.andThen_ok, hi, Sem.run_pure, hm, hp, follow]
    split at h
    ·rename_i f' e hmf hu
     cases h
     simp [hmf, follow, receiverAt, run_underlying hu, Place.get]
    ·cases h
    ·rename_i f' d hne hmf hu
     cases h
     simp only [hmf, follow, Sem.run_bind, Sem.run_pure, Result.andThen_ok, receiverAt, run_underlying hu]
     cases d <;> first | (simp [Place.get]; done) | exact absurd hu (by intro hu'; exact (hne _ _ hmf hu').elim)
    ·cases h

theorem noEscape_run {f : FuncId} {fn : Func} (hP : (fn.name == "runtime.NumGoroutine") = false) (hf : P.funcs[f]? = some fn) (hb : fn.body = none) (hn : (fn.name == "internal/abi.NoEscape") = true) (hx : (Extern.findNext fn).isNone = true) (x : Value) (w : World) : (callFunc f #[x]).run P w = .ok (.value x) w := by
 have hn : fn.name = "internal/abi.NoEscape" := by simpa using hn
 have e2 : Extern.find fn = some Extern.AbiNoEscape.same := by
  unfold Extern.find
  rw [hn]
  have a1 : Extern.allGenericRows.lookup "internal/abi.NoEscape" = none := by kernel_rfl
  have a2 : Extern.allTypedRows.lookup "internal/abi.NoEscape" = none := by kernel_rfl
  have a3 : Extern.allRows.lookup "internal/abi.NoEscape" = some Extern.AbiNoEscape.same := by kernel_rfl
  simp [a1, a2, a3]
 rw [run_callFunc_extern hf hP (by rw [hb]; rfl) (by simpa using hx) e2, Lib.run_noEscape]
 rfl
end
end Go.Ab
/- The evaluator's operations against the model's: symbols. -/
namespace Go.Ab
open Go Go.RowKit

section
variable [Interp] {P : Program} {G : Nat -> Option (List AV)} {B0 : Nat} {w0 w : World} {s : St} {M : Mp}

theorem fact_of (hs : Sim G B0 w0 w s M) {e : E} (h : hasE e s.k.fx = true) : e.den M.env = .v (.bool true) := hs.fx e (hasE_mem h)
theorem ofBool_true {b : Bool} (h : D.ofBool b = .v (.bool true)) : b = true := by
 unfold D.ofBool at h; cases h; rfl
theorem selfCmp_sound {env : Nat -> D} : ∀ {e : E} {b c : Bool}, e.den env = D.ofBool b -> selfCmp e = some c -> c = b := by
 intro e b c he h
 unfold selfCmp at h
 split at h
 ·rename_i op x y
  split at h
  ·rename_i hab
   have := eEq_eq hab
   subst this
   simp only [E.den, E.denL, Prim.den] at he
   have he : cmpI op (x.den env).int (x.den env).int = b := by
    unfold D.ofBool at he; cases he; rfl
   subst he
   cases op <;> simp only [Option.some.injEq, reduceCtorEq] at h <;> subst h <;> simp [cmpI]
  ·cases h
 ·cases h
theorem ask_sound (hs : Sim G B0 w0 w s M) {e : E} {b c : Bool} (he : e.den M.env = D.ofBool b) (h : ask s.k e = some c) : c = b := by
 unfold ask at h
 split at h
 ·rename_i h1
  cases h
  have := fact_of hs h1
  rw [he] at this
  exact (ofBool_true this).symm
 ·split at h
  ·rename_i h1
   cases h
   have := fact_of hs h1
   simp only [E.den, E.denL, Prim.den, he] at this
   have := ofBool_true this
   cases b
   ·rfl
   ·cases this
  ·split at h
   ·rename_i c0 hc
    split at h
    ·rename_i h1
     cases h
     have h2 := fact_of hs h1
     unfold unNot at hc
     split at hc
     ·cases hc
      simp only [E.den, E.denL, Prim.den, h2] at he
      cases b
      ·rfl
      ·cases he
     ·cases hc
    ·cases h
   ·exact selfCmp_sound he h
theorem mkB_sound (hs : Sim G B0 w0 w s M) {e : E} {b : Bool} (he : e.den M.env = D.ofBool b) : VR w s M (mkB s.k e) (.bool b) := by
 unfold mkB
 split
 ·rename_i c h
  rw [ask_sound hs he h]; exact VR_v_of rfl
 ·unfold VR; exact ⟨he, rfl⟩
theorem toE_sound {a : AV} {t : Ty} {e : E} {v : Value} (h : toE a = some (t, e)) (k : VR w s M a v) : e.den M.env = .v v /\ tyV t v = true := by
 unfold toE at h
 split at h
 ·cases h; obtain ⟨rfl, _⟩ := VR_v.1 k; exact ⟨rfl, by simp [tyV]⟩
 ·cases h; obtain ⟨rfl, _⟩ := VR_v.1 k; exact ⟨rfl, rfl⟩
 ·cases h; obtain ⟨rfl, _⟩ := VR_v.1 k; exact ⟨rfl, rfl⟩
 ·cases h; unfold VR at k; exact k
 ·cases h
theorem tyV_int {k : IntKind} {v : Value} (h : tyV (.i k) v = true) : ∃ i, v = .int k i := by
 cases v <;> simp [tyV] at h
 subst h; exact ⟨_, rfl⟩
theorem tyV_b {v : Value} (h : tyV .b v = true) : ∃ i, v = .bool i := by cases v <;> simp [tyV] at h; exact ⟨_, rfl⟩
theorem tyV_s {v : Value} (h : tyV .s v = true) : ∃ i, v = .string i := by cases v <;> simp [tyV] at h; exact ⟨_, rfl⟩
theorem litI_den {e : E} {i : Int} {env : Nat -> D} (h : litI e = some i) : (e.den env).int = i := by
 unfold litI at h
 split at h
 ·cases h; rfl
 ·cases h
theorem nonNeg_sound (hs : Sim G B0 w0 w s M) {e : E} (h : nonNeg s.k e = true) : 0 <= (e.den M.env).int := by
 unfold nonNeg at h
 split at h
 ·rename_i i hi
  rw [litI_den hi]; simpa using h
 ·rw [Bool.or_eq_true] at h
  rcases h with h | h
  ·unfold isLen at h
   split at h
   ·rename_i l
    simp only [E.den]
    unfold Prim.den
    split <;> simp_all [D.int, D.ofInt]
   ·rename_i l
    simp only [E.den]
    unfold Prim.den
    split <;> simp_all [D.int, D.ofInt]
   ·cases h
  ·have := fact_of hs h
   simp only [E.den, E.denL, Prim.den] at this
   have := ofBool_true this
   simpa [cmpI, eInt, E.den, D.int] using this
theorem below_sound (hs : Sim G B0 w0 w s M) {a b : E} (h : below s.k a b = true) : (a.den M.env).int < (b.den M.env).int := by
 have := fact_of hs h
 simp only [E.den, E.denL, Prim.den] at this
 simpa [cmpI] using ofBool_true this
theorem upTo_sound (hs : Sim G B0 w0 w s M) {a b : E} (h : upTo s.k a b = true) : (a.den M.env).int <= (b.den M.env).int := by
 unfold upTo at h
 rw [Bool.or_eq_true, Bool.or_eq_true] at h
 rcases h with (h | h) | h
 ·rw [eEq_eq h]; exact Int.le_refl _
 ·split at h
  ·rename_i i hi
   rw [Bool.and_eq_true, decide_eq_true_eq] at h
   rw [litI_den hi]
   exact Int.le_trans h.1 (nonNeg_sound hs h.2)
  ·cases h
 ·have := fact_of hs h
  simp only [E.den, E.denL, Prim.den] at this
  simpa [cmpI] using ofBool_true this
theorem short_sound (hs : Sim G B0 w0 w s M) {e : E} {x : ByteArray} (he : e.den M.env = .v (.string x)) (h : short s.k e = true) : (x.size : Int) <= textMax := by
 unfold short at h
 split at h
 ·simp only [E.den, D.v.injEq, Value.string.injEq] at he
  subst he
  simpa using h
 ·have := fact_of hs h
  simp only [E.den, E.denL, Prim.den, he] at this
  simpa [cmpI, eInt, E.den, D.int, D.ofInt, D.str] using ofBool_true this

theorem guard_scalar {op : BinOp} {t : TypeId} {ox oy : Operand} {x y : Value} (hx : okScalar x) (w : World) : (eqGuard op t ox oy x y).run P w = .ok () w := by
 cases x <;> first | exact hx.elim | (unfold eqGuard; split <;> rfl)

theorem s_symBin {o : Oper} {a : Act} {T : Tm} {op : BinOp} {t yt : TypeId} {x y : Operand} {c d r : AV} {ub : Bool} (hub : ub = true -> P.underlying t = some .bool) (hs : Sim G B0 w0 w s M) (hT : TmR w s M T a) (hop : o.op = .binOp op t x y yt) (hx : opd G T x = some c) (hy : opd G T y = some d)
  (h : symBin s.k ub op c d = some r) : OpOk P G B0 w0 w s M o a r s := by
 have h1 := opd_sound hs hT hx
 have h2 := opd_sound hs hT hy
 have fin : ∀ {v : Value}, okScalar (a.eval x) -> (binOp op t (a.eval x) (a.eval y)).run P w = .ok v w -> VR w s M r v -> OpOk P G B0 w0 w s M o a r s := fun {v} g1 g2 g3 => by
  refine ok_here hs (v := v) ?_ g3
  simp only [execOp, hop, Sem.run_bind, guard_scalar g1 w, Result.andThen_ok, g2, Sem.run_pure]
 unfold symBin at h
 split at h
 ·rename_i k1 ex k2 ey e1 e2
  obtain ⟨d1, t1⟩ := toE_sound e1 h1
  obtain ⟨d2, t2⟩ := toE_sound e2 h2
  obtain ⟨i, hi⟩ := tyV_int t1
  obtain ⟨j, hj⟩ := tyV_int t2
  rw [hi] at d1; rw [hj] at d2
  have hok : okScalar (a.eval x) := by rw [hi]; trivial
  have hcmp : ∀ op', isCmp op' = true -> op = op' -> k1 = k2 -> r = mkB s.k (.pr (.icmp op) [ex, ey]) -> OpOk P G B0 w0 w s M o a r s := fun op' g0 g1 g2 g3 => by
   subst g1; subst g2; subst g3
   refine fin (v := .bool (cmpI op i j)) hok ?_ (mkB_sound hs (by simp only [E.den, E.denL, Prim.den, d1, d2]; rfl))
   rw [hi, hj]
   cases op <;> first | (cases g0; done) | (simp [binOp, Op.intCmp, cmpI])
  have har : ∀ op', (op' = .add \/ op' = .sub \/ op' = .mul \/ op' = .and \/ op' = .or \/ op' = .xor \/ op' = .andNot) -> op = op' -> k1 = k2 -> r = .x (.i k1) (.pr (.iop op k1) [ex, ey]) -> OpOk P G B0 w0 w s M o a r s := fun op' g0 g1 g2 g3 => by
   subst g1; subst g2; subst g3
   refine fin (v := .int k1 (iopV op k1 i j)) hok ?_ ?_
   ·rw [hi, hj]
    rcases g0 with rfl | rfl | rfl | rfl | rfl | rfl | rfl <;> simp [binOp, Op.intArith, Op.intBits, iopV]
   ·unfold VR
    refine ⟨?_, by simp [tyV]⟩
    simp only [E.den, E.denL, Prim.den, d1, d2]; rfl
  have hsh : ∀ op', (op' = .shl \/ op' = .shr) -> op = op' -> nonNeg s.k ey = true -> r = .x (.i k1) (.pr (.iop op k1) [ex, ey]) -> OpOk P G B0 w0 w s M o a r s := fun op' g0 g1 g2 g3 => by
   subst g1; subst g3
   have hnn := nonNeg_sound hs g2
   rw [d2] at hnn
   have hnn : 0 <= j := hnn
   have hnn' : ¬ j < 0 := by omega
   refine fin (v := .int k1 (iopV op k1 i j)) hok ?_ ?_
   ·rw [hi, hj]
    rcases g0 with rfl | rfl <;> simp [binOp, Op.shift, iopV, hnn']
   ·unfold VR
    refine ⟨?_, by simp [tyV]⟩
    simp only [E.den, E.denL, Prim.den, d1, d2]; rfl
  cases op <;> simp only at h
  case add => split at h <;> first | (cases h; done) | (rename_i hk; cases h; exact har .add (by simp) rfl hk rfl)
  case sub => split at h <;> first | (cases h; done) | (rename_i hk; cases h; exact har .sub (by simp) rfl hk rfl)
  case mul => split at h <;> first | (cases h; done) | (rename_i hk; cases h; exact har .mul (by simp) rfl hk rfl)
  case quo =>
   split at h
   ·rename_i hk
    split at h
    ·rename_i l hl
     split at h
     ·cases h
     ·rename_i hz
      cases h
      subst hk
      have hjl : j = l := by
       have := litI_den (env := M.env) hl
       rw [d2] at this
       exact this
      have hz' : ¬ j = 0 := by rw [hjl]; exact hz
      refine fin (v := .int k1 (iopV .quo k1 i j)) hok ?_ ?_
      ·rw [hi, hj]
       simp [binOp, Op.intDiv, iopV, hz']
      ·unfold VR
       refine ⟨?_, by simp [tyV]⟩
       simp only [E.den, E.denL, Prim.den, d1, d2]; rfl
    ·split at h
     ·rename_i hz
      cases h
      subst hk
      have hf := fact_of hs hz
      simp only [E.den, E.denL, Prim.den, d2] at hf
      have hz' : ¬ j = 0 := by
       have := ofBool_true hf
       simpa [cmpI, D.int] using this
      refine fin (v := .int k1 (iopV .quo k1 i j)) hok ?_ ?_
      ·rw [hi, hj]
       simp [binOp, Op.intDiv, iopV, hz']
      ·unfold VR
       refine ⟨?_, by simp [tyV]⟩
       simp only [E.den, E.denL, Prim.den, d1, d2]; rfl
     ·cases h
   ·cases h
  case rem =>
   split at h
   ·rename_i hk
    split at h
    ·rename_i l hl
     split at h
     ·cases h
     ·rename_i hz
      cases h
      subst hk
      have hjl : j = l := by
       have := litI_den (env := M.env) hl
       rw [d2] at this
       exact this
      have hz' : ¬ j = 0 := by rw [hjl]; exact hz
      refine fin (v := .int k1 (iopV .rem k1 i j)) hok ?_ ?_
      ·rw [hi, hj]
       simp [binOp, Op.intDiv, iopV, hz']
      ·unfold VR
       refine ⟨?_, by simp [tyV]⟩
       simp only [E.den, E.denL, Prim.den, d1, d2]; rfl
    ·split at h
     ·rename_i hz
      cases h
      subst hk
      have hf := fact_of hs hz
      simp only [E.den, E.denL, Prim.den, d2] at hf
      have hz' : ¬ j = 0 := by
       have := ofBool_true hf
       simpa [cmpI, D.int] using this
      refine fin (v := .int k1 (iopV .rem k1 i j)) hok ?_ ?_
      ·rw [hi, hj]
       simp [binOp, Op.intDiv, iopV, hz']
      ·unfold VR
       refine ⟨?_, by simp [tyV]⟩
       simp only [E.den, E.denL, Prim.den, d1, d2]; rfl
     ·cases h
   ·cases h
  case and => split at h <;> first | (cases h; done) | (rename_i hk; cases h; exact har .and (by simp) rfl hk rfl)
  case or => split at h <;> first | (cases h; done) | (rename_i hk; cases h; exact har .or (by simp) rfl hk rfl)
  case xor => split at h <;> first | (cases h; done) | (rename_i hk; cases h; exact har .xor (by simp) rfl hk rfl)
  case andNot => split at h <;> first | (cases h; done) | (rename_i hk; cases h; exact har .andNot (by simp) rfl hk rfl)
  case shl => split at h <;> first | (cases h; done) | (rename_i hn; cases h; exact hsh .shl (by simp) rfl hn rfl)
  case shr => split at h <;> first | (cases h; done) | (rename_i hn; cases h; exact hsh .shr (by simp) rfl hn rfl)
  case eql => split at h <;> first | (cases h; done) | (rename_i hk; cases h; exact hcmp .eql rfl rfl hk rfl)
  case neq => split at h <;> first | (cases h; done) | (rename_i hk; cases h; exact hcmp .neq rfl rfl hk rfl)
  case lss => split at h <;> first | (cases h; done) | (rename_i hk; cases h; exact hcmp .lss rfl rfl hk rfl)
  case leq => split at h <;> first | (cases h; done) | (rename_i hk; cases h; exact hcmp .leq rfl rfl hk rfl)
  case gtr => split at h <;> first | (cases h; done) | (rename_i hk; cases h; exact hcmp .gtr rfl rfl hk rfl)
  case geq => split at h <;> first | (cases h; done) | (rename_i hk; cases h; exact hcmp .geq rfl rfl hk rfl)
 ·rename_i ex ey e1 e2
  obtain ⟨d1, t1⟩ := toE_sound e1 h1
  obtain ⟨d2, t2⟩ := toE_sound e2 h2
  obtain ⟨i, hi⟩ := tyV_s t1
  obtain ⟨j, hj⟩ := tyV_s t2
  rw [hi] at d1; rw [hj] at d2
  have hok : okScalar (a.eval x) := by rw [hi]; trivial
  have hcmp : ∀ op', isCmp op' = true -> op = op' -> r = mkB s.k (.pr (.scmp op) [ex, ey]) -> OpOk P G B0 w0 w s M o a r s := fun op' g0 g1 g3 => by
   subst g1; subst g3
   refine fin (v := .bool (cmpS op i j)) hok ?_ (mkB_sound hs (by simp only [E.den, E.denL, Prim.den, d1, d2]; rfl))
   rw [hi, hj]
   cases op <;> first | (cases g0; done) | (simp [binOp, Op.stringOp, cmpS])
  split at h
  ·split at h
   ·rename_i hc
    rw [Bool.and_eq_true] at hc
    cases h
    have l1 := short_sound hs d1 hc.1
    have l2 := short_sound hs d2 hc.2
    have hbig : ¬ (((i.size + j.size : Nat) : Int) > IntKind.i64.max) := by
     have : IntKind.i64.max = 9223372036854775807 := rfl
     unfold textMax at l1 l2
     omega
    refine fin (v := .string (i ++ j)) hok ?_ ?_
    ·rw [hi, hj]
     simp only [binOp, Op.stringOp]
     rw [if_neg hbig]
     rfl
    ·unfold VR
     refine ⟨?_, rfl⟩
     simp only [E.den, E.denL, Prim.den, d1, d2]; rfl
   ·cases h
  all_goals first | (cases h; exact hcmp _ rfl rfl rfl) | cases h
 ·rename_i ex ey e1 e2
  obtain ⟨d1, t1⟩ := toE_sound e1 h1
  obtain ⟨d2, t2⟩ := toE_sound e2 h2
  obtain ⟨i, hi⟩ := tyV_b t1
  obtain ⟨j, hj⟩ := tyV_b t2
  rw [hi] at d1; rw [hj] at d2
  have hok : okScalar (a.eval x) := by rw [hi]; trivial
  have hb : ∀ op', (op' = .eql \/ op' = .neq) -> op = op' -> (if ub then some (mkB s.k (.pr (.bcmp op) [ex, ey])) else none) = some r -> OpOk P G B0 w0 w s M o a r s := fun op' g0 g1 g2 => by
   subst g1
   split at g2
   ·rename_i hu
    have hu := hub hu
    cases g2
    have heq : (Op.equal t (.bool i) (.bool j)).run P w = .ok (i == j) w := by
     have : ∀ d, (Op.equalIn (d + 1) t (.bool i) (.bool j)).run P w = .ok (i == j) w := fun d => by simp [Op.equalIn, run_underlying hu]
     exact this 9999
    rcases g0 with rfl | rfl
    ·refine fin (v := .bool (i == j)) hok ?_ (mkB_sound hs (by simp only [E.den, E.denL, Prim.den, d1, d2]; rfl))
     rw [hi, hj]
     have : binOp .eql t (.bool i) (.bool j) = (do pure (.bool (<- Op.equal t (.bool i) (.bool j)))) := rfl
     rw [this]
     simp only [Sem.run_bind, heq, Result.andThen_ok, Sem.run_pure]
    ·refine fin (v := .bool (i != j)) hok ?_ (mkB_sound hs (by simp only [E.den, E.denL, Prim.den, d1, d2]; rfl))
     rw [hi, hj]
     have : binOp .neq t (.bool i) (.bool j) = (do pure (.bool (!(<- Op.equal t (.bool i) (.bool j))))) := rfl
     rw [this]
     simp only [Sem.run_bind, heq, Result.andThen_ok, Sem.run_pure]
     rfl
   ·cases g2
  split at h
  ·exact hb _ (.inl rfl) rfl h
  ·exact hb _ (.inr rfl) rfl h
  ·cases h
 ·cases h
theorem s_symUn {o : Oper} {a : Act} {T : Tm} {op : UnOp} {t : TypeId} {x : Operand} {c r : AV} (hs : Sim G B0 w0 w s M) (hT : TmR w s M T a) (hop : o.op = .unOp op t x) (hx : opd G T x = some c) (h : symUn s.k op c = some r) : OpOk P G B0 w0 w s M o a r s := by
 have h1 := opd_sound hs hT hx
 unfold symUn at h
 split at h
 ·rename_i e e1
  cases h
  obtain ⟨d1, t1⟩ := toE_sound e1 h1
  obtain ⟨i, hi⟩ := tyV_b t1
  rw [hi] at d1
  refine ok_here hs (v := .bool (!i)) ?_ (mkB_sound hs (by simp only [E.den, E.denL, Prim.den, d1]; rfl))
  simp [execOp, hop, hi, Op.unary]
 ·rename_i k1 e e1
  cases h
  obtain ⟨d1, t1⟩ := toE_sound e1 h1
  obtain ⟨i, hi⟩ := tyV_int t1
  rw [hi] at d1
  refine ok_here hs (v := .int k1 (k1.wrap (-i))) ?_ ?_
  ·simp [execOp, hop, hi, Op.unary, Op.intArith]
  ·unfold VR
   refine ⟨?_, by simp [tyV]⟩
   simp only [E.den, E.denL, Prim.den, d1]; rfl
 ·cases h
theorem bytes_beq (i j : ByteArray) : (i == j) = (i.toList == j.toList) := by
 rw [ByteArray.toList_eq, ByteArray.toList_eq]
 show (i.data == j.data) = _
 by_cases h : i.data = j.data
 ·rw [h]; simp
 ·rw [beq_eq_false_iff_ne.2 h, beq_eq_false_iff_ne.2 (fun e => h (Array.toList_inj.1 e))]
def eqBody (d : Nat) (xs ys : Array Value) (f : Field) (_s : Option Bool × Unit) : Sem (ForInStep (Option Bool × Unit)) :=
 if f.name ≠ "_" then do
  let a <- part f.type xs f.offset
  let b <- part f.type ys f.offset
  let c <- Op.equalIn d f.type a b
  if (!c) = true then pure (ForInStep.done (some false, ())) else pure (ForInStep.yield (none, ()))
 else pure (ForInStep.yield (none, ()))
theorem eqFs_sound {g : TypeId -> AV -> AV -> Option E} {d : Nat} {xs ys : List AV} {vs us : Array Value} (hg : ∀ t a b e va vb, g t a b = some e -> VR w s M a va -> VR w s M b vb -> ∃ r : Bool, (Op.equalIn d t va vb).run P w = .ok r w /\ e.den M.env = D.ofBool r)
  (hx : VRl w s M xs vs.toList) (hy : VRl w s M ys us.toList) : ∀ {fs : List Field} {es : List E}, eqFs g P fs xs ys = some es ->
  ∃ r : Bool, (forIn fs ((none, ()) : Option Bool × Unit) (eqBody d vs us)).run P w = .ok (if r then (none, ()) else (some false, ())) w /\ (E.denL M.env es).all D.bool = r
 | [], es, h => by
  simp only [eqFs, Option.some.injEq] at h
  subst h
  exact ⟨true, by simp, by simp [E.denL]⟩
 | f :: r, es, h => by
  unfold eqFs at h
  split at h
  ·cases h
  ·rename_i hn
   split at h
   ·rename_i a b ha hb
    split at h
    ·rename_i e es' he hes
     cases h
     obtain ⟨va, pa, qa⟩ := run_part (P := P) (w := w) hx ha
     obtain ⟨vb, pb, qb⟩ := run_part (P := P) (w := w) hy hb
     obtain ⟨r1, k1, k2⟩ := hg _ _ _ _ _ _ he qa qb
     obtain ⟨r2, j1, j2⟩ := eqFs_sound hg hx hy hes
     have hn' : f.name ≠ "_" := fun e => hn (by rw [e]; rfl)
     refine ⟨r1 && r2, ?_, ?_⟩
     ·rw [List.forIn_cons]
      simp only [eqBody, if_pos hn', Sem.run_bind, pa, pb, k1, Result.andThen_ok]
      cases r1
      ·simp
      ·simp only [Bool.not_true, Bool.false_eq_true, if_false, Sem.run_pure, Result.andThen_ok, Bool.true_and]
       exact j1
     ·simp only [E.denL, List.all_cons, k2, j2]
      cases r1 <;> rfl
    ·cases h
   ·cases h
theorem eqT_sound : ∀ (n : Nat) {t : TypeId} {a b : AV} {e : E} {va vb : Value}, eqT P n t a b = some e -> VR w s M a va -> VR w s M b vb -> ∀ d, n <= d -> ∃ r : Bool, (Op.equalIn d t va vb).run P w = .ok r w /\ e.den M.env = D.ofBool r
 | 0, _, _, _, _, _, _, h, _, _, _, _ => by cases h
 | n + 1, t, a, b, e, va, vb, h, h1, h2, d, hd => by
  obtain ⟨d, rfl⟩ : ∃ d', d = d' + 1 := ⟨d - 1, by omega⟩
  unfold eqT at h
  split at h
  ·rename_i fs xs ys hu
   split at h
   ·cases h
   ·rename_i hst
    simp only [Bool.not_eq_true] at hst
    obtain ⟨es, hes, rfl⟩ := Option.map_eq_some_iff.1 h
    unfold VR at h1 h2
    obtain ⟨vs, rfl, h1⟩ := h1
    obtain ⟨us, rfl, h2⟩ := h2
    obtain ⟨r, k1, k2⟩ := eqFs_sound (d := d) (fun t a b e va vb q g1 g2 => eqT_sound n q g1 g2 d (by omega)) h1 h2 hes
    refine ⟨r, ?_, by simp only [E.den, Prim.den, k2]⟩
    unfold Op.equalIn
    have hprog : ∀ w, (program : Sem Program).run P w = .ok P w := fun _ => rfl
    simp only [Sem.run_bind, run_underlying hu, Result.andThen_ok, hprog, hst, Bool.false_eq_true, if_false]
    rw [<- Array.forIn_toList]
    have k1' := k1
    unfold eqBody at k1'
    rw [k1']
    cases r <;> rfl
  ·rename_i a b hu
   split at h
   ·rename_i ex ey e1 e2
    cases h
    obtain ⟨d1, t1⟩ := toE_sound e1 h1
    obtain ⟨d2, t2⟩ := toE_sound e2 h2
    obtain ⟨i, rfl⟩ := tyV_b t1
    obtain ⟨j, rfl⟩ := tyV_b t2
    exact ⟨i == j, by simp [Op.equalIn, run_underlying hu], by simp only [E.den, E.denL, Prim.den, d1, d2]; rfl⟩
   ·cases h
  ·rename_i kk a b hu
   split at h
   ·rename_i k ex l ey e1 e2
    split at h
    ·rename_i hk
     subst hk
     cases h
     obtain ⟨d1, t1⟩ := toE_sound e1 h1
     obtain ⟨d2, t2⟩ := toE_sound e2 h2
     obtain ⟨i, rfl⟩ := tyV_int t1
     obtain ⟨j, rfl⟩ := tyV_int t2
     exact ⟨i == j, by simp [Op.equalIn, run_underlying hu], by simp only [E.den, E.denL, Prim.den, d1, d2]; rfl⟩
    ·cases h
   ·cases h
  ·rename_i a b hu
   split at h
   ·rename_i ex ey e1 e2
    cases h
    obtain ⟨d1, t1⟩ := toE_sound e1 h1
    obtain ⟨d2, t2⟩ := toE_sound e2 h2
    obtain ⟨i, rfl⟩ := tyV_s t1
    obtain ⟨j, rfl⟩ := tyV_s t2
    exact ⟨i == j, by simp [Op.equalIn, run_underlying hu], by simp only [E.den, E.denL, Prim.den, d1, d2]; rw [bytes_beq]; rfl⟩
   ·cases h
  ·cases h
theorem s_symEqA {o : Oper} {a : Act} {T : Tm} {op : BinOp} {t yt : TypeId} {x y : Operand} {c d r : AV} (hs : Sim G B0 w0 w s M) (hT : TmR w s M T a) (hop : o.op = .binOp op t x y yt) (hx : opd G T x = some c) (hy : opd G T y = some d) (h : symEqA P s.k op t c d = some r) : OpOk P G B0 w0 w s M o a r s := by
 have h1 := opd_sound hs hT hx
 have h2 := opd_sound hs hT hy
 unfold symEqA at h
 split at h
 ·rename_i xs ys
  split at h
  ·cases h
  ·rename_i hg
   simp only [Bool.not_eq_true] at hg
   split at h
   ·rename_i e he
    obtain ⟨q, k1, k2⟩ := eqT_sound 10 he h1 h2 10000 (by omega)
    unfold VR at h1 h2
    obtain ⟨vs, e1, _⟩ := h1
    obtain ⟨us, e2, _⟩ := h2
    rw [e1, e2] at k1
    have k1 : (Op.equal t (.agg vs) (.agg us)).run P w = .ok q w := k1
    have guard : ∀ op', (eqGuard op' t x y (.agg vs) (.agg us)).run P w = .ok () w := fun op' => by
     unfold eqGuard
     split <;> simp [hg]
    split at h
    ·cases h
     refine ok_here hs (v := .bool q) ?_ (mkB_sound hs k2)
     have hb : binOp .eql t (.agg vs) (.agg us) = (do pure (.bool (<- Op.equal t (.agg vs) (.agg us)))) := rfl
     simp [execOp, hop, e1, e2, guard, hb, k1]
    ·cases h
     refine ok_here hs (v := .bool (!q)) ?_ (mkB_sound hs (by simp only [E.den, E.denL, Prim.den, k2]; rfl))
     have hb : binOp .neq t (.agg vs) (.agg us) = (do pure (.bool (!(<- Op.equal t (.agg vs) (.agg us))))) := rfl
     simp [execOp, hop, e1, e2, guard, hb, k1]
    ·cases h
   ·cases h
 ·cases h
theorem s_symMM {o : Oper} {a : Act} {T : Tm} {c : Go.Call} {mx : Bool} {l : List AV} {r : AV} (hs : Sim G B0 w0 w s M) (hT : TmR w s M T a) (hop : o.op = .call c) (hc : c.callee = .builtin (bif mx then .max else .min)) (hargs : opds G T c.args.toList = some l) (h : symMM mx l = some r) : OpOk P G B0 w0 w s M o a r s := by
 have hv := opds_sound hs hT hargs
 unfold symMM at h
 split at h
 ·rename_i x y
  split at h
  ·rename_i k1 ex k2 ey e1 e2
   split at h
   ·rename_i hk
    subst hk
    cases h
    unfold VRl at hv
    obtain ⟨v1, l1, hl, g1, hv⟩ := hv
    unfold VRl at hv
    obtain ⟨v2, l2, rfl, g2, hv⟩ := hv
    unfold VRl at hv
    subst hv
    obtain ⟨d1, t1⟩ := toE_sound e1 g1
    obtain ⟨d2, t2⟩ := toE_sound e2 g2
    obtain ⟨i, rfl⟩ := tyV_int t1
    obtain ⟨j, rfl⟩ := tyV_int t2
    have hcm : (c.args.map a.eval).toList = [.int k1 i, .int k1 j] := by rw [Array.toList_map]; exact hl
    refine ok_here hs (v := .int k1 (bif mx then (if j > i then j else i) else (if j < i then j else i))) ?_ ?_
    ·cases mx
     ·simp only [cond_false] at hc ⊢
      have key : (Builtin.min_ c.argTypes o.type (c.args.map a.eval)).run P w = .ok (.int k1 (if j < i then j else i)) w := by
       unfold Builtin.min_; rw [hcm]; rfl
      simp [execOp, hop, resolve, hc, invoke, builtin, key]
     ·simp only [cond_true] at hc ⊢
      have key : (Builtin.max_ c.argTypes o.type (c.args.map a.eval)).run P w = .ok (.int k1 (if j > i then j else i)) w := by
       unfold Builtin.max_; rw [hcm]; rfl
      simp [execOp, hop, resolve, hc, invoke, builtin, key]
    ·unfold VR
     refine ⟨?_, by simp [tyV]⟩
     simp only [E.den, E.denL, Prim.den, d1, d2, D.int, D.bool, D.ofBool, cmpI]
     cases mx
     ·by_cases hij : j < i <;> simp [hij]
     ·by_cases hij : i < j <;> simp [hij]
   ·cases h
  ·cases h
 ·cases h
theorem s_symConv {o : Oper} {a : Act} {T : Tm} {src dst : TypeId} {x : Operand} {c r : AV} (hs : Sim G B0 w0 w s M) (hT : TmR w s M T a) (hop : o.op = .convert src dst x) (hx : opd G T x = some c) (h : symConv (P.underlying src) (P.underlying dst) c = some r) : OpOk P G B0 w0 w s M o a r s := by
 have h1 := opd_sound hs hT hx
 unfold symConv at h
 split at h
 ·rename_i sd k k1 e hsd hd e1
  cases h
  obtain ⟨d1, t1⟩ := toE_sound e1 h1
  obtain ⟨i, hi⟩ := tyV_int t1
  rw [hi] at d1
  refine ok_here hs (v := .int k (k.wrap i)) ?_ ?_
  ·simp only [execOp, hop, convert, Sem.run_bind, run_underlying hsd, run_underlying hd, hi, Result.andThen_ok]
   cases sd <;> simp [Conv.intToInt]
  ·unfold VR
   refine ⟨?_, by simp [tyV]⟩
   simp only [E.den, E.denL, Prim.den, d1]; rfl
 ·rename_i sd e hsd hd e1
  cases h
  obtain ⟨d1, t1⟩ := toE_sound e1 h1
  obtain ⟨i, hi⟩ := tyV_s t1
  rw [hi] at d1
  refine ok_here hs (v := .string i) ?_ ?_
  ·simp only [execOp, hop, convert, Sem.run_bind, run_underlying hsd, run_underlying hd, hi, Result.andThen_ok]
   cases sd <;> simp
  ·unfold VR; exact ⟨d1, rfl⟩
 ·cases h
theorem s_symIndex {o : Oper} {a : Act} {T : Tm} {t : TypeId} {x ix : Operand} {c ci r : AV} (hs : Sim G B0 w0 w s M) (hT : TmR w s M T a) (hop : o.op = .index t x ix) (hu : P.underlying t = some .string) (hx : opd G T x = some c) (hi : opd G T ix = some ci) (h : symIndex s.k c ci = some r) : OpOk P G B0 w0 w s M o a r s := by
 have h1 := opd_sound hs hT hx
 have h2 := opd_sound hs hT hi
 unfold symIndex at h
 split at h
 ·rename_i ex k ei e1 e2
  split at h
  ·rename_i hc
   rw [Bool.and_eq_true] at hc
   cases h
   obtain ⟨d1, t1⟩ := toE_sound e1 h1
   obtain ⟨d2, t2⟩ := toE_sound e2 h2
   obtain ⟨i, hi'⟩ := tyV_s t1
   obtain ⟨j, hj⟩ := tyV_int t2
   rw [hi'] at d1; rw [hj] at d2
   have g1 := nonNeg_sound hs hc.1
   have g2 := below_sound hs hc.2
   rw [d2] at g1 g2
   simp only [E.den, E.denL, Prim.den, d1] at g2
   have g1 : 0 <= j := g1
   have g2 : j < (i.size : Int) := g2
   have hlt : j.toNat < i.size := by omega
   have hlt' : j.toNat < i.data.toList.length := by simpa using hlt
   refine ok_here hs (v := .int .u8 (i.data.toList.getD j.toNat 0).toNat) ?_ ?_
   ·have hget : i[j.toNat]? = some (i.data.toList.getD j.toNat 0) := by
     rw [List.getD_eq_getElem?_getD, List.getElem?_eq_getElem hlt']
     rw [getElem?_pos i j.toNat hlt]
     rfl
    simp [execOp, hop, Instr.index, hj, asIntOf, run_underlying hu, hi', g1, hget]
   ·unfold VR
    refine ⟨?_, rfl⟩
    simp only [E.den, E.denL, Prim.den, d1, d2]; rfl
  ·cases h
 ·cases h
theorem boundE_sound {d e : E} {c : Option AV} {ox : Option Operand} {T : Tm} {a : Act} (hs : Sim G B0 w0 w s M) (hT : TmR w s M T a) (ho : opdO G T ox = some c) (h : boundE d c = some e) :
  (ox = none /\ e = d) \/ ∃ x k i, ox = some x /\ a.eval x = .int k i /\ e.den M.env = .v (.int k i) := by
 cases ox with
 | none =>
  simp only [opdO, Option.some.injEq] at ho
  subst ho
  simp only [boundE, Option.some.injEq] at h
  exact .inl ⟨rfl, h.symm⟩
 | some x =>
  simp only [opdO, Option.map_eq_some_iff] at ho
  obtain ⟨v, hv, rfl⟩ := ho
  simp only [boundE] at h
  split at h
  ·rename_i k l e1
   cases h
   obtain ⟨d1, t1⟩ := toE_sound e1 (opd_sound hs hT hv)
   obtain ⟨i, hi⟩ := tyV_int t1
   rw [hi] at d1
   exact .inr ⟨x, k, i, rfl, hi, d1⟩
  ·cases h
theorem s_symSub {o : Oper} {a : Act} {T : Tm} {t : TypeId} {x : Operand} {lo hi : Option Operand} {c r : AV} {cl ch : Option AV} (hs : Sim G B0 w0 w s M) (hT : TmR w s M T a) (hop : o.op = .slice t x lo hi none) (hu : P.underlying t = some .string) (hx : opd G T x = some c)
  (hl : opdO G T lo = some cl) (hh : opdO G T hi = some ch) (h : symSub s.k c cl ch = some r) : OpOk P G B0 w0 w s M o a r s := by
 have h1 := opd_sound hs hT hx
 unfold symSub at h
 split at h
 ·rename_i ex e1
  obtain ⟨d1, t1⟩ := toE_sound e1 h1
  obtain ⟨i, hi'⟩ := tyV_s t1
  rw [hi'] at d1
  split at h
  ·rename_i l hh2 b1 b2
   split at h
   ·rename_i hc
    simp only [Bool.and_eq_true] at hc
    obtain ⟨⟨⟨c1, c2⟩, c3⟩, c4⟩ := hc
    cases h
    have g1 := nonNeg_sound hs c1
    have g2 := nonNeg_sound hs c2
    have g3 := upTo_sound hs c3
    have g4 := upTo_sound hs c4
    simp only [E.den, E.denL, Prim.den, d1] at g4
    have g4 : (hh2.den M.env).int <= (i.size : Int) := g4
    refine ok_here hs (v := .string (i.extract (l.den M.env).int.toNat (hh2.den M.env).int.toNat)) ?_ ?_
    ·rcases boundE_sound hs hT hh b2 with ⟨rfl, rfl⟩ | ⟨y, k, j, rfl, q1, q2⟩
     ·have eh : ((E.pr Prim.slen [ex]).den M.env).int = (i.size : Int) := by simp only [E.den, E.denL, Prim.den, d1]; rfl
      rw [eh] at g3 ⊢
      rcases boundE_sound hs hT hl b1 with ⟨rfl, rfl⟩ | ⟨y, k, j, rfl, q1, q2⟩
      ·have el : ((eInt 0).den M.env).int = 0 := rfl
       rw [el]
       simp [execOp, hop, Instr.sliceAt, hi', run_underlying hu, Instr.slice, Instr.sliceBounds]
      ·rw [q2] at g1 g3 ⊢
       have g1 : 0 <= j := g1
       have g3 : j <= (i.size : Int) := g3
       simp [execOp, hop, Instr.sliceAt, hi', run_underlying hu, Instr.slice, Instr.sliceBounds, Instr.sliceBound, q1, asIntOf, g1, g3, D.int]
     ·rw [q2] at g2 g3 g4 ⊢
      have g2 : 0 <= j := g2
      have g4 : j <= (i.size : Int) := g4
      have g3 : (l.den M.env).int <= j := g3
      rcases boundE_sound hs hT hl b1 with ⟨rfl, rfl⟩ | ⟨y', k', j', rfl, q1', q2'⟩
      ·have el : ((eInt 0).den M.env).int = 0 := rfl
       rw [el]
       simp [execOp, hop, Instr.sliceAt, hi', run_underlying hu, Instr.slice, Instr.sliceBounds, Instr.sliceBound, q1, asIntOf, g2, g4, D.int]
      ·rw [q2'] at g1 g3 ⊢
       have g1 : 0 <= j' := g1
       have g3 : j' <= j := g3
       have g5 : j' <= ((j.toNat : Nat) : Int) := by omega
       have g6 : j' <= max j 0 := by omega
       simp [execOp, hop, Instr.sliceAt, hi', run_underlying hu, Instr.slice, Instr.sliceBounds, Instr.sliceBound, q1, q1', asIntOf, g1, g2, g3, g4, g5, g6, D.int]
    ·unfold VR
     refine ⟨?_, rfl⟩
     simp only [E.den, E.denL, Prim.den, d1]; rfl
   ·cases h
  ·cases h
 ·cases h
theorem fitsC_get {tb : Nat -> List CT} : ∀ {cs : List D} {ct : List CT}, fitsC tb cs ct -> cs.length = ct.length /\ ∀ (j : Nat) (c : CT), ct[j]? = some c -> ∃ d, cs[j]? = some d /\ fits tb d c
 | [], [], _ => ⟨rfl, fun j c h => by simp at h⟩
 | d :: r, c :: t, h => by
  unfold fitsC at h
  obtain ⟨h1, h2⟩ := fitsC_get h.2
  refine ⟨by simp [h1], fun j c' hj => ?_⟩
  cases j with
  | zero => simp only [List.getElem?_cons_zero, Option.some.injEq] at hj; subst hj; exact ⟨d, rfl, h.1⟩
  | succ j => rw [List.getElem?_cons_succ] at hj ⊢; exact h2 j c' hj
 | [], _ :: _, h => by unfold fitsC at h; exact h.elim
 | _ :: _, [], h => by unfold fitsC at h; exact h.elim
theorem DVs_get {C : Nat -> Nat -> Option Value} {I : Nat -> Nat -> Prop} : ∀ {cs : List D} {b off : Nat}, DVs C I cs b off -> ∀ (j : Nat) (d : D), cs[j]? = some d -> ∃ v, C b (off + j) = some v /\ DV C I d v /\ I b (off + j)
 | [], _, _, _ => fun j d h => by simp at h
 | c :: r, b, off, k => fun j d hj => by
  unfold DVs at k
  obtain ⟨⟨v, k0, k1⟩, k2, k3⟩ := k
  cases j with
  | zero => simp only [List.getElem?_cons_zero, Option.some.injEq] at hj; subst hj; exact ⟨v, k0, k1, k2⟩
  | succ j =>
   rw [List.getElem?_cons_succ] at hj
   obtain ⟨u, g1, g2, g3⟩ := DVs_get k3 j d hj
   rw [show off + 1 + j = off + (j + 1) by omega] at g1 g3
   exact ⟨u, g1, g2, g3⟩
theorem denL_get {env : Nat -> D} : ∀ {l : List E} (j : Nat), (E.denL env l)[j]? = (l[j]?).map (E.den env)
 | [], j => by simp [E.denL]
 | e :: r, 0 => by simp [E.denL]
 | e :: r, j + 1 => by simp only [E.denL, List.getElem?_cons_succ]; exact denL_get j
theorem cellE_den {env : Nat -> D} {e : E} {cs : List D} {j : Nat} {d : D} (he : e.den env = .row cs) (hj : cs[j]? = some d) : (cellE e j).den env = d := by
 unfold cellE
 split
 ·rename_i l
  simp only [E.den, Prim.den, D.row.injEq] at he
  subst he
  rw [denL_get, Option.map_eq_some_iff] at hj
  obtain ⟨x, hx, rfl⟩ := hj
  rw [List.getD_eq_getElem?_getD, hx]; rfl
 ·simp only [E.den, E.denL, Prim.den, he, D.cells]
  rw [List.getD_eq_getElem?_getD, hj]; rfl
theorem cellA_VR {e : E} {cs : List D} {j : Nat} {d : D} {c : CT} {v : Value} (he : e.den M.env = .row cs) (hj : cs[j]? = some d) (hf : fits s.k.shape d c) (hd : DV (fun b off => w.cell? ⟨b, off, none⟩) (Imm s M) d v) : VR w s M (cellA e j c) v := by
 have h := cellE_den he hj
 cases c with
 | sc t =>
  cases d with
  | v x =>
   unfold DV at hd
   unfold fits at hf
   obtain ⟨rfl, _⟩ := hd
   unfold cellA VR
   exact ⟨h, hf⟩
  | nil => unfold fits at hf; exact hf.elim
  | lst _ => unfold fits at hf; exact hf.elim
  | row _ => unfold fits at hf; exact hf.elim
 | sl t =>
  unfold cellA VR
  rw [h]
  exact ⟨hd, hf, fun t ht => by cases ht⟩
theorem cellsA_isCell {e : E} : ∀ {j : Nat} {l : List CT}, (cellsA e j l).all isCell = true
 | _, [] => rfl
 | j, c :: r => by
  unfold cellsA
  rw [List.all_cons, cellsA_isCell]
  cases c <;> rfl
theorem cellsA_length {e : E} : ∀ {j : Nat} {l : List CT}, (cellsA e j l).length = l.length
 | _, [] => rfl
 | j, c :: r => by unfold cellsA; rw [List.length_cons, List.length_cons, cellsA_length]
theorem cellsA_take {e : E} : ∀ {j : Nat} {l : List CT} (n : Nat), (cellsA e j l).take n = cellsA e j (l.take n)
 | _, _, 0 => by simp [cellsA]
 | _, [], n + 1 => rfl
 | j, c :: r, n + 1 => by
  show (cellA e j c :: cellsA e (j + 1) r).take (n + 1) = cellsA e j (c :: r.take n)
  rw [List.take_succ_cons, cellsA_take n]; rfl
theorem cellsA_VRl {e : E} {cs : List D} {b o : Nat} (he : e.den M.env = .row cs) (hd : DVs (fun b off => w.cell? ⟨b, off, none⟩) (Imm s M) cs b o) : ∀ {j : Nat} {l : List CT}, (∀ (i : Nat) (c : CT), l[i]? = some c -> ∃ d, cs[j + i]? = some d /\ fits s.k.shape d c) ->
  ∃ vs, VRl w s M (cellsA e j l) vs /\ At w b (o + j) vs
 | j, [], _ => ⟨[], VRl_nil, fun i v h => by simp at h⟩
 | j, c :: r, hf => by
  obtain ⟨d, h1, h2⟩ := hf 0 c rfl
  obtain ⟨v, g1, g2, _⟩ := DVs_get hd j d h1
  obtain ⟨vs, k1, k2⟩ := cellsA_VRl he hd (j := j + 1) (l := r) fun i c' hi => by
   obtain ⟨d', q1, q2⟩ := hf (i + 1) c' (by simpa using hi)
   exact ⟨d', by rw [show j + 1 + i = j + (i + 1) by omega]; exact q1, q2⟩
  refine ⟨v :: vs, ?_, fun i u hi => ?_⟩
  ·unfold cellsA
   exact VRl_cons (cellA_VR he h1 h2 g2) k1
  ·cases i with
   | zero => simp only [List.getElem?_cons_zero, Option.some.injEq] at hi; subst hi; exact g1
   | succ i =>
    rw [List.getElem?_cons_succ] at hi
    have := k2 i u hi
    rw [show o + (j + 1) + i = o + j + (i + 1) by omega] at this
    exact this
theorem s_loadRow {o : Oper} {a : Act} {T : Tm} {t rt : Nat} {x : Operand} {e : E} {off : Nat} {r : AV} (hs : Sim G B0 w0 w s M) (hT : TmR w s M T a) (hop : o.op = .load t x) (h : opd G T x = some (.rd rt e off)) (hl : loadRow P s.k t rt e off = some r) : OpOk P G B0 w0 w s M o a r s := by
 have hv := opd_sound hs hT h
 unfold VR at hv
 obtain ⟨b, bo, cs, ev, he, hd, hf⟩ := hv
 obtain ⟨hlen, hfg⟩ := fitsC_get hf
 obtain ⟨vs, k1, k2⟩ := cellsA_VRl he hd (j := off) (l := (s.k.shape rt).drop off) fun i c hi => by
  rw [List.getElem?_drop] at hi
  exact hfg _ c hi
 have ht : takeT P t (cellsA e off ((s.k.shape rt).drop off)) = some r := by
  simp only [loadRow, Option.bind_eq_bind, Option.bind_eq_some_iff] at hl
  obtain ⟨g, h1, hl⟩ := hl
  unfold takeT
  simp only [h1, Option.bind_eq_bind, Option.bind_some]
  cases g with
  | true =>
   simp only [if_true, Option.bind_eq_some_iff] at hl ⊢
   obtain ⟨n, h2, hl⟩ := hl
   refine ⟨n, h2, ?_⟩
   split at hl
   ·rename_i hc
    cases hl
    have hc := Nat.le_of_ble_eq_true hc
    rw [if_pos (Nat.ble_eq_true_of_le (by rw [cellsA_length, List.length_drop]; omega)), cellsA_take]
   ·cases hl
  | false =>
   simp only [Bool.false_eq_true, if_false, Option.bind_eq_some_iff, Option.pure_def, Option.some.injEq] at hl ⊢
   obtain ⟨c, h2, rfl⟩ := hl
   have hlt := (List.getElem?_eq_some_iff.1 h2).1
   rw [List.drop_eq_getElem_cons hlt]
   unfold cellsA
   rw [List.getElem?_eq_getElem hlt, Option.some.injEq] at h2
   rw [h2]; rfl
 obtain ⟨v, hr, hv⟩ := run_loadVar (P := P) k1 k2 ht
 exact ok_here hs (by simp [execOp, hop, Instr.loadAt, ev, Instr.sureAddr, hr]) hv
theorem s_fieldRow {o : Oper} {a : Act} {T : Tm} {st : TypeId} {x : Operand} {i : Nat} {fs : Array Field} {f : Field} {n rt off : Nat} {e : E} (hs : Sim G B0 w0 w s M) (hT : TmR w s M T a) (hop : o.op = .fieldAddr st x i) (hu : P.underlying st = some (.struct fs)) (hf : fs[i]? = some f)
  (hn : sizeT P f.type = some n) (h0 : n ≠ 0) (h : opd G T x = some (.rd rt e off)) : OpOk P G B0 w0 w s M o a (.rd rt e (off + f.offset)) s := by
 have hv := opd_sound hs hT h
 unfold VR at hv
 obtain ⟨b, bo, cs, ev, he, hd, hf'⟩ := hv
 refine ok_here hs (v := .pointer (some ⟨b, bo + off + f.offset, none⟩)) ?_ ?_
 ·simp [execOp, hop, Instr.fieldAt, run_underlying hu, hf, ev, Instr.sureAddr, run_fieldPlace hn h0]
 ·unfold VR; exact ⟨b, bo, cs, by rw [Nat.add_assoc], he, hd, hf'⟩
theorem rows_get {rt L : Nat} (hL : (s.k.shape rt).length = L) : ∀ {rows : List D} {b off : Nat}, DVr (fun b off => w.cell? ⟨b, off, none⟩) (Imm s M) rows b off -> fitsR s.k.shape rows rt -> ∀ (i : Nat) (d : D), rows[i]? = some d ->
  ∃ cs, d = .row cs /\ DVs (fun b off => w.cell? ⟨b, off, none⟩) (Imm s M) cs b (off + i * L) /\ fitsC s.k.shape cs (s.k.shape rt)
 | [], _, _, _, _ => fun i d h => by simp at h
 | x :: r, b, off, hd, hf => fun i d hi => by
  unfold DVr at hd
  unfold fitsR at hf
  have hx : ∃ cs, x = .row cs /\ DVs (fun b off => w.cell? ⟨b, off, none⟩) (Imm s M) cs b off /\ fitsC s.k.shape cs (s.k.shape rt) := by
   cases x with
   | row cs => exact ⟨cs, rfl, by have := hd.1; unfold DVw at this; exact this, by have := hf.1; unfold fitsW at this; exact this⟩
   | v _ => have := hf.1; unfold fitsW at this; exact this.elim
   | nil => have := hf.1; unfold fitsW at this; exact this.elim
   | lst _ => have := hf.1; unfold fitsW at this; exact this.elim
  obtain ⟨cs, rfl, q1, q2⟩ := hx
  cases i with
  | zero =>
   simp only [List.getElem?_cons_zero, Option.some.injEq] at hi
   subst hi
   exact ⟨cs, rfl, by simpa using q1, q2⟩
  | succ i =>
   rw [List.getElem?_cons_succ] at hi
   obtain ⟨cs', g1, g2, g3⟩ := rows_get hL hd.2 hf.2 i d hi
   refine ⟨cs', g1, ?_, g3⟩
   have hlen : cs.length = L := (fitsC_get q2).1.trans hL
   simp only [D.cells, hlen] at g2
   rw [show off + L + i * L = off + (i + 1) * L by rw [Nat.add_mul]; omega] at g2
   exact g2
theorem s_symAt {o : Oper} {a : Act} {T : Tm} {t el rt size : Nat} {x ix : Operand} {e e' : E} {v : AV} (hs : Sim G B0 w0 w s M) (hT : TmR w s M T a) (hop : o.op = .indexAddr t x ix) (hu : P.underlying t = some (.slice el)) (hn : sizeT P el = some size) (hL : (s.k.shape rt).length = size)
  {tok : Option Nat} (h : opd G T x = some (.d rt e tok)) (hi : opd G T ix = some v) (ha : symAt s.k e v = some e') : OpOk P G B0 w0 w s M o a (.rd rt e' 0) s := by
 have hv := opd_sound hs hT h
 have hiv := opd_sound hs hT hi
 unfold symAt at ha
 split at ha
 ·rename_i k i e1
  split at ha
  ·rename_i hc
   rw [Bool.and_eq_true] at hc
   cases ha
   obtain ⟨d1, t1⟩ := toE_sound e1 hiv
   obtain ⟨j, hj⟩ := tyV_int t1
   rw [hj] at d1
   have g1 := nonNeg_sound hs hc.1
   have g2 := below_sound hs hc.2
   rw [d1] at g1 g2
   have g1 : 0 <= j := g1
   rcases VR_d hv with ⟨q, _⟩ | ⟨rows, b, off, cap, q1, q2, q3, q4, q5⟩
   ·exfalso
    simp only [lenE, E.den, E.denL, Prim.den, q] at g2
    have g2 : j < 0 := g2
    omega
   ·simp only [lenE, E.den, E.denL, Prim.den, q1] at g2
    have g2 : j < (rows.length : Int) := g2
    have hlt : j.toNat < rows.length := by omega
    obtain ⟨cs, w1, w2, w3⟩ := rows_get hL q4 q5 j.toNat rows[j.toNat] (List.getElem?_eq_getElem hlt)
    refine ok_here hs (v := .pointer (some ⟨b, off + j.toNat * size, none⟩)) ?_ ?_
    ·simp [execOp, hop, Instr.indexAt, hj, asIntOf, run_underlying hu, q2, g1, g2, run_sizeOf hn, add_eq]
    ·unfold VR
     refine ⟨b, off + j.toNat * size, cs, by simp, ?_, w2, w3⟩
     simp only [E.den, E.denL, Prim.den, q1, d1, D.rows, D.int]
     rw [List.getD_eq_getElem?_getD, List.getElem?_eq_getElem hlt]
     exact w1
  ·cases ha
 ·cases ha
theorem s_lenD {o : Oper} {a : Act} {T : Tm} {c : Go.Call} {t0 rt el : TypeId} {cs : List AV} {e : E} (hs : Sim G B0 w0 w s M) (hT : TmR w s M T a) (hop : o.op = .call c) (hc : c.callee = .builtin .len) (hA0 : c.argTypes[0]? = some t0)
  (h : opds G T c.args.toList = some cs) {tok : Option Nat} (hx : cs.head? = some (.d rt e tok)) (hd : P.underlying t0 = some (.slice el)) : OpOk P G B0 w0 w s M o a (.x (.i .i64) (lenE e)) s := by
 obtain ⟨v, hv, vx⟩ := args_head (hs := hs) hT h hx
 obtain ⟨n, e1, e2⟩ : ∃ n, (∃ b k, v = .slice b n k) /\ (lenE e).den M.env = .v (goInt n) := by
  rcases VR_d vx with ⟨q, _, _, rfl⟩ | ⟨rows, b, off, cap, q1, rfl, _⟩
  ·exact ⟨0, ⟨_, _, rfl⟩, by simp only [lenE, E.den, E.denL, Prim.den, q]; rfl⟩
  ·exact ⟨rows.length, ⟨_, _, rfl⟩, by simp only [lenE, E.den, E.denL, Prim.den, q1]; rfl⟩
 obtain ⟨b, k, rfl⟩ := e1
 have key : (Builtin.len_ c.argTypes o.type (c.args.map a.eval)).run P w = .ok (goInt n) w := by
  unfold Builtin.len_
  rw [hA0, hv]
  simp only [Sem.run_bind, run_underlying hd, Result.andThen_ok]
  rfl
 refine ok_here hs (v := goInt n) ?_ ?_
 ·simp [execOp, hop, resolve, hc, invoke, builtin, key]
 ·unfold VR; exact ⟨e2, rfl⟩
theorem s_lenS {o : Oper} {a : Act} {T : Tm} {c : Go.Call} {t0 : TypeId} {cs : List AV} {e : E} (hs : Sim G B0 w0 w s M) (hT : TmR w s M T a) (hop : o.op = .call c) (hc : c.callee = .builtin .len) (hA0 : c.argTypes[0]? = some t0)
  (h : opds G T c.args.toList = some cs) (hx : cs.head? = some (.x .s e)) (hd : P.underlying t0 = some .string) : OpOk P G B0 w0 w s M o a (.x (.i .i64) (.pr .slen [e])) s := by
 obtain ⟨v, hv, vx⟩ := args_head (hs := hs) hT h hx
 unfold VR at vx
 obtain ⟨x, rfl⟩ := tyV_s vx.2
 have key : (Builtin.len_ c.argTypes o.type (c.args.map a.eval)).run P w = .ok (goInt x.size) w := by
  unfold Builtin.len_
  rw [hA0, hv]
  simp only [Sem.run_bind, run_underlying hd, Result.andThen_ok]
  rfl
 refine ok_here hs (v := goInt x.size) ?_ ?_
 ·simp [execOp, hop, resolve, hc, invoke, builtin, key]
 ·unfold VR
  refine ⟨?_, rfl⟩
  simp only [E.den, E.denL, Prim.den, vx.1]; rfl
end
end Go.Ab
/- The evaluator's operations against the model's: what is written, of symbols. -/
namespace Go.Ab
open Go Go.RowKit

section
variable {C C' : Nat -> Nat -> Option Value} {I I' : Nat -> Nat -> Prop}
theorem DVs_vals : ∀ {cs : List D} {b off : Nat}, DVs C I cs b off -> ∃ vs, DVl C I cs vs /\ ∀ (j : Nat) (v : Value), vs[j]? = some v -> C b (off + j) = some v
 | [], _, _, _ => ⟨[], rfl, fun j v h => by simp at h⟩
 | d :: r, b, off, k => by
  unfold DVs at k
  obtain ⟨⟨v, k0, k1⟩, _, k3⟩ := k
  obtain ⟨vs, g1, g2⟩ := DVs_vals k3
  refine ⟨v :: vs, ⟨v, vs, rfl, k1, g1⟩, fun j u hj => ?_⟩
  cases j with
  | zero => simp only [List.getElem?_cons_zero, Option.some.injEq] at hj; subst hj; exact k0
  | succ j =>
   have := g2 j u (by simpa using hj)
   rw [show off + (j + 1) = off + 1 + j by omega]; exact this
theorem DVs_of : ∀ {cs : List D} {vs : List Value} {b off : Nat}, DVl C I cs vs -> (∀ (j : Nat) (v : Value), vs[j]? = some v -> C b (off + j) = some v /\ I b (off + j)) -> DVs C I cs b off
 | [], _, _, _, _, _ => by unfold DVs; trivial
 | d :: r, vs, b, off, ⟨v, t, e, k1, k2⟩, h => by
  subst e
  unfold DVs
  have h0 := h 0 v rfl
  refine ⟨⟨v, h0.1, k1⟩, h0.2, DVs_of k2 fun j u hj => ?_⟩
  have := h (j + 1) u (by simpa using hj)
  rw [show off + 1 + j = off + (j + 1) by omega]; exact this
theorem DVr_vals : ∀ {rows : List D} {b off : Nat}, DVr C I rows b off -> ∃ vs, DVl C I (flat rows) vs /\ ∀ (j : Nat) (v : Value), vs[j]? = some v -> C b (off + j) = some v
 | [], _, _, _ => ⟨[], rfl, fun j v h => by simp at h⟩
 | d :: r, b, off, k => by
  unfold DVr at k
  cases d with
  | row cs =>
   obtain ⟨k1, k2⟩ := k
   unfold DVw at k1
   obtain ⟨us, g1, g2⟩ := DVs_vals k1
   obtain ⟨vs, g3, g4⟩ := DVr_vals k2
   have hl := g1.length
   refine ⟨us ++ vs, g1.append g3, fun j u hj => ?_⟩
   rw [List.getElem?_append] at hj
   split at hj
   ·exact g2 j u hj
   ·rename_i hge
    have := g4 _ u hj
    simp only [D.cells] at this
    rw [show off + cs.length + (j - us.length) = off + j by omega] at this; exact this
  | v _ => unfold DVw at k; exact k.1.elim
  | nil => unfold DVw at k; exact k.1.elim
  | lst _ => unfold DVw at k; exact k.1.elim
theorem DVr_of : ∀ {rows : List D} {vs : List Value} {b off : Nat}, (∀ d, d ∈ rows -> ∃ cs, d = .row cs) -> DVl C I (flat rows) vs -> (∀ (j : Nat) (v : Value), vs[j]? = some v -> C b (off + j) = some v /\ I b (off + j)) -> DVr C I rows b off
 | [], _, _, _, _, _, _ => by unfold DVr; trivial
 | d :: r, vs, b, off, hr, k, h => by
  obtain ⟨cs, rfl⟩ := hr d (List.mem_cons_self ..)
  have hsplit : ∀ {as bs : List D} {vs : List Value}, DVl C I (as ++ bs) vs -> ∃ xs ys, vs = xs ++ ys /\ DVl C I as xs /\ DVl C I bs ys := by
   intro as
   induction as with
   | nil => intro bs vs k; exact ⟨[], vs, rfl, rfl, k⟩
   | cons a as ih =>
    rintro bs vs ⟨v, t, rfl, k1, k2⟩
    obtain ⟨xs, ys, rfl, g1, g2⟩ := ih k2
    exact ⟨v :: xs, ys, rfl, ⟨v, xs, rfl, k1, g1⟩, g2⟩
  obtain ⟨xs, ys, rfl, g1, g2⟩ := hsplit (as := cs) (bs := flat r) k
  have hl := g1.length
  unfold DVr
  refine ⟨by unfold DVw; exact DVs_of g1 fun j v hj => h j v (by rw [List.getElem?_append_left (List.getElem?_eq_some_iff.1 hj).1]; exact hj), ?_⟩
  refine DVr_of (fun d hd => hr d (List.mem_cons_of_mem _ hd)) g2 fun j v hj => ?_
  have := h (xs.length + j) v (by rw [List.getElem?_append_right (Nat.le_add_right _ _)]; simpa using hj)
  simp only [D.cells]
  rw [show off + cs.length + j = off + (xs.length + j) by omega]; exact this
end
section
variable [Interp] {tb : Nat -> List CT}
theorem fitsR_row {t : Nat} : ∀ {rows : List D}, fitsR tb rows t -> ∀ d, d ∈ rows -> ∃ cs, d = .row cs /\ fitsC tb cs (tb t)
 | [], _, d, h => by cases h
 | x :: r, k, d, h => by
  unfold fitsR at k
  rcases List.mem_cons.1 h with rfl | h
  ·cases d with
   | row cs => have := k.1; unfold fitsW at this; exact ⟨cs, rfl, this⟩
   | v _ => have := k.1; unfold fitsW at this; exact this.elim
   | nil => have := k.1; unfold fitsW at this; exact this.elim
   | lst _ => have := k.1; unfold fitsW at this; exact this.elim
  ·exact fitsR_row k.2 d h
theorem fitsR_append {t : Nat} : ∀ {rows us : List D}, fitsR tb rows t -> fitsR tb us t -> fitsR tb (rows ++ us) t
 | [], _, _, k => k
 | _ :: _, _, h, k => by
  unfold fitsR at h
  rw [List.cons_append]
  unfold fitsR
  exact ⟨h.1, fitsR_append h.2 k⟩
theorem flat_length {t : Nat} : ∀ {rows : List D}, fitsR tb rows t -> (flat rows).length = rows.length * (tb t).length
 | [], _ => by simp [flat]
 | d :: r, k => by
  obtain ⟨cs, rfl, hc⟩ := fitsR_row k d (List.mem_cons_self ..)
  unfold fitsR at k
  have := flat_length k.2
  show (cs ++ flat r).length = _
  rw [List.length_append, this, (fitsC_get hc).1, List.length_cons, Nat.add_mul]; omega
theorem flat_append (a b : List D) : flat (a ++ b) = flat a ++ flat b := by simp [flat]
end

section
variable [Interp] {P : Program} {G : Nat -> Option (List AV)} {B0 : Nat} {w0 w : World} {s : St} {M : Mp}

theorem tyV_ok {t : Ty} {v : Value} (h : tyV t v = true) : okScalar v := by
 rcases tyV_scalar h with ⟨_, _, rfl⟩ | ⟨_, rfl⟩ | ⟨_, rfl⟩ <;> trivial
mutual
theorem cellX_sound : ∀ (n : Nat) {c : CT} {a : AV} {e : E} {v : Value}, cellX s.k n c a = some e -> VR w s M a v -> DV (fun b off => w.cell? ⟨b, off, none⟩) (Imm s M) (e.den M.env) v /\ fits s.k.shape (e.den M.env) c
 | 0, _, _, _, _, h, _ => by unfold cellX at h; cases h
 | n + 1, c, a, e, v, h, hv => by
  unfold cellX at h
  split at h
  ·rename_i t t' e' tok
   split at h
   ·rename_i ht
    cases h
    subst ht
    unfold VR at hv
    exact ⟨hv.1, hv.2.1⟩
   ·cases h
  ·cases h
   obtain ⟨rfl, _⟩ := VR_v.1 hv
   simp only [E.den, E.denL, Prim.den]
   unfold DV fits fitsR
   exact ⟨.inl ⟨rfl, _, _, rfl⟩, trivial⟩
  ·cases h
   unfold VR at hv
   obtain ⟨b, off, rfl⟩ := hv
   simp only [E.den, E.denL, Prim.den]
   unfold DV fits fitsR
   exact ⟨.inr ⟨b, off, 0, rfl, Nat.le_refl _, by unfold DVr; trivial⟩, trivial⟩
  ·rename_i t cs len tok
   obtain ⟨l, hl, rfl⟩ := Option.map_eq_some_iff.1 h
   unfold VR at hv
   obtain ⟨b, off, cap, rfl, hle, hv, _⟩ := hv
   obtain ⟨k1, k2, k3⟩ := rowsX_sound n hl hv
   simp only [E.den, Prim.den]
   unfold DV fits
   exact ⟨.inr ⟨b, off, cap, by rw [k3], by rw [k3]; exact hle, k1⟩, k2⟩
  ·rename_i t a'
   split at h
   ·rename_i t' e' he
    split at h
    ·rename_i ht
     cases h
     subst ht
     obtain ⟨d1, t1⟩ := toE_sound he hv
     rw [d1]
     unfold DV fits
     exact ⟨⟨rfl, tyV_ok t1⟩, t1⟩
    ·cases h
   ·cases h
  ·cases h
theorem rowsX_sound : ∀ (n : Nat) {t len : Nat} {cs : List AV} {l : List E} {b off : Nat}, rowsX s.k n t len cs = some l -> VRs w s M cs b off ->
  DVr (fun b off => w.cell? ⟨b, off, none⟩) (Imm s M) (E.denL M.env l) b off /\ fitsR s.k.shape (E.denL M.env l) t /\ (E.denL M.env l).length = len
 | 0, _, _, _, _, _, _, h, _ => by unfold rowsX at h; cases h
 | n + 1, t, len, cs, l, b, off, h, hv => by
  unfold rowsX at h
  split at h
  ·cases h
   unfold E.denL DVr fitsR
   exact ⟨trivial, trivial, rfl⟩
  ·rename_i len
   split at h
   ·rename_i r rest h1 h2
    cases h
    obtain ⟨k1, k2⟩ := cellsX_sound n h1 hv
    obtain ⟨k3, k4, k5⟩ := rowsX_sound n h2 (hv.drop _)
    have hlen := (fitsC_get k2).1
    unfold E.denL
    simp only [E.den, Prim.den]
    refine ⟨?_, ?_, by rw [List.length_cons, k5]⟩
    ·unfold DVr
     refine ⟨by unfold DVw; exact k1, ?_⟩
     simp only [D.cells, hlen]
     exact k3
    ·unfold fitsR
     exact ⟨by unfold fitsW; exact k2, k4⟩
   ·cases h
theorem cellsX_sound : ∀ (n : Nat) {ct : List CT} {cs : List AV} {l : List E} {b off : Nat}, cellsX s.k n ct cs = some l -> VRs w s M cs b off ->
  DVs (fun b off => w.cell? ⟨b, off, none⟩) (Imm s M) (E.denL M.env l) b off /\ fitsC s.k.shape (E.denL M.env l) ct
 | 0, _, _, _, _, _, h, _ => by unfold cellsX at h; cases h
 | n + 1, ct, cs, l, b, off, h, hv => by
  unfold cellsX at h
  split at h
  ·cases h
   unfold E.denL DVs fitsC
   exact ⟨trivial, trivial⟩
  ·rename_i c r a as
   split at h
   ·rename_i x y h1 h2
    cases h
    unfold VRs at hv
    obtain ⟨⟨v, g0, g1⟩, _, g3, g4⟩ := hv
    obtain ⟨k1, k2⟩ := cellX_sound n h1 g1
    obtain ⟨k3, k4⟩ := cellsX_sound n h2 g4
    unfold E.denL DVs fitsC
    exact ⟨⟨⟨v, g0, k1⟩, g3, k3⟩, k2, k4⟩
   ·cases h
  ·cases h
end

theorem cellsX_pre : ∀ (n : Nat) {ct : List CT} {cs : List AV} {l : List E} {vs : List Value}, cellsX s.k n ct cs = some l -> VRl w s M cs vs -> DVl (fun b off => w.cell? ⟨b, off, none⟩) (Imm s M) (E.denL M.env l) (vs.take ct.length) /\ fitsC s.k.shape (E.denL M.env l) ct
 | 0, _, _, _, _, h, _ => by unfold cellsX at h; cases h
 | n + 1, ct, cs, l, vs, h, hv => by
  unfold cellsX at h
  split at h
  ·cases h
   unfold E.denL fitsC
   exact ⟨rfl, trivial⟩
  ·rename_i c r a as
   split at h
   ·rename_i x y h1 h2
    cases h
    unfold VRl at hv
    obtain ⟨v, t, rfl, g1, g4⟩ := hv
    obtain ⟨k1, k2⟩ := cellX_sound n h1 g1
    obtain ⟨k3, k4⟩ := cellsX_pre n h2 g4
    unfold E.denL fitsC
    exact ⟨⟨v, _, rfl, k1, k3⟩, k2, k4⟩
   ·cases h
  ·cases h
theorem rowsX_VRl : ∀ (n : Nat) {t len : Nat} {cs : List AV} {l : List E} {vs : List Value}, rowsX s.k n t len cs = some l -> cs.length = len * (s.k.shape t).length -> VRl w s M cs vs ->
  DVl (fun b off => w.cell? ⟨b, off, none⟩) (Imm s M) (flat (E.denL M.env l)) vs /\ fitsR s.k.shape (E.denL M.env l) t /\ (E.denL M.env l).length = len
 | 0, _, _, _, _, _, h, _, _ => by unfold rowsX at h; cases h
 | n + 1, t, len, cs, l, vs, h, hl, hv => by
  unfold rowsX at h
  split at h
  ·cases h
   have : vs = [] := List.length_eq_zero_iff.1 (by rw [<- hv.length, hl]; simp)
   subst this
   unfold E.denL fitsR
   exact ⟨rfl, trivial, rfl⟩
  ·rename_i len
   split at h
   ·rename_i r rest h1 h2
    cases h
    obtain ⟨k1, k2⟩ := cellsX_pre n h1 hv
    have hl' : (cs.drop (s.k.shape t).length).length = len * (s.k.shape t).length := by rw [List.length_drop, hl, Nat.succ_eq_add_one, Nat.add_mul]; omega
    obtain ⟨k3, k4, k5⟩ := rowsX_VRl n h2 hl' (hv.drop _)
    unfold E.denL
    simp only [E.den, Prim.den]
    refine ⟨?_, ?_, by rw [List.length_cons, k5]⟩
    ·show DVl _ _ (E.denL M.env r ++ flat (E.denL M.env rest)) vs
     have := k1.append k3
     rw [List.take_append_drop] at this
     exact this
    ·unfold fitsR
     exact ⟨by unfold fitsW; exact k2, k4⟩
   ·cases h

theorem append_own_core {o : Oper} {a : Act} {c : Go.Call} {t0 t1 e : TypeId} {d : TypeDesc} {ox oy : Operand} (hs : Sim G B0 w0 w s M) (hop : o.op = .call c) (hc : c.callee = .builtin .append)
  (hA0 : c.argTypes[0]? = some t0) (hA1 : c.argTypes[1]? = some t1) (ht0 : P.underlying t0 = some (.slice e)) (ht1 : P.underlying t1 = some d) (hd : ∀ k, d ≠ .int k) (hargs : c.args = #[ox, oy])
  {i : TypeInfo} {zv : Value} (hi : P.info? e = some i) (hzv : i.zero = some zv) (hzs : zv.cells.size = i.size)
  {t len n : Nat} {tip tip' : Tip} (ht : t < s.n) (hg : s.get t = some (.row tip i.size)) (htip : tip.val M.env = len * i.size) (htip' : tip'.val M.env = (len + n) * i.size) (hroom : s.room = true)
  (ex : a.eval ox = .slice (some ⟨M.blk t, 0, none⟩) len (M.cap t)) {ovs vs : List Value} (hat : ∀ (j : Nat) (q : Value), ovs[j]? = some q -> w.cell? ⟨M.blk t, j, none⟩ = some q) (hovl : ovs.length = len * i.size)
  (hlen : ∀ W : World, (Builtin.lenOf (a.eval oy)).run P W = .ok n W) (hf1 : (Builtin.firstCells i.size n (a.eval oy)).run P w = .ok vs.toArray w) (hf2 : (Builtin.firstCells i.size n (a.eval oy)).run P w.drew = .ok vs.toArray w.drew)
  (hvl : vs.length = n * i.size) (h6 : ∀ v ∈ vs, v.oneCell' = true) (htl : tooLong i.bytes (len + n) = false) :
  ∃ w' M' b cap, (execOp a.eval o).run P w = .ok (.value (.slice (some ⟨b, 0, none⟩) (len + n) cap)) w' /\ Sim G B0 w0 w' ((s.put t .dead).new (.row tip' i.size)) M' /\ Ext w s M w' ((s.put t .dead).new (.row tip' i.size)) M' /\
   len + n <= cap /\ M'.blk s.n = b /\ M'.cap s.n = cap /\ ∀ (j : Nat) (v : Value), (ovs ++ vs)[j]? = some v -> w'.cell? ⟨b, j, none⟩ = some v /\ Imm ((s.put t .dead).new (.row tip' i.size)) M' b j := by
 have hargs' : c.args.map a.eval = #[a.eval ox, a.eval oy] := by rw [hargs]; simp
 have htll : t < Tr.lid := Nat.lt_of_lt_of_le ht hs.bound
 have hgn : ((s.put t .dead).new (.row tip' i.size)).get s.n = some (.row tip' i.size) := by rw [St.get_new _ _ _ (by simpa [St.put] using room_lt hroom)]; exact if_pos rfl
 have hlt : s.n < ((s.put t .dead).new (.row tip' i.size)).n := by simp [St.new, St.put]
 have hnl : (ovs ++ vs).length = (len + n) * i.size := by rw [List.length_append, hovl, hvl, Nat.add_mul]
 obtain ⟨hb1, hb2⟩ := tooLong_no htl
 have hneed : len + n <= 2 ^ 47 := by
  have h1 : (2 * (len + n) + 2048) * 1 <= (2 * (len + n) + 2048) * i.bytes := Nat.mul_le_mul_left _ hb2
  omega
 by_cases hroomy : len + n <= M.cap t
 ·obtain ⟨c0, e0', fr, a1, a2, a3, a4⟩ := hs.obj t _ ht hg
  have hfits : len * i.size + n * i.size <= c0.size := by rw [a2, <- Nat.add_mul]; exact Nat.mul_le_mul_right _ hroomy
  obtain ⟨k1, k2, k3⟩ := heap_setCells vs (len * i.size) w c0 a1 (by rw [hvl]; exact hfits)
  have hst : (storeCells ⟨M.blk t, len * i.size, none⟩ vs).run P w = .ok () (w.setCells (M.blk t) (len * i.size) vs) := by
   have := run_storeCells_cells (P := P) (M.blk t) (len * i.size) vs 0 w (fun j hj => ?_) (fun j hj => ?_) h6
   ·simpa using this
   ·simp only [World.cell?, a1]
    simp
    omega
   ·simp only [World.frozen?, a1]
    have := a4.no (show len * i.size + 0 + j < c0.size by omega)
    simp only [Bool.and_eq_false_iff, decide_eq_false_iff_not]
    rcases Classical.em (fr.1 <= len * i.size + 0 + j) with q | q
    ·exact .inr fun q' => this ⟨q, q'⟩
    ·exact .inl q
  have hrun := run_append_room' (w := w) t0 t1 o.type e c.argTypes hA0 hA1 i d ht0 ht1 hd hi (some ⟨M.blk t, 0, none⟩) len (M.cap t) n (a.eval oy) vs hlen hf1 hroomy (fun q hq => by cases hq; rw [add_eq, Nat.zero_add]; exact hst) (fun h => by cases h)
  have hnewsz : (c0.toList.take (len * i.size) ++ vs ++ c0.toList.drop (len * i.size + vs.length)).toArray.size = c0.size := by
   simp only [List.size_toArray, List.length_append, List.length_take, List.length_drop, Array.length_toList, hvl]; omega
  obtain ⟨hs2, hE2⟩ := grow_in (tip' := tip') hs hroom ht hg (by rw [htip, htip', Nat.add_mul]; omega) a1 k1 hnewsz (by rw [htip', Nat.add_mul]; exact hfits) (fun j hj => by
   have hj : j < len * i.size := by rw [<- htip]; exact hj
   rw [List.getElem?_toArray, List.append_assoc, List.getElem?_append_left (by simp; omega), List.getElem?_take, if_pos hj, Array.getElem?_toList]) k2 (below_setCells (hs.blk t ht).1 vs _ w hs.below) k3
  have hbn : (M.add s.n (M.blk t) (M.cap t)).blk s.n = M.blk t := by simp [Mp.add]
  refine ⟨_, _, M.blk t, M.cap t, exec_append hop hc (by rw [hargs', ex]; exact hrun), hs2, hE2, hroomy, hbn, by simp [Mp.add], fun j v hj => ?_⟩
  have hjl : j < (len + n) * i.size := by rw [<- hnl]; exact (List.getElem?_eq_some_iff.1 hj).1
  refine ⟨?_, ?_⟩
  ·have e2 : c0.toList.take (len * i.size) = ovs := by
    apply List.ext_getElem?
    intro j
    rw [List.getElem?_take]
    by_cases hj : j < len * i.size
    ·rw [if_pos hj]
     obtain ⟨q, hq⟩ : ∃ q, ovs[j]? = some q := ⟨ovs[j], List.getElem?_eq_getElem (by omega)⟩
     have := hat j q hq
     simp only [World.cell?, a1] at this
     rw [hq, Array.getElem?_toList]; simpa using this
    ·rw [if_neg hj, List.getElem?_eq_none (by omega)]
   simp only [World.cell?, k1, List.getElem?_toArray]
   rw [e2, List.getElem?_append_left (by rw [hnl]; exact hjl)]
   simpa using hj
  ·have := imm_row hs2 hlt hgn (i := j) (by show j < tip'.val M.env; rw [htip']; exact hjl)
   rw [hbn] at this; exact this
 ·have hs1 := sim_kill hs t ht
  have hE1 : Ext w s M w (s.put t .dead) M := ext_kill t htll
  have hs2 := sim_drew hs1
  have hEd : Ext w s M w.drew (s.put t .dead) M := hE1.trans ext_drew
  have hg' : M.cap t < len + n := by omega
  have hfit : Builtin.nextslicecap (len + n) (M.cap t) * i.bytes <= 281474976710656 := growslice_fits hg' (by
   have h1 : (len + n) * i.bytes <= (2 * (len + n) + 2048) * i.bytes := Nat.mul_le_mul_right _ (by omega)
   omega)
  have hold : (Builtin.firstCells i.size len (.slice (some ⟨M.blk t, 0, none⟩) len (M.cap t))).run P w.drew = .ok ovs.toArray w.drew :=
   run_firstCells_some (P := P) w.drew i.size len ⟨M.blk t, 0, none⟩ len (M.cap t) ovs hovl fun j q hq => by rw [add_eq, Nat.zero_add]; exact hat j q hq
  have hrun := run_append_grow' (w := w) t0 t1 o.type e c.argTypes hA0 hA1 i zv d ht0 ht1 hd hi hzv (some ⟨M.blk t, 0, none⟩) len (M.cap t) n (a.eval oy) ovs vs hlen hold hf2 hg' (by omega) hfit
  have hcapge := grownCap_ge w (len + n) (M.cap t) e
  have hcells : (ovs.toArray ++ vs.toArray ++ Builtin.zeroCells zv.cells (grownCap w (len + n) (M.cap t) e - (len + n))).size = grownCap w (len + n) (M.cap t) e * i.size := by
   simp only [Array.size_append, size_zeroCells, hzs, List.size_toArray, hvl, hovl]
   rw [<- Nat.add_mul, <- Nat.add_mul]; congr 1; omega
  have hroom1 : (s.put t .dead).room = true := by simpa [St.room, St.put] using hroom
  obtain ⟨hs3, hE3⟩ := new_row hs2 hroom1 (vs := ovs.toArray ++ vs.toArray ++ Builtin.zeroCells zv.cells (grownCap w (len + n) (M.cap t) e - (len + n))) e (0, 0) tip' i.size (grownCap w (len + n) (M.cap t) e) hcells
   (by rw [htip', hcells]; exact Nat.mul_le_mul_right _ hcapge) (.inl rfl)
  have hbn : (M.add s.n w.drew.heap.size (grownCap w (len + n) (M.cap t) e)).blk s.n = w.heap.size := by simp [Mp.add]
  refine ⟨_, _, w.heap.size, grownCap w (len + n) (M.cap t) e, exec_append hop hc (by rw [hargs', ex]; exact hrun), hs3, hEd.trans hE3, hcapge, hbn, by simp [Mp.add, St.put], fun j v hj => ?_⟩
  have hjl : j < (len + n) * i.size := by rw [<- hnl]; exact (List.getElem?_eq_some_iff.1 hj).1
  refine ⟨?_, ?_⟩
  ·have := heap_new w.drew (.cells (ovs.toArray ++ vs.toArray ++ Builtin.zeroCells zv.cells (grownCap w (len + n) (M.cap t) e - (len + n))) e (0, 0))
   have hsz : w.drew.heap.size = w.heap.size := rfl
   rw [hsz] at this
   simp only [World.cell?, this]
   show (ovs.toArray ++ vs.toArray ++ _)[j]? = some v
   rw [Array.getElem?_append_left (by simp only [Array.size_append, List.size_toArray, <- List.length_append, hnl]; exact hjl)]
   rw [<- Array.getElem?_toList]
   simpa using hj
  ·have := imm_row hs3 hlt hgn (i := j) (by show j < tip'.val M.env; rw [htip']; exact hjl)
   have hbn' : (M.add (s.put t .dead).n w.drew.heap.size (grownCap w (len + n) (M.cap t) e)).blk s.n = w.heap.size := hbn
   rw [hbn'] at this; exact this
theorem DV_oneCell {C : Nat -> Nat -> Option Value} {I : Nat -> Nat -> Prop} : ∀ {d : D} {v : Value}, DV C I d v -> v.oneCell' = true
 | .v x, v, k => by
  unfold DV at k
  obtain ⟨rfl, h⟩ := k
  cases v <;> first | rfl | exact h.elim
 | .nil, v, k => by unfold DV at k; exact k.elim
 | .lst rows, v, k => by
  unfold DV at k
  rcases k with ⟨_, _, _, rfl⟩ | ⟨b, off, cap, rfl, _⟩ <;> rfl
 | .row _, v, k => by unfold DV at k; exact k.elim
theorem DVl_oneCell {C : Nat -> Nat -> Option Value} {I : Nat -> Nat -> Prop} : ∀ {ds : List D} {vs : List Value}, DVl C I ds vs -> ∀ v ∈ vs, v.oneCell' = true
 | [], vs, k, v, hv => by
  obtain rfl : vs = [] := k
  cases hv
 | _ :: _, _, ⟨u, t, rfl, k1, k2⟩, v, hv => by
  rcases List.mem_cons.1 hv with rfl | hv
  ·exact DV_oneCell k1
  ·exact DVl_oneCell k2 v hv
theorem rowsE_sound (hs : Sim G B0 w0 w s M) {t size : Nat} {y : AV} {e : E} {v : Value} (hL : (s.k.shape t).length = size) (h : rowsE s t size y = some e) (hv : VR w s M y v) :
  ∃ rows vs, e.den M.env = .lst rows /\ fitsR s.k.shape rows t /\ DVl (fun b off => w.cell? ⟨b, off, none⟩) (Imm s M) (flat rows) vs /\ vs.length = rows.length * size /\
   (∀ W : World, (Builtin.lenOf v).run P W = .ok rows.length W) /\ (Builtin.firstCells size rows.length v).run P w = .ok vs.toArray w /\ (Builtin.firstCells size rows.length v).run P w.drew = .ok vs.toArray w.drew := by
 unfold rowsE at h
 split at h
 ·rename_i t' e' tok
  split at h
  ·rename_i ht
   cases h
   subst ht
   rcases VR_d hv with ⟨q, a0, c0, rfl⟩ | ⟨rows, b, off, cap, q1, rfl, q3, q4, q5⟩
   ·exact ⟨[], [], q, by unfold fitsR; trivial, rfl, by simp, fun W => by simp [Builtin.lenOf], by cases a0 <;> simp [Builtin.firstCells, loadCells, loadCellsFrom], by cases a0 <;> simp [Builtin.firstCells, loadCells, loadCellsFrom]⟩
   ·obtain ⟨vs, g1, g2⟩ := DVr_vals q4
    have hl : vs.length = rows.length * size := by rw [g1.length, flat_length q5, hL]
    refine ⟨rows, vs, q1, q5, g1, hl, fun W => by simp [Builtin.lenOf], ?_, ?_⟩
    ·exact run_firstCells_some (P := P) w size rows.length ⟨b, off, none⟩ rows.length cap vs hl fun j x hj => by rw [add_eq]; exact g2 j x hj
    ·exact run_firstCells_some (P := P) w.drew size rows.length ⟨b, off, none⟩ rows.length cap vs hl fun j x hj => by rw [add_eq]; exact g2 j x hj
  ·cases h
 ·rename_i e'
  split at h
  ·rename_i hsh
   cases h
   have hsh := of_decide_eq_true hsh
   unfold VR at hv
   obtain ⟨hd, ht⟩ := hv
   obtain ⟨x, rfl⟩ := tyV_s ht
   have hs1 : size = 1 := by rw [<- hL, hsh]; rfl
   subst hs1
   have hden : (E.pr .los [e']).den M.env = .lst (x.data.toList.map fun c => .row [.v (.int .u8 c.toNat)]) := by simp only [E.den, E.denL, Prim.den, hd, D.str]
   have hf : ∀ W : World, (Builtin.firstCells 1 (x.data.toList.map fun c => D.row [.v (.int .u8 c.toNat)]).length (.string x)).run P W = .ok (x.data.toList.map fun c => Value.int .u8 c.toNat).toArray W := by
    intro W
    rw [List.length_map]
    have e1 := extract_map x x.data.toList.length
    rw [List.take_of_length_le (by simp)] at e1
    simp only [Builtin.firstCells, Sem.run_pure]
    rw [e1]
   refine ⟨_, x.data.toList.map fun c => Value.int .u8 c.toNat, hden, ?_, ?_, by simp, fun W => ?_, hf w, hf w.drew⟩
   ·generalize x.data.toList = l
    induction l with
    | nil => simp only [List.map_nil]; unfold fitsR; trivial
    | cons c r ih =>
     simp only [List.map_cons]
     unfold fitsR fitsW
     rw [hsh]
     refine ⟨?_, ih⟩
     unfold fitsC fits fitsC
     exact ⟨rfl, trivial⟩
   ·generalize x.data.toList = l
    induction l with
    | nil => exact rfl
    | cons c r ih =>
     refine ⟨_, _, rfl, ?_, ih⟩
     unfold DV
     exact ⟨rfl, trivial⟩
   ·simp [Builtin.lenOf]
  ·cases h
 ·split at h
  ·rename_i ys n hh
   split at h
   ·rename_i hn
    have hn := nbe hn
    obtain ⟨l, hl, rfl⟩ := Option.map_eq_some_iff.1 h
    obtain ⟨vs, k1, k2, k3, k4⟩ := heldBy_sound (P := P) hs hh hv hn
    obtain ⟨j1, j2, j3⟩ := rowsX_VRl 1000 hl (by rw [hL]; exact hn) k1
    refine ⟨E.denL M.env l, vs, rfl, j2, j1, by rw [<- k1.length, hn, j3], by rw [j3]; exact k2, by rw [j3]; exact k3, by rw [j3]; exact k4⟩
   ·cases h
  ·cases h
theorem ownE_sound (hs : Sim G B0 w0 w s M) {t size : Nat} {x : AV} {e : E} {tk : Nat} {v : Value} (hL : (s.k.shape t).length = size) (h : ownE s t size x = some (e, tk)) (hv : VR w s M x v) :
  ∃ rows ovs tip, e.den M.env = .lst rows /\ fitsR s.k.shape rows t /\ tk < s.n /\ s.get tk = some (.row tip size) /\ tip.val M.env = rows.length * size /\ v = .slice (some ⟨M.blk tk, 0, none⟩) rows.length (M.cap tk) /\
   DVl (fun b off => w.cell? ⟨b, off, none⟩) (Imm s M) (flat rows) ovs /\ (∀ (j : Nat) (q : Value), ovs[j]? = some q -> w.cell? ⟨M.blk tk, j, none⟩ = some q) := by
 unfold ownE at h
 split at h
 ·rename_i t' e' tk'
  split at h
  ·rename_i e2 wd esz hg
   split at h
   ·rename_i ht
    split at h
    ·rename_i hc
     simp only [Option.some.injEq, Prod.mk.injEq] at h
     obtain ⟨rfl, rfl⟩ := h
     subst ht
     simp only [Bool.and_eq_true] at hc
     obtain ⟨⟨⟨c1, c2⟩, c3⟩, c4⟩ := hc
     have c1 := eEq_eq c1
     have c2 := nbe c2
     have c3 := nbe c3
     subst c1 c2 c3
     have c4 := Nat.le_of_ble_eq_true c4
     have hv' := hv
     unfold VR at hv'
     obtain ⟨_, hlt, htok⟩ := hv'.2.2 tk' rfl |>.imp_left id |> fun h => (⟨trivial, h.1, h.2⟩ : True /\ _ /\ _)
     obtain ⟨l, hl⟩ := htok _ _ hg
     rcases VR_d hv with ⟨q, a3, cap3, e3⟩ | ⟨rows, b, off, cap, q1, q2, q3, q4, q5⟩
     ·rw [e3] at hl
      injection hl with e5 e6 e7
      exact ⟨[], [], _, q, by unfold fitsR; trivial, hlt, hg, by simp only [Tip.val, q, D.rows], by rw [e3, e5, e7]; rfl, rfl, fun j q hj => by simp at hj⟩
     ·rw [q2] at hl
      cases hl
      obtain ⟨vs, g1, g2⟩ := DVr_vals q4
      exact ⟨rows, vs, _, q1, q5, hlt, hg, by simp only [Tip.val, q1, D.rows], q2, g1, fun j q hj => by have := g2 j q hj; rw [Nat.zero_add] at this; exact this⟩
    ·cases h
   ·cases h
  ·cases h
 ·rename_i cs len tk'
  split at h
  ·rename_i tip esz hg
   split at h
   ·rename_i hc
    obtain ⟨l, hl, e1⟩ := Option.map_eq_some_iff.1 h
    simp only [Prod.mk.injEq] at e1
    obtain ⟨rfl, rfl⟩ := e1
    simp only [Bool.and_eq_true] at hc
    obtain ⟨⟨⟨c1, c2⟩, c3⟩, c4⟩ := hc
    have c1 := nbe c1
    have c2 := nbe c2
    subst c1 c2
    have c4 := Nat.le_of_ble_eq_true c4
    unfold VR at hv
    obtain ⟨b, off, cap, rfl, hle, hv, htok⟩ := hv
    obtain ⟨hlt, htok⟩ := htok tk' rfl
    obtain ⟨rfl, rfl, rfl⟩ := htok _ _ hg
    obtain ⟨ovs, k1, k2⟩ := (hv.take (len * esz)).vals
    obtain ⟨j1, j2, j3⟩ := rowsX_VRl 1000 hl (by rw [hL, List.length_take]; omega) k1
    refine ⟨E.denL M.env l, ovs, _, rfl, j2, hlt, hg, by rw [j3]; rfl, by rw [j3], j1, fun j q hj => by have := k2 j q hj; rw [Nat.zero_add] at this; exact this⟩
   ·cases h
  ·cases h
 ·cases h
theorem few_sound (hs : Sim G B0 w0 w s M) {bytes : Nat} {e : E} {rows : List D} (he : e.den M.env = .lst rows) (h : few s.k bytes e = true) : tooLong bytes rows.length = false := by
 unfold few at h
 rw [Bool.and_eq_true, Bool.not_eq_true'] at h
 have h1 := fact_of hs h.1
 simp only [E.den, E.denL, Prim.den, lenE, eInt, he] at h1
 have h1 := ofBool_true h1
 have h1 : (rows.length : Int) <= rowMax := by simpa [cmpI, D.int, D.ofInt, D.rows] using h1
 obtain ⟨g1, g2⟩ := tooLong_no h.2
 unfold tooLong
 rw [Bool.or_eq_false_iff, Bool.not_eq_false']
 refine ⟨Nat.ble_eq_true_of_le (Nat.le_trans (Nat.mul_le_mul_right _ (by omega)) g1), nbf (by omega)⟩
theorem s_symAppend {o : Oper} {a : Act} {T : Tm} {c : Go.Call} {t0 t1 e : TypeId} {d1' : TypeDesc} {x y : AV} {ox oy : Operand} {r : AV} {s' : St} (hs : Sim G B0 w0 w s M) (hT : TmR w s M T a) (hop : o.op = .call c) (hc : c.callee = .builtin .append)
  (hA0 : c.argTypes[0]? = some t0) (hA1 : c.argTypes[1]? = some t1) (ht0 : P.underlying t0 = some (.slice e)) (ht1 : P.underlying t1 = some d1') (hd : ∀ k, d1' ≠ .int k)
  (hargs : c.args.toList = [ox, oy]) (hx : opd G T ox = some x) (hy : opd G T oy = some y) (h : symAppend P e s x y = some (r, s')) : OpOk P G B0 w0 w s M o a r s' := by
 have vx := opd_sound hs hT hx
 have vy := opd_sound hs hT hy
 have hargs : c.args = #[ox, oy] := by rw [<- Array.toList_inj, hargs]
 have hargs' : c.args.map a.eval = #[a.eval ox, a.eval oy] := by rw [hargs]; simp
 simp only [symAppend, Option.bind_eq_bind, Option.bind_eq_some_iff] at h
 obtain ⟨size, hsize, bytes, hbytes, z, hz, h⟩ := h
 obtain ⟨zv, hz1, hz2⟩ := zeroCells_some hz
 unfold sizeT at hsize; unfold bytesT at hbytes; unfold zeroT at hz1
 rw [Option.map_eq_some_iff] at hsize hbytes
 rw [Option.bind_eq_some_iff] at hz1
 obtain ⟨i, hi, rfl⟩ := hsize
 obtain ⟨i', hi', rfl⟩ := hbytes
 obtain ⟨i'', hi'', hzv⟩ := hz1
 rw [hi] at hi' hi''; cases hi'; cases hi''
 split at h
 ·cases h
 ·rename_i hcnd
  simp only [Bool.or_eq_true, Bool.not_eq_true', not_or, Bool.not_eq_false, Bool.not_eq_true] at hcnd
  obtain ⟨⟨⟨c1, c2⟩, c3⟩, hroom⟩ := hcnd
  have hL := nbe c1
  have hz3 := nbe c3
  have hi0 : i.size ≠ 0 := fun e => by rw [e] at c2; cases c2
  have hzs : zv.cells.size = i.size := by have := (VRl_scAll (w := w) (s := s) (M := M) hz2).length; rw [hz3] at this; simp at this; exact this.symm
  simp only [Option.bind_eq_some_iff] at h
  obtain ⟨ey, hey, h⟩ := h
  obtain ⟨rows, vs, d1, f1, g1, hvl, hlen, hf1, hf2⟩ := rowsE_sound (P := P) hs hL hey vy
  split at h
  ·-- a nil slice
   split at h
   ·rename_i hfew
    simp only [Option.some.injEq, Prod.mk.injEq] at h
    obtain ⟨rfl, rfl⟩ := h
    have htl := few_sound hs d1 hfew
    have ex := (VR_v.1 vx).1
    rcases Nat.eq_zero_or_pos rows.length with h0 | h0
    ·have hr0 : rows = [] := List.length_eq_zero_iff.1 h0
     subst hr0
     have hrun := run_append_room' (w := w) (w' := w) t0 t1 o.type e c.argTypes hA0 hA1 i _ ht0 ht1 hd hi none 0 0 0 (a.eval oy) vs hlen hf1 (Nat.le_refl _) (fun a h => by cases h) (fun _ => rfl)
     refine ok_here hs (exec_append hop hc (by rw [hargs', ex]; exact hrun)) ?_
     unfold VR
     rw [d1]
     refine ⟨?_, ?_, fun t ht => by cases ht⟩
     ·unfold DV; exact .inl ⟨rfl, _, _, rfl⟩
     ·unfold fits; exact f1
    ·obtain ⟨hb1, hb2⟩ := tooLong_no htl
     have hneed : rows.length <= 2 ^ 47 := by
      have h1 : (2 * rows.length + 2048) * 1 <= (2 * rows.length + 2048) * i.bytes := Nat.mul_le_mul_left _ hb2
      omega
     have hfit : Builtin.nextslicecap (0 + rows.length) 0 * i.bytes <= 281474976710656 := growslice_fits (by omega) (by
      have h1 : (0 + rows.length) * i.bytes <= (2 * rows.length + 2048) * i.bytes := Nat.mul_le_mul_right _ (by omega)
      omega)
     have hrun := run_append_grow' (w := w) t0 t1 o.type e c.argTypes hA0 hA1 i zv _ ht0 ht1 hd hi hzv none 0 0 rows.length (a.eval oy) [] vs hlen (by simp [Builtin.firstCells]) hf2 (by omega) (by omega) hfit
     have hcapge := grownCap_ge w (0 + rows.length) 0 e
     have hB : Below w.heap.size w (w.drew.alloc (.cells (([] : List Value).toArray ++ vs.toArray ++ Builtin.zeroCells zv.cells (grownCap w (0 + rows.length) 0 e - (0 + rows.length))) e)) :=
      (Below.refl _ _).drew.alloc (Nat.le_refl _) _
     obtain ⟨hs2, hE2⟩ := sim_frame hs hB
     refine ok_value (exec_append hop hc (by rw [hargs', ex]; exact hrun)) ?_ hs2 hE2
     unfold VR
     rw [d1]
     refine ⟨?_, ?_, fun t ht => by cases ht⟩
     ·unfold DV
      refine .inr ⟨w.heap.size, 0, grownCap w (0 + rows.length) 0 e, by rw [Nat.zero_add], by have := hcapge; omega, ?_⟩
      refine DVr_of (fun d hd => (fitsR_row f1 d hd).imp fun _ h => h.1) (g1.mono hE2.cells) fun j v hj => ⟨?_, fun i' o' hin _ hbk => ?_, out_new hs (Nat.le_refl _)⟩
      ·have := heap_new w.drew (.cells (([] : List Value).toArray ++ vs.toArray ++ Builtin.zeroCells zv.cells (grownCap w (0 + rows.length) 0 e - (0 + rows.length))) e (0, 0))
       have hsz : w.drew.heap.size = w.heap.size := rfl
       rw [hsz] at this
       simp only [World.cell?, this]
       rw [Nat.zero_add j]
       show (([] : List Value).toArray ++ vs.toArray ++ _)[j]? = some v
       have hjl := (List.getElem?_eq_some_iff.1 hj).1
       rw [Array.getElem?_append_left (by simpa using hjl)]
       simpa using hj
      ·have := (hs.blk i' hin).2
       omega
     ·unfold fits; exact f1
   ·cases h
  ·-- a row of the call's own
   rename_i hno
   obtain ⟨⟨ex, tk⟩, hex, h⟩ := Option.bind_eq_some_iff.1 h
   simp only at h
   split at h
   ·rename_i hfew
    simp only [Option.some.injEq, Prod.mk.injEq] at h
    obtain ⟨rfl, rfl⟩ := h
    obtain ⟨xr, ovs, tip, d2, f2, hlt, hg, htip, evx, g2, hat⟩ := ownE_sound hs hL hex vx
    have dc : (E.pr .cat [ex, ey]).den M.env = .lst (xr ++ rows) := by simp only [E.den, E.denL, Prim.den, d1, d2]; rfl
    have htl := few_sound hs dc hfew
    rw [List.length_append] at htl
    have hovl : ovs.length = xr.length * i.size := by rw [g2.length, flat_length f2, hL]
    obtain ⟨w', M', b, cap, q1, q2, q3, q4, q5, q6, q7⟩ := append_own_core (tip' := .e (.pr .cat [ex, ey]) i.size) hs hop hc hA0 hA1 ht0 ht1 hd hargs hi hzv hzs hlt hg htip (by simp only [Tip.val, dc, D.rows, List.length_append]) hroom evx hat hovl hlen hf1 hf2 hvl (DVl_oneCell g1) htl
    refine ok_value q1 ?_ q2 q3
    unfold VR
    rw [q3.keep.1, dc]
    refine ⟨?_, ?_, fun t ht => ?_⟩
    ·unfold DV
     refine .inr ⟨b, 0, cap, by rw [List.length_append], by rw [List.length_append]; exact q4, ?_⟩
     refine DVr_of (fun d hd => ?_) (by rw [flat_append]; exact (g2.append g1).mono q3.cells) fun j v hj => by rw [Nat.zero_add]; exact q7 j v hj
     exact (fitsR_row (fitsR_append f2 f1) d hd).imp fun _ h => h.1
    ·rw [q3.keep.2.2]; unfold fits; exact fitsR_append f2 f1
    ·cases ht
     exact ⟨by simp [St.new, St.put], fun tip' e' hg' => ⟨xr.length + rows.length, by rw [q5, q6]⟩⟩
   ·cases h

theorem tyT_key {t : TypeId} {kt : Ty} {v : Value} (h : tyT P t = some kt) (hb : kt ≠ .b) (hv : tyV kt v = true) : keyT P t v = true := by
 unfold tyT at h
 unfold keyT
 split at h
 ·rename_i k hu
  cases h
  obtain ⟨i, rfl⟩ := tyV_int hv
  rw [hu]
 ·cases h; exact absurd rfl hb
 ·rename_i hu
  cases h
  obtain ⟨i, rfl⟩ := tyV_s hv
  rw [hu]
 ·cases h
theorem entE_sound {kt ct : Ty} : ∀ {es : List (Value × AV)} {l : List E} {ents : List MapEntry}, entE kt ct es = some l -> MR w s M es ents -> MDr kt ct (E.denL M.env l) ents
 | [], l, ents, h, k => by
  simp only [entE, Option.some.injEq] at h
  subst h
  unfold E.denL
  exact k
 | (x, a) :: r, l, ents, h, k => by
  unfold entE at h
  obtain ⟨e, t', rfl, rfl, k1, k2⟩ := k
  split at h
  ·rename_i t ek u ea rest h1 h2 h3
   split at h
   ·rename_i ht
    split at h
    ·rename_i hu
     cases h
     subst ht hu
     obtain ⟨d2, t2⟩ := toE_sound h2 k1
     have d1 : ek.den M.env = .v e.key /\ tyV t e.key = true := by
      generalize e.key = kk at h1
      cases kk <;> simp only [toE, Option.some.injEq, Prod.mk.injEq, reduceCtorEq] at h1 <;> (obtain ⟨rfl, rfl⟩ := h1; simp [E.den, tyV])
     unfold E.denL
     exact ⟨e, t', rfl, by simp only [E.den, E.denL, Prim.den, d1.1, d2], d1.2, t2, entE_sound h3 k2⟩
    ·cases h
   ·cases h
  ·cases h
theorem mapE_sound (hs : Sim G B0 w0 w s M) {kt ct : Ty} {m : Nat} {e : E} (hm : m < s.n) (h : mapE kt ct (s.get m) = some e) :
  ∃ ents clock rows ob, s.get m = some ob /\ ob.live /\ (∀ tip e, ob ≠ .row tip e) /\ w.heap[M.blk m]? = some (.map ents clock) /\ e.den M.env = .lst rows /\ MDr kt ct rows ents.toList := by
 cases hg : s.get m with
 | none => rw [hg] at h; cases h
 | some ob =>
  rw [hg] at h
  have ho := hs.obj m ob hm hg
  unfold mapE at h
  split at h
  ·rename_i es heq
   cases heq
   obtain ⟨l, hl, rfl⟩ := Option.map_eq_some_iff.1 h
   obtain ⟨ents, clock, a1, a2⟩ := ho
   exact ⟨ents, clock, _, _, rfl, trivial, fun _ _ => by simp, a1, rfl, entE_sound hl a2⟩
  ·rename_i kt' ct' e' heq
   cases heq
   split at h
   ·rename_i h1
    split at h
    ·rename_i h2
     cases h
     subst h1 h2
     obtain ⟨ents, clock, rows, a1, a2, a3⟩ := ho
     exact ⟨ents, clock, rows, _, rfl, trivial, fun _ _ => by simp, a1, a2, a3⟩
    ·cases h
   ·cases h
  ·cases h
theorem same_key {t : TypeId} {d : TypeDesc} {kt : Ty} {k x : Value} (hd : P.underlying t = some d) (ht : tyT P t = some kt) (hb : kt ≠ .b) (hk : tyV kt k = true) (hx : tyV kt x = true) : Instr.sameNow d k x = some (dkeyIs (.v k) (.v x)) := by
 refine sameKey_now hd (tyT_key ht hb hk) ?_
 cases kt with
 | i kk =>
  obtain ⟨i, rfl⟩ := tyV_int hk
  obtain ⟨j, rfl⟩ := tyV_int hx
  simp only [sameKey, dkeyIs, if_true, decide_true, Bool.true_and, Option.some.injEq]
  by_cases h : i = j <;> simp [h]
 | b => exact absurd rfl hb
 | s =>
  obtain ⟨i, rfl⟩ := tyV_s hk
  obtain ⟨j, rfl⟩ := tyV_s hx
  simp only [sameKey, dkeyIs, Option.some.injEq]
  by_cases h : i = j
  ·subst h; simp [(ba_beq _ _).2 rfl]
  ·rw [decide_eq_false h]
   cases hb : (i == j) with
   | false => rfl
   | true => exact absurd ((ba_beq _ _).1 hb) h
theorem mfind_now {t : TypeId} {d : TypeDesc} {kt ct : Ty} {k : Value} (hd : P.underlying t = some d) (ht : tyT P t = some kt) (hb : kt ≠ .b) (hk : tyV kt k = true) : ∀ {rows : List D} {ents : List MapEntry} (i : Nat), MDr kt ct rows ents ->
  (mfind (.v k) rows = none /\ Instr.findNow d k ents i = some none) \/ ∃ j v, mfind (.v k) rows = some (.v v) /\ tyV ct v = true /\ Instr.findNow d k ents i = some (some (j, v))
 | [], ents, i, h => by
  obtain rfl : ents = [] := h
  exact .inl ⟨rfl, rfl⟩
 | _ :: r, _, i, ⟨e, t', rfl, rfl, h1, h2, h3⟩ => by
  have hsk := same_key hd ht hb hk h1
  cases hb' : dkeyIs (.v k) (.v e.key) with
  | true =>
   rw [hb'] at hsk
   exact .inr ⟨i, e.val, by simp [mfind, hb'], h2, by simp [Instr.findNow, hsk]⟩
  | false =>
   rw [hb'] at hsk
   rcases mfind_now hd ht hb hk (i + 1) h3 with ⟨p, q⟩ | ⟨j, v, p, q, q2⟩
   ·exact .inl ⟨by simp [mfind, hb', p], by simp [Instr.findNow, hsk, q]⟩
   ·exact .inr ⟨j, v, by simp [mfind, hb', p], q, by simp [Instr.findNow, hsk, q2]⟩
theorem dkeyIs_eq {k x : Value} (h : dkeyIs (.v k) (.v x) = true) : x = k := by
 unfold dkeyIs at h
 split at h
 ·rename_i e1 e2
  cases e1; cases e2
  rw [Bool.and_eq_true, decide_eq_true_eq, decide_eq_true_eq] at h
  rw [h.1, h.2]
 ·rename_i e1 e2
  cases e1; cases e2
  rw [decide_eq_true_eq] at h
  rw [h]
 ·cases h
theorem mput_now {t : TypeId} {d : TypeDesc} {kt ct : Ty} {k y : Value} {clock : Nat} (hd : P.underlying t = some d) (ht : tyT P t = some kt) (hb : kt ≠ .b) (hk : tyV kt k = true) (hy : tyV ct y = true) : ∀ {rows : List D} {ents : List MapEntry} (i : Nat), MDr kt ct rows ents ->
  (Instr.findNow d k ents i = some none /\ MDr kt ct (mput (.v k) (.v y) rows) (ents ++ [{ key := k, val := y, born := clock }])) \/
  ∃ p v e, Instr.findNow d k ents i = some (some (i + p, v)) /\ ents[p]? = some e /\ e.key = k /\ MDr kt ct (mput (.v k) (.v y) rows) (ents.modify p fun e => { e with key := k, val := y })
 | [], ents, i, h => by
  obtain rfl : ents = [] := h
  exact .inl ⟨rfl, _, [], rfl, rfl, hk, hy, rfl⟩
 | _ :: r, _, i, ⟨e, t', rfl, rfl, h1, h2, h3⟩ => by
  have hsk := same_key hd ht hb hk h1
  cases hb' : dkeyIs (.v k) (.v e.key) with
  | true =>
   rw [hb'] at hsk
   have hek := dkeyIs_eq hb'
   refine .inr ⟨0, e.val, e, by simp [Instr.findNow, hsk], rfl, hek, ?_⟩
   simp only [mput, hb', cond_true]
   exact ⟨_, t', rfl, rfl, hk, hy, h3⟩
  | false =>
   rw [hb'] at hsk
   simp only [mput, hb', cond_false]
   rcases mput_now (clock := clock) hd ht hb hk hy (i + 1) h3 with ⟨p, q⟩ | ⟨p, v, e', q1, q2, q3, q4⟩
   ·exact .inl ⟨by simp [Instr.findNow, hsk, p], ⟨e, _, rfl, rfl, h1, h2, q⟩⟩
   ·refine .inr ⟨p + 1, v, e', ?_, by simpa using q2, q3, ⟨e, _, rfl, rfl, h1, h2, q4⟩⟩
    simp only [Instr.findNow, hsk]
    rw [q1, show i + 1 + p = i + (p + 1) by omega]
theorem mkX_VR (hs : Sim G B0 w0 w s M) {ct : Ty} {e : E} {v : Value} (he : e.den M.env = .v v) (hv : tyV ct v = true) : VR w s M (mkX s.k ct e) v := by
 cases ct with
 | b =>
  obtain ⟨b, rfl⟩ := tyV_b hv
  exact mkB_sound hs he
 | i k => unfold mkX VR; exact ⟨he, hv⟩
 | s => unfold mkX VR; exact ⟨he, hv⟩
theorem desc_of {t : TypeId} {kt : Ty} (h : tyT P t = some kt) : ∃ d, P.underlying t = some d := by
 unfold tyT at h
 split at h <;> first | exact ⟨_, by assumption⟩ | cases h
theorem s_symLookup {o : Oper} {a : Act} {T : Tm} {t : TypeId} {x ix : Operand} {ok : Bool} {c ck r : AV} (hs : Sim G B0 w0 w s M) (hT : TmR w s M T a) (hop : o.op = .lookup t x ix ok) (hx : opd G T x = some c) (hix : opd G T ix = some ck) (h : symLookup P s t c ck ok = some r) : OpOk P G B0 w0 w s M o a r s := by
 have vx := opd_sound hs hT hx
 have vk := opd_sound hs hT hix
 unfold symLookup at h
 split at h
 ·rename_i k e m hu
  split at h
  ·rename_i kt ct kt' ek zv ht hc he hz
   split at h
   ·rename_i hcnd
    simp only [Bool.and_eq_true, decide_eq_true_eq, Bool.not_eq_true', decide_eq_false_iff_not] at hcnd
    obtain ⟨⟨rfl, hb⟩, hzt⟩ := hcnd
    split at h
    ·rename_i em hem
     cases h
     unfold VR at vx
     obtain ⟨hm, ex⟩ := vx
     obtain ⟨ents, clock, rows, ob, _, _, _, h1, h2, h3⟩ := mapE_sound hs hm hem
     obtain ⟨d, hd⟩ := desc_of ht
     obtain ⟨dk, tk⟩ := toE_sound he vk
     have hk := tyT_key ht hb tk
     have hgo : (getObj (M.blk m)).run P w = .ok (.map ents clock) w := by simp [getObj, Sem.run, h1]
     have fin : ∀ (v : Value) (b : Bool), tyV ct v = true -> (mfind (.v (a.eval ix)) rows).isSome = b -> (mfind (.v (a.eval ix)) rows).getD (.v zv) = .v v -> (Instr.lookup t (a.eval x) (a.eval ix) ok).run P w = .ok (if ok then .tuple #[v, .bool b] else v) w ->
       OpOk P G B0 w0 w s M o a (if ok then .tup [mkX s.k ct (.pr .mget [em, ek, .lit zv]), mkB s.k (.pr .mhas [em, ek])] else mkX s.k ct (.pr .mget [em, ek, .lit zv])) s := by
      intro v b q1 q2 q3 hrun
      have g1 : VR w s M (mkX s.k ct (.pr .mget [em, ek, .lit zv])) v := mkX_VR hs (by simp only [E.den, E.denL, Prim.den, h2, dk, D.rows]; exact q3) q1
      have g2 : VR w s M (mkB s.k (.pr .mhas [em, ek])) (.bool b) := mkB_sound hs (by simp only [E.den, E.denL, Prim.den, h2, dk, D.rows, q2])
      refine ok_here hs (v := if ok then .tuple #[v, .bool b] else v) (by simp [execOp, hop, hrun]) ?_
      cases ok with
      | true => exact VR_tup (VRl_cons g1 (VRl_cons g2 VRl_nil))
      | false => exact g1
     rcases mfind_now hd ht hb tk 0 h3 with ⟨p, q⟩ | ⟨j, v, p, p2, q⟩
     ·refine fin zv false hzt (by rw [p]; rfl) (by rw [p]; rfl) ?_
      cases ok <;> simp [Instr.lookup, run_underlying hu, ex, hgo, run_checkKey' hk, Instr.findKey, run_underlying hd, q, run_zeroValue hz]
     ·refine fin v true p2 (by rw [p]; rfl) (by rw [p]; rfl) ?_
      cases ok <;> simp [Instr.lookup, run_underlying hu, ex, hgo, run_checkKey' hk, Instr.findKey, run_underlying hd, q]
    ·cases h
   ·cases h
  ·cases h
 ·cases h
theorem sameBits_key' {t : TypeId} {k : Value} (hk : keyT P t k = true) (n : Nat) : Instr.sameBits n k k = true := sameBits_key hk n
theorem s_symUpdate {o : Oper} {a : Act} {T : Tm} {t : TypeId} {om okx ox : Operand} {c ck y : AV} {s' : St} (hs : Sim G B0 w0 w s M) (hT : TmR w s M T a) (hop : o.op = .mapUpdate t om okx ox \/ o.op = .insert t om okx ox) (hx : opd G T om = some c) (hix : opd G T okx = some ck) (hy : opd G T ox = some y)
  (h : symUpdate P s t c ck y = some s') : OpOk P G B0 w0 w s M o a und s' := by
 have vx := opd_sound hs hT hx
 have vk := opd_sound hs hT hix
 have vy := opd_sound hs hT hy
 unfold symUpdate at h
 split at h
 ·rename_i k e m hu
  split at h
  ·rename_i kt ct kt' ek ct' ey ht hc he hey
   split at h
   ·rename_i hcnd
    simp only [Bool.and_eq_true, decide_eq_true_eq, Bool.not_eq_true', decide_eq_false_iff_not] at hcnd
    obtain ⟨⟨rfl, hb⟩, rfl⟩ := hcnd
    split at h
    ·rename_i em hem
     cases h
     unfold VR at vx
     obtain ⟨hm, ex⟩ := vx
     obtain ⟨ents, clock, rows, ob, hg, hlive, hnr, h1, h2, h3⟩ := mapE_sound hs hm hem
     obtain ⟨d, hd⟩ := desc_of ht
     obtain ⟨dk, tk⟩ := toE_sound he vk
     obtain ⟨dy, ty⟩ := toE_sound hey vy
     have hk := tyT_key ht hb tk
     have hlt := (hs.blk m hm).2
     have hgo : (getObj (M.blk m)).run P w = .ok (.map ents clock) w := by simp [getObj, Sem.run, h1]
     have hso : ∀ ob : Obj, (setObj (M.blk m) ob).run P w = .ok () { w with heap := w.heap.setIfInBounds (M.blk m) ob } := fun ob => by simp [setObj, Sem.run, h1]
     have hh : ∀ ob : Obj, ({ w with heap := w.heap.setIfInBounds (M.blk m) ob } : World).heap[M.blk m]? = some ob := fun ob => by
      show (w.heap.setIfInBounds (M.blk m) ob)[M.blk m]? = some ob
      rw [Array.getElem?_setIfInBounds_self, if_pos hlt]
     have hh2 : ∀ (ob : Obj) k, k ≠ M.blk m -> ({ w with heap := w.heap.setIfInBounds (M.blk m) ob } : World).heap[k]? = w.heap[k]? := fun ob k hk => by
      show (w.heap.setIfInBounds (M.blk m) ob)[k]? = _
      rw [Array.getElem?_setIfInBounds_ne (Ne.symm hk)]
     have fin : ∀ ents' clock', (Instr.mapUpdate t (a.eval om) (a.eval okx) (a.eval ox)).run P w = .ok () { w with heap := w.heap.setIfInBounds (M.blk m) (.map ents' clock') } -> MDr kt ct (mput (.v (a.eval okx)) (.v (a.eval ox)) rows) ents'.toList ->
       OpOk P G B0 w0 w s M o a und (s.put m (.sym (.map kt ct (.pr .mset [em, ek, ey])))) := by
      intro ents' clock' hrun hmr
      have hE : Ext w s M { w with heap := w.heap.setIfInBounds (M.blk m) (.map ents' clock') } (s.put m (.sym (.map kt ct (.pr .mset [em, ek, ey])))) M := ext_write hs hm hg hnr hlive (fun _ _ => by simp) trivial (hh2 _) (by simp)
      refine ok_skip (by rcases hop with hop | hop <;> simp [execOp, hop, hrun]) (sim_write hs hm hg hnr hlive (fun _ _ => by simp) trivial (hh2 _) ?_ (by simp) ⟨ents', clock', _, hh _, by simp only [E.den, E.denL, Prim.den, h2, dk, dy, D.rows], hmr⟩) hE
      exact hs.below.trans ⟨rfl, rfl, rfl, by simp, fun k hk => hh2 _ k (by have := (hs.blk m hm).1; omega)⟩
     rcases mput_now (clock := clock) hd ht hb tk ty 0 h3 with ⟨q1, q2⟩ | ⟨p, v, e', q1, q2, q3, q4⟩
     ·refine fin (ents.push { key := a.eval okx, val := a.eval ox, born := clock }) (clock + 1) ?_ (by simpa using q2)
      simp [Instr.mapUpdate, run_underlying hu, ex, hgo, run_checkKey' hk, Instr.findKey, run_underlying hd, q1, hso]
     ·refine fin (ents.modify p fun e => { e with key := a.eval okx, val := a.eval ox }) clock ?_ (by simpa using q4)
      have hkk : (((ents[p]?).map (·.key)).getD (a.eval okx)) = a.eval okx := by rw [<- Array.getElem?_toList, q2]; exact q3
      have hst : (Instr.keyThatStays (a.eval okx) (a.eval okx)).run P w = .ok (a.eval okx) w := by unfold Instr.keyThatStays; rw [sameBits_key' hk]; rfl
      simp [Instr.mapUpdate, run_underlying hu, ex, hgo, run_checkKey' hk, Instr.findKey, run_underlying hd, q1, hkk, hst, hso]
    ·cases h
   ·cases h
  ·cases h
 ·cases h
theorem MDr_len {kt ct : Ty} : ∀ {rows : List D} {ents : List MapEntry}, MDr kt ct rows ents -> ents.length = rows.length
 | [], _, h => by obtain rfl : _ = [] := h; rfl
 | _ :: _, _, ⟨_, _, rfl, _, _, _, h⟩ => by rw [List.length_cons, List.length_cons, MDr_len h]
theorem s_symLen {o : Oper} {a : Act} {T : Tm} {c : Go.Call} {t0 k e : TypeId} {ox : Operand} {m : Nat} {kt ct : Ty} {em : E} (hs : Sim G B0 w0 w s M) (hT : TmR w s M T a) (hop : o.op = .call c) (hc : c.callee = .builtin .len) (hA0 : c.argTypes[0]? = some t0)
  (hargs : c.args.toList = [ox]) (hx : opd G T ox = some (.mp m)) (hg : s.get m = some (.sym (.map kt ct em))) (hd : P.underlying t0 = some (.map k e)) : OpOk P G B0 w0 w s M o a (.x (.i .i64) (lenE em)) s := by
 have vx := opd_sound hs hT hx
 unfold VR at vx
 obtain ⟨hm, ex⟩ := vx
 obtain ⟨ents, clock, rows, h1, h2, h3⟩ := hs.obj m _ hm hg
 have hargs' : c.args.map a.eval = #[a.eval ox] := by rw [<- Array.toList_inj, Array.toList_map, hargs]; rfl
 have hgo : (getObj (M.blk m)).run P w = .ok (.map ents clock) w := by simp [getObj, Sem.run, h1]
 have hl : ents.size = rows.length := by rw [<- MDr_len h3]; simp
 have key : (Builtin.len_ c.argTypes o.type (c.args.map a.eval)).run P w = .ok (goInt ents.size) w := by
  unfold Builtin.len_
  rw [hA0, hargs', ex]
  simp [run_underlying hd, hgo]
 refine ok_here hs (v := goInt ents.size) ?_ ?_
 ·simp [execOp, hop, resolve, hc, invoke, builtin, key]
 ·unfold VR
  refine ⟨?_, rfl⟩
  simp only [lenE, E.den, E.denL, Prim.den, h2, hl]
  rfl

theorem bytesE_of : ∀ {cs : List AV} {es : List E} {vs : List Value}, bytesE cs = some es -> VRl w s M cs vs -> ∃ ns : List Int, vs = ns.map (Value.int .u8) /\ E.denL M.env es = ns.map fun n => D.v (.int .u8 n)
 | [], es, vs, h, k => by
  unfold bytesE at h; cases h
  unfold VRl at k; subst k
  exact ⟨[], rfl, rfl⟩
 | c :: r, es, vs, h, k => by
  unfold VRl at k; obtain ⟨v, t, rfl, k1, k2⟩ := k
  unfold bytesE at h
  split at h
  ·rename_i e l h1 h2
   cases h
   obtain ⟨g1, g2⟩ := toE_sound h1 k1
   obtain ⟨z, rfl⟩ := tyV_int g2
   obtain ⟨ns, rfl, hd⟩ := bytesE_of h2 k2
   exact ⟨z :: ns, rfl, by simp only [E.denL, g1, hd, List.map_cons]⟩
  ·cases h
theorem s_bytes_sym {o : Oper} {a : Act} {T : Tm} {src dst e : TypeId} {x : Operand} {cs cs0 : List AV} {n len : Nat} {tok : Option Nat} {es : List E} (hs : Sim G B0 w0 w s M) (hT : TmR w s M T a) (hop : o.op = .convert src dst x) (h1 : P.underlying src = some (.slice e))
  (h2 : P.underlying dst = some .string) (h3 : P.underlying e = some (.int .u8)) (hx : opd G T x = some (.sl cs0 len tok)) (hh : heldBy s 1 (.sl cs0 len tok) = some (cs, n)) (hb : bytesE cs = some es) :
  OpOk P G B0 w0 w s M o a (.x .s (.pr .sofb es)) s := by
 have vx := opd_sound hs hT hx
 have hl : cs.length = n * 1 := by
  simp only [heldBy] at hh
  split at hh
  ·rename_i hle; simp only [Option.some.injEq, Prod.mk.injEq] at hh; obtain ⟨rfl, rfl⟩ := hh
   have := Nat.le_of_ble_eq_true hle; rw [List.length_take]; omega
  ·cases hh
 obtain ⟨vs, hvs, hlen, hf, _⟩ := heldBy_sound (P := P) hs hh vx hl
 obtain ⟨ns, rfl, hd⟩ := bytesE_of hb hvs
 have key : ∃ b off cap, a.eval x = .slice (some ⟨b, off, none⟩) n cap := by
  unfold VR at vx; obtain ⟨b, off, cap, e1, _⟩ := vx
  have := hlen w; rw [e1] at this; simp [Builtin.lenOf] at this; subst this
  exact ⟨b, off, cap, e1⟩
 obtain ⟨b, off, cap, e1⟩ := key
 rw [e1] at hf
 simp only [Builtin.firstCells, Nat.mul_one] at hf
 refine ok_here hs (v := .string (ns.foldl (fun r n => r.push (UInt8.ofNat n.toNat)) .empty)) (by
  simp only [execOp, hop, Sem.run_bind, e1, run_convert_bytes_string w src dst e _ _ _ h1 h3 h2, run_bytesToString w _ n cap ns hf, Result.andThen_ok, Sem.run_pure]) ?_
 unfold VR
 refine ⟨?_, rfl⟩
 simp only [E.den, hd, Prim.den, List.foldl_map]
 rfl
theorem litOf_sound (hs : Sim G B0 w0 w s M) {kd : IntKind} {e : E} {n i : Nat} {v : Value} (h : litOf s.k kd e n = some i) (hv : VR w s M (.x (.i kd) e) v) : v = .int kd i := by
 have h1 := List.find?_some h
 have h2 := fact_of hs h1
 unfold VR at hv
 obtain ⟨g1, g2⟩ := hv
 obtain ⟨z, rfl⟩ := tyV_int g2
 simp only [E.den, E.denL, Prim.den, g1] at h2
 have h3 := ofBool_true h2
 have h4 : z = (i : Int) := by simpa [cmpI, D.int] using h3
 rw [h4]
theorem evSym0_sound {o : Oper} {a : Act} {T : Tm} {x : AV} {s' : St} (hs : Sim G B0 w0 w s M) (hT : TmR w s M T a) (h : evSym0 P G o T s = some (x, s')) : OpOk P G B0 w0 w s M o a x s' := by
 unfold evSym0 at h
 split at h
 ·rename_i src dst y hop
  split at h
  ·rename_i e g1 g2
   split at h
   ·rename_i g3
    simp only [Option.bind_eq_bind, Option.bind_eq_some_iff] at h
    obtain ⟨c, h1, h⟩ := h
    split at h
    ·simp only [Option.bind_eq_some_iff, Option.pure_def, Option.some.injEq, Prod.mk.injEq] at h
     obtain ⟨p, h2, es, h3, rfl, rfl⟩ := h
     exact s_bytes_sym hs hT hop g1 g2 g3 h1 (by rw [h2]) h3
    ·cases h
   ·cases h
  ·cases h
 ·rename_i t y ix hop
  split at h
  ·rename_i el hu
   simp only [Option.bind_eq_bind, Option.bind_eq_some_iff] at h
   obtain ⟨v, h1, c, h2, size, h3, h⟩ := h
   split at h
   ·simp only [Option.bind_eq_some_iff] at h
    obtain ⟨i, h4, h⟩ := h
    split at h
    ·rename_i hlt
     simp only [Option.pure_def, Option.some.injEq, Prod.mk.injEq] at h
     obtain ⟨rfl, rfl⟩ := h
     exact s_indexAddrV hs hT hop (litOf_sound hs h4 (opd_sound hs hT h1)) (Int.natCast_nonneg _) (Int.toNat_natCast _) h3 h2 (.inl ⟨hu, .inl ⟨_, _, _, rfl, Nat.le_of_ble_eq_true hlt, rfl⟩⟩)
    ·cases h
   ·simp only [Option.bind_eq_some_iff] at h
    obtain ⟨i, h4, h⟩ := h
    split at h
    ·rename_i hlt
     simp only [Option.pure_def, Option.some.injEq, Prod.mk.injEq] at h
     obtain ⟨rfl, rfl⟩ := h
     exact s_indexAddrV hs hT hop (litOf_sound hs h4 (opd_sound hs hT h1)) (Int.natCast_nonneg _) (Int.toNat_natCast _) h3 h2 (.inl ⟨hu, .inr (.inl ⟨_, _, _, rfl, Nat.le_of_ble_eq_true hlt, rfl⟩)⟩)
    ·cases h
   ·simp only [Option.bind_eq_some_iff] at h
    obtain ⟨i, h4, h⟩ := h
    split at h
    ·rename_i hlt
     simp only [Option.pure_def, Option.some.injEq, Prod.mk.injEq] at h
     obtain ⟨rfl, rfl⟩ := h
     exact s_indexAddrV hs hT hop (litOf_sound hs h4 (opd_sound hs hT h1)) (Int.natCast_nonneg _) (Int.toNat_natCast _) h3 h2 (.inl ⟨hu, .inr (.inr ⟨_, _, rfl, Nat.le_of_ble_eq_true hlt, rfl⟩)⟩)
    ·cases h
   ·cases h
  ·rename_i len el hu
   simp only [Option.bind_eq_bind, Option.bind_eq_some_iff] at h
   obtain ⟨v, h1, c, h2, size, h3, h⟩ := h
   split at h
   ·simp only [Option.bind_eq_some_iff] at h
    obtain ⟨i, h4, h⟩ := h
    split at h
    ·rename_i hlt
     simp only [Option.pure_def, Option.some.injEq, Prod.mk.injEq] at h
     obtain ⟨rfl, rfl⟩ := h
     exact s_indexAddrV hs hT hop (litOf_sound hs h4 (opd_sound hs hT h1)) (Int.natCast_nonneg _) (Int.toNat_natCast _) h3 h2 (.inr ⟨_, hu, Nat.le_of_ble_eq_true hlt, .inl ⟨_, rfl, rfl⟩⟩)
    ·cases h
   ·simp only [Option.bind_eq_some_iff] at h
    obtain ⟨i, h4, h⟩ := h
    split at h
    ·rename_i hlt
     simp only [Option.pure_def, Option.some.injEq, Prod.mk.injEq] at h
     obtain ⟨rfl, rfl⟩ := h
     exact s_indexAddrV hs hT hop (litOf_sound hs h4 (opd_sound hs hT h1)) (Int.natCast_nonneg _) (Int.toNat_natCast _) h3 h2 (.inr ⟨_, hu, Nat.le_of_ble_eq_true hlt, .inr ⟨_, _, rfl, rfl⟩⟩)
    ·cases h
   ·cases h
  ·cases h
 ·rename_i t y ix ok hop
  simp only [Option.bind_eq_bind, Option.bind_eq_some_iff, Option.pure_def, Option.some.injEq, Prod.mk.injEq] at h
  obtain ⟨c, h1, i, h2, r, h3, rfl, rfl⟩ := h
  exact s_symLookup hs hT hop h1 h2 h3
 ·rename_i t m k y hop
  simp only [Option.bind_eq_bind, Option.bind_eq_some_iff, Option.pure_def, Option.some.injEq, Prod.mk.injEq] at h
  obtain ⟨c, h1, i, h2, r, h3, s2, h4, rfl, rfl⟩ := h
  exact s_symUpdate hs hT (.inl hop) h1 h2 h3 h4
 ·rename_i t m k y hop
  simp only [Option.bind_eq_bind, Option.bind_eq_some_iff, Option.pure_def, Option.some.injEq, Prod.mk.injEq] at h
  obtain ⟨c, h1, i, h2, r, h3, s2, h4, rfl, rfl⟩ := h
  exact s_symUpdate hs hT (.inr hop) h1 h2 h3 h4
 ·rename_i c hop
  split at h
  ·rename_i hc
   simp only [Option.bind_eq_bind, Option.bind_eq_some_iff] at h
   obtain ⟨t0, h1, t1, h2, h⟩ := h
   split at h
   ·rename_i e el1 ox oy hu hu1 hargs
    simp only [Option.bind_eq_some_iff] at h
    obtain ⟨p, h3, q, h4, h⟩ := h
    exact s_symAppend hs hT hop hc h1 h2 hu hu1 (fun k => by simp) hargs h3 h4 h
   ·cases h
  ·rename_i hc
   simp only [Option.bind_eq_bind, Option.bind_eq_some_iff] at h
   obtain ⟨t0, h1, h⟩ := h
   split at h
   ·rename_i k e ox hu hargs
    simp only [Option.bind_eq_some_iff] at h
    obtain ⟨p, h3, h⟩ := h
    split at h
    ·split at h
     ·rename_i kt ct em hg
      simp only [Option.pure_def, Option.some.injEq, Prod.mk.injEq] at h
      obtain ⟨rfl, rfl⟩ := h
      exact s_symLen hs hT hop hc h1 hargs h3 hg hu
     ·cases h
    ·cases h
   ·cases h
  ·cases h
 ·cases h
end
end Go.Ab
/- The evaluator's operations against the model's: arrays of rows that are written. -/
namespace Go.Ab
open Go Go.RowKit

section
variable {C : Nat -> Nat -> Option Value} {I : Nat -> Nat -> Prop}
theorem DVl.split : ∀ {as bs : List D} {vs : List Value}, DVl C I (as ++ bs) vs -> DVl C I as (vs.take as.length) /\ DVl C I bs (vs.drop as.length)
 | [], bs, vs, k => ⟨by simp only [List.length_nil, List.take_zero]; exact rfl, by simpa using k⟩
 | a :: as, bs, _, ⟨v, t, rfl, k1, k2⟩ => by
  obtain ⟨g1, g2⟩ := DVl.split k2
  exact ⟨⟨v, _, rfl, k1, g1⟩, by simpa using g2⟩
end
section
variable [Interp]
theorem isLit0_den {e : E} {env : Nat -> D} (h : isLit0 e = true) : e.den env = .v (.int .i64 0) := by
 unfold isLit0 at h; rw [eEq_eq h]; rfl
theorem denL_length {env : Nat -> D} : ∀ (l : List E), (E.denL env l).length = l.length
 | [] => rfl
 | _ :: r => by unfold E.denL; rw [List.length_cons, List.length_cons, denL_length r]
theorem lenF_den {env : Nat -> D} : ∀ (n : Nat) (e : E), (lenF n e).den env = .v (.int .i64 (e.den env).rows.length)
 | 0, e => rfl
 | n + 1, e => by
  unfold lenF
  split
  ·rename_i l i x
   rw [lenF_den n l]
   simp only [E.den, E.denL, Prim.den, D.rows, List.length_set]
  ·rename_i l
   simp only [eInt, E.den, Prim.den, D.rows, denL_length]
  ·rename_i m x
   simp only [eInt, E.den, E.denL, Prim.den, D.rows, D.int, List.length_replicate]
   rfl
  ·rfl
theorem lenN_den {env : Nat -> D} (e : E) : (lenN e).den env = .v (.int .i64 (e.den env).rows.length) := lenF_den _ e
variable {tb : Nat -> List CT} {C : Nat -> Nat -> Option Value} {I : Nat -> Nat -> Prop}
theorem flat_get {t L : Nat} (hL : (tb t).length = L) : ∀ {rows : List D} {vs : List Value}, fitsR tb rows t -> DVl C I (flat rows) vs -> ∀ (i : Nat) (d : D), rows[i]? = some d -> ∃ cs, d = .row cs /\ fitsC tb cs (tb t) /\ DVl C I cs ((vs.drop (i * L)).take L)
 | [], _, _, _, i, d, h => by simp at h
 | x :: r, vs, hf, hd, i, d, h => by
  obtain ⟨cs, rfl, hc⟩ := fitsR_row hf x (List.mem_cons_self ..)
  unfold fitsR at hf
  have hl : cs.length = L := (fitsC_get hc).1.trans hL
  obtain ⟨g1, g2⟩ := DVl.split (as := cs) (bs := flat r) hd
  rw [hl] at g1 g2
  cases i with
  | zero =>
   simp only [List.getElem?_cons_zero, Option.some.injEq] at h
   subst h
   exact ⟨cs, rfl, hc, by simpa using g1⟩
  | succ i =>
   obtain ⟨cs', e1, e2, e3⟩ := flat_get hL hf.2 g2 i d (by simpa using h)
   refine ⟨cs', e1, e2, ?_⟩
   rw [List.drop_drop] at e3
   rw [show (i + 1) * L = L + i * L by rw [Nat.add_mul]; omega]; exact e3
theorem flat_set {t L : Nat} (hL : (tb t).length = L) {cs : List D} (hcs : fitsC tb cs (tb t)) {us : List Value} (hu : DVl C I cs us) : ∀ {rows : List D} {vs : List Value} (i : Nat), i < rows.length -> fitsR tb rows t -> DVl C I (flat rows) vs ->
  fitsR tb (rows.set i (.row cs)) t /\ DVl C I (flat (rows.set i (.row cs))) (vs.take (i * L) ++ us ++ vs.drop (i * L + L))
 | [], _, i, h, _, _ => by simp at h
 | x :: r, vs, i, h, hf, hd => by
  obtain ⟨ds, rfl, hc⟩ := fitsR_row hf x (List.mem_cons_self ..)
  unfold fitsR at hf
  have hl : ds.length = L := (fitsC_get hc).1.trans hL
  obtain ⟨g1, g2⟩ := DVl.split (as := ds) (bs := flat r) hd
  rw [hl] at g1 g2
  cases i with
  | zero =>
   refine ⟨by rw [List.set_cons_zero]; unfold fitsR; exact ⟨by unfold fitsW; exact hcs, hf.2⟩, ?_⟩
   rw [List.set_cons_zero]
   show DVl C I (cs ++ flat r) _
   simp only [Nat.zero_mul, List.take_zero, List.nil_append, Nat.zero_add]
   exact hu.append g2
  | succ i =>
   obtain ⟨k1, k2⟩ := flat_set hL hcs hu (rows := r) i (by simpa using h) hf.2 g2
   refine ⟨by rw [List.set_cons_succ]; unfold fitsR; exact ⟨hf.1, k1⟩, ?_⟩
   rw [List.set_cons_succ]
   show DVl C I (ds ++ flat (r.set i (.row cs))) _
   have := g1.append k2
   rw [List.drop_drop, List.take_drop] at this
   have e1 : (i + 1) * L = L + i * L := by rw [Nat.add_mul]; omega
   have e2 : vs.take L ++ ((vs.take (L + i * L)).drop L ++ us ++ vs.drop (L + (i * L + L))) = vs.take ((i + 1) * L) ++ us ++ vs.drop ((i + 1) * L + L) := by
    rw [e1, Nat.add_assoc]
    have e3 : vs.take L = (vs.take (L + i * L)).take L := by rw [List.take_take, Nat.min_eq_left (by omega)]
    rw [e3, <- List.append_assoc, <- List.append_assoc, List.take_append_drop]
   rw [<- e2]; exact this
end

theorem fitsC_len {tb : Nat -> List CT} : ∀ {cs : List D} {ct : List CT}, fitsC tb cs ct -> cs.length = ct.length
 | [], [], _ => rfl
 | d :: r, c :: t, h => by
  unfold fitsC at h
  rw [List.length_cons, List.length_cons, fitsC_len h.2]
 | [], _ :: _, h => by unfold fitsC at h; exact h.elim
 | _ :: _, [], h => by unfold fitsC at h; exact h.elim
theorem DVr_drop {tb : Nat -> List CT} {C : Nat -> Nat -> Option Value} {I : Nat -> Nat -> Prop} {rt L : Nat} (hL : (tb rt).length = L) : ∀ {rows : List D} {b off : Nat}, fitsR tb rows rt -> DVr C I rows b off -> ∀ l, DVr C I (rows.drop l) b (off + l * L)
 | rows, b, off, _, h, 0 => by rw [List.drop_zero, Nat.zero_mul, Nat.add_zero]; exact h
 | [], b, off, _, h, l + 1 => by rw [List.drop_nil]; unfold DVr; trivial
 | d :: r, b, off, hf, h, l + 1 => by
  unfold fitsR at hf
  unfold DVr at h
  rw [List.drop_succ_cons]
  obtain ⟨h1, h2⟩ := hf
  have hc : d.cells.length = L := by
   cases d with
   | row cs => unfold fitsW at h1; rw [<- hL]; exact fitsC_len h1
   | v _ => unfold fitsW at h1; exact h1.elim
   | nil => unfold fitsW at h1; exact h1.elim
   | lst _ => unfold fitsW at h1; exact h1.elim
  have := DVr_drop hL h2 h.2 l
  rw [hc] at this
  rw [show off + (l + 1) * L = off + L + l * L by rw [Nat.add_mul, Nat.one_mul]; omega]
  exact this
theorem DVr_take {C : Nat -> Nat -> Option Value} {I : Nat -> Nat -> Prop} : ∀ {rows : List D} {b off : Nat}, DVr C I rows b off -> ∀ l, DVr C I (rows.take l) b off
 | [], b, off, h, l => by rw [List.take_nil]; exact h
 | d :: r, b, off, h, 0 => by rw [List.take_zero]; unfold DVr; trivial
 | d :: r, b, off, h, l + 1 => by
  rw [List.take_succ_cons]
  unfold DVr at h ⊢
  exact ⟨h.1, DVr_take h.2 l⟩
theorem fitsR_mem {tb : Nat -> List CT} {rt : Nat} : ∀ {rows : List D}, fitsR tb rows rt ↔ ∀ d, d ∈ rows -> fitsW tb d rt
 | [] => by unfold fitsR; simp
 | d :: r => by unfold fitsR; rw [fitsR_mem]; simp
theorem fitsR_sub {tb : Nat -> List CT} {rt : Nat} {rows : List D} (h : fitsR tb rows rt) (l n : Nat) : fitsR tb ((rows.take n).drop l) rt :=
 fitsR_mem.2 fun d hd => fitsR_mem.1 h d (List.mem_of_mem_take (List.mem_of_mem_drop hd))
theorem DVr_sub {tb : Nat -> List CT} {C : Nat -> Nat -> Option Value} {I : Nat -> Nat -> Prop} {rt L : Nat} (hL : (tb rt).length = L) {rows : List D} {b off : Nat} (hf : fitsR tb rows rt) (h : DVr C I rows b off) (l n : Nat) : DVr C I ((rows.take n).drop l) b (off + l * L) :=
 DVr_drop hL (fitsR_sub (l := 0) hf n |> fun h => by rw [List.drop_zero] at h; exact h) (DVr_take h n) l
section
variable [Interp] {P : Program} {G : Nat -> Option (List AV)} {B0 : Nat} {w0 w : World} {s : St} {M : Mp}
theorem belowN_sound (hs : Sim G B0 w0 w s M) {a b : E} (h : belowN s.k a b = true) : (a.den M.env).int < (b.den M.env).int := by
 unfold belowN at h
 rw [Bool.or_eq_true] at h
 rcases h with h | h
 ·exact below_sound hs h
 ·split at h
  ·rename_i i j h1 h2
   rw [litI_den h1, litI_den h2]
   exact of_decide_eq_true h
  ·cases h
theorem upToN_sound (hs : Sim G B0 w0 w s M) {a b : E} (h : upToN s.k a b = true) : (a.den M.env).int <= (b.den M.env).int := by
 unfold upToN at h
 rw [Bool.or_eq_true] at h
 rcases h with h | h
 ·exact upTo_sound hs h
 ·split at h
  ·rename_i i j h1 h2
   rw [litI_den h1, litI_den h2]
   exact of_decide_eq_true h
  ·cases h
theorem fewE_sound (hs : Sim G B0 w0 w s M) {e : E} (h : fewE s.k e = true) : (e.den M.env).int <= rowMax := by
 unfold fewE at h
 rw [Bool.or_eq_true] at h
 rcases h with h | h
 ·split at h
  ·rename_i i h1
   rw [litI_den h1]
   exact of_decide_eq_true h
  ·cases h
 ·have h1 := fact_of hs h
  simp only [E.den, E.denL, Prim.den, eInt] at h1
  have h1 := ofBool_true h1
  exact of_decide_eq_true h1
theorem enOk_sound (hs : Sim G B0 w0 w s M) {en e : E} {m : Nat} (h : enOk s.k en e = true) (hd : en.den M.env = .v (.int .i64 m)) : m = (e.den M.env).rows.length := by
 unfold enOk at h
 rw [Bool.or_eq_true] at h
 rcases h with h | h
 ·rw [eEq_eq h, lenN_den] at hd
  injection hd with hd
  injection hd with _ hd
  omega
 ·have h2 := fact_of hs h
  simp only [E.den, E.denL, lenN_den, hd, Prim.den] at h2
  have h3 := ofBool_true h2
  have h4 : (m : Int) = (((e.den M.env).rows.length : Nat) : Int) := by simpa [cmpI, D.int] using h3
  omega
theorem int64E_sound {a : AV} {e : E} {v : Value} (h : int64E a = some e) (k : VR w s M a v) : ∃ i, v = .int .i64 i /\ e.den M.env = .v (.int .i64 i) := by
 unfold int64E at h
 split at h
 ·rename_i e' h1
  cases h
  obtain ⟨d1, t1⟩ := toE_sound h1 k
  obtain ⟨i, rfl⟩ := tyV_int t1
  exact ⟨i, rfl, d1⟩
 ·cases h
theorem intE_sound {a : AV} {e : E} {v : Value} (h : intE a = some e) (k : VR w s M a v) : ∃ kd i, v = .int kd i /\ e.den M.env = .v (.int kd i) := by
 unfold intE at h
 split at h
 ·rename_i kd e' h1
  cases h
  obtain ⟨d1, t1⟩ := toE_sound h1 k
  obtain ⟨i, rfl⟩ := tyV_int t1
  exact ⟨_, i, rfl, d1⟩
 ·cases h
theorem bndA_sound (hs : Sim G B0 w0 w s M) {T : Tm} {a : Act} (hT : TmR w s M T a) {x : Option Operand} {c : Option AV} {d e : E} {m : Nat} (ho : opdO G T x = some c) (h : bndA d c = some e) (hd : d.den M.env = .v (.int .i64 m)) (h0 : 0 <= (e.den M.env).int) :
  ∃ n : Nat, e.den M.env = .v (.int .i64 n) /\ Bd (x.map a.eval) m n := by
 cases x with
 | none =>
  simp only [opdO, Option.some.injEq] at ho
  subst ho
  simp only [bndA, Option.some.injEq] at h
  subst h
  exact ⟨m, hd, .inl ⟨rfl, rfl⟩⟩
 | some x =>
  simp only [opdO, Option.map_eq_some_iff] at ho
  obtain ⟨c', h1, rfl⟩ := ho
  simp only [bndA] at h
  obtain ⟨i, h2, h3⟩ := int64E_sound h (opd_sound hs hT h1)
  rw [h3] at h0
  have h0 : 0 <= i := h0
  refine ⟨i.toNat, by rw [h3]; congr 2; omega, .inr ⟨.i64, i, by simp [h2], h0, rfl⟩⟩
theorem s_arAt {o : Oper} {a : Act} {T : Tm} {t : TypeId} {x ix : Operand} {c v r : AV} (hs : Sim G B0 w0 w s M) (hT : TmR w s M T a) (hop : o.op = .indexAddr t x ix) (hx : opd G T x = some c) (hi : opd G T ix = some v) (h : arAt P s t c v = some r) : OpOk P G B0 w0 w s M o a r s := by
 have hv := opd_sound hs hT hx
 have hiv := opd_sound hs hT hi
 unfold arAt at h
 split at h
 ·rename_i i he
  obtain ⟨kd, j, ej, dj⟩ := intE_sound he hiv
  split at h
  ·rename_i el hu
   split at h
   ·rename_i size hn
    split at h
    ·rename_i b off en wh wd
     split at h
     ·rename_i hc
      cases h
      simp only [Bool.and_eq_true] at hc
      obtain ⟨⟨⟨c1, c2⟩, c3⟩, c4⟩ := hc
      have c1 := isLit0_den (env := M.env) c1
      have c2 := nbe c2
      subst c2
      have g1 := nonNeg_sound hs c3
      have g2 := belowN_sound hs c4
      unfold VR at hv
      obtain ⟨hb, n, n', m, cap, d1, d2, ev, hle, hn', _⟩ := hv
      rw [c1] at d1
      cases d1
      rw [dj] at g1 g2
      rw [d2] at g2
      have g1 : 0 <= j := g1
      have g2 : j < ((0 + m : Nat) : Int) := g2
      rw [Nat.zero_add] at g2
      have hn0 : n' = 0 := hn' (by omega)
      subst hn0
      refine ok_here hs (v := .pointer (some ⟨M.blk b, j.toNat * wd, none⟩)) ?_ ?_
      ·simp [execOp, hop, Instr.indexAt, ej, asIntOf, run_underlying hu, ev, g1, g2, run_sizeOf hn, add_eq]
      ·unfold VR
       exact ⟨hb, j.toNat, by rw [dj]; show j = _; omega, rfl⟩
     ·cases h
    ·cases h
   ·cases h
  ·rename_i n el hu
   split at h
   ·rename_i size hn
    split at h
    ·rename_i b
     split at h
     ·split at h
      ·rename_i hc
       cases h
       rw [Bool.and_eq_true] at hc
       have g1 := nonNeg_sound hs hc.1
       have g2 := belowN_sound hs hc.2
       rw [dj] at g1 g2
       have g1 : 0 <= j := g1
       have g2 : j < (n : Int) := g2
       unfold VR at hv
       obtain ⟨hb, ev⟩ := hv
       refine ok_here hs (v := .pointer (some ⟨M.blk b, j.toNat * size, none⟩)) ?_ ?_
       ·simp [execOp, hop, Instr.indexAt, ej, asIntOf, run_underlying hu, ev, Instr.sureAddr, g1, g2, run_sizeOf hn, add_eq]
       ·unfold VR
        exact ⟨hb, j.toNat, by rw [dj]; show j = _; omega, rfl⟩
      ·cases h
     ·cases h
    ·cases h
   ·cases h
  ·cases h
 ·cases h
theorem loadRow_take {t rt : Nat} {e : E} {off : Nat} {r : AV} {k : Kn} (hl : loadRow P k t rt e off = some r) : takeT P t (cellsA e off ((k.shape rt).drop off)) = some r := by
 simp only [loadRow, Option.bind_eq_bind, Option.bind_eq_some_iff] at hl
 obtain ⟨g, h1, hl⟩ := hl
 unfold takeT
 simp only [h1, Option.bind_eq_bind, Option.bind_some]
 cases g with
 | true =>
  simp only [if_true, Option.bind_eq_some_iff] at hl ⊢
  obtain ⟨n, h2, hl⟩ := hl
  refine ⟨n, h2, ?_⟩
  split at hl
  ·rename_i hc
   cases hl
   have hc := Nat.le_of_ble_eq_true hc
   rw [if_pos (Nat.ble_eq_true_of_le (by rw [cellsA_length, List.length_drop]; omega)), cellsA_take]
  ·cases hl
 | false =>
  simp only [Bool.false_eq_true, if_false, Option.bind_eq_some_iff, Option.pure_def, Option.some.injEq] at hl ⊢
  obtain ⟨c, h2, rfl⟩ := hl
  have hlt := (List.getElem?_eq_some_iff.1 h2).1
  rw [List.drop_eq_getElem_cons hlt]
  unfold cellsA
  rw [List.getElem?_eq_getElem hlt, Option.some.injEq] at h2
  rw [h2]; rfl
theorem dvl_VRl {e : E} {cs : List D} (he : e.den M.env = .row cs) : ∀ {ct : List CT} {ds : List D} {vs : List Value} {j : Nat}, ds = cs.drop j -> fitsC s.k.shape ds ct -> DVl (fun b off => w.cell? ⟨b, off, none⟩) (Imm s M) ds vs -> VRl w s M (cellsA e j ct) vs
 | [], [], vs, j, _, _, h => by
  obtain rfl : vs = [] := h
  exact VRl_nil
 | c :: ct, d :: ds, _, j, hds, hf, ⟨v, t, rfl, h1, h2⟩ => by
  unfold fitsC at hf
  have hj : cs[j]? = some d := by
   have := congrArg (·[0]?) hds
   simp only [List.getElem?_cons_zero, List.getElem?_drop, Nat.add_zero] at this
   exact this.symm
  unfold cellsA
  refine VRl_cons (cellA_VR he hj hf.1 h1) (dvl_VRl he (j := j + 1) ?_ hf.2 h2)
  have := congrArg (List.drop 1) hds
  rw [List.drop_drop] at this
  simpa using this
 | [], _ :: _, _, _, _, h, _ => by unfold fitsC at h; exact h.elim
 | _ :: _, [], _, _, _, h, _ => by unfold fitsC at h; exact h.elim
theorem s_arLoad {o : Oper} {a : Act} {T : Tm} {t : TypeId} {x : Operand} {c r : AV} (hs : Sim G B0 w0 w s M) (hT : TmR w s M T a) (hop : o.op = .load t x) (hx : opd G T x = some c) (h : arLoad P s t c = some r) : OpOk P G B0 w0 w s M o a r s := by
 have hv := opd_sound hs hT hx
 unfold arLoad at h
 split at h
 ·rename_i b i wd
  split at h
  ·rename_i rt e z hg
   split at h
   ·rename_i hc
    simp only [Bool.and_eq_true] at hc
    obtain ⟨⟨c1, c2⟩, c3⟩ := hc
    have c1 := nbe c1
    have g1 := nonNeg_sound hs c2
    have g2 := belowN_sound hs c3
    rw [lenN_den] at g2
    unfold VR at hv
    obtain ⟨hb, n, dn, ev⟩ := hv
    rw [dn] at g2
    obtain ⟨cc, ty, fr, rows, a1, a2, a3, a4, a5, a6⟩ := hs.obj b _ hb hg
    rw [a2] at g2
    have g2 : (n : Int) < (rows.length : Int) := g2
    have hlt : n < rows.length := by omega
    obtain ⟨cs, e1, e2, e3⟩ := flat_get c1 a3 a4 n rows[n] (List.getElem?_eq_getElem hlt)
    have hden : (E.pr .at [e, i]).den M.env = .row cs := by
     simp only [E.den, E.denL, Prim.den, a2, D.rows, dn]
     rw [show ((n : Int)).toNat = n by omega, List.getD_eq_getElem?_getD, List.getElem?_eq_getElem hlt]
     exact e1
    have hvl := dvl_VRl (j := 0) hden (by simp) e2 e3
    have htk := loadRow_take h
    rw [List.drop_zero] at htk
    have hat : At w (M.blk b) (n * wd) ((cc.toList.take (flat rows).length |>.drop (n * wd)).take wd) := by
     have := ((at_block a1).take (flat rows).length |>.drop (n * wd)).take wd
     rw [Nat.zero_add] at this; exact this
    obtain ⟨v, hr, hv⟩ := run_loadVar (P := P) hvl hat htk
    exact ok_here hs (by simp [execOp, hop, Instr.loadAt, ev, Instr.sureAddr, hr]) hv
   ·cases h
  ·cases h
 ·cases h
theorem s_arStore {o : Oper} {a : Act} {T : Tm} {t : TypeId} {p x : Operand} {c y : AV} {s' : St} (hs : Sim G B0 w0 w s M) (hT : TmR w s M T a) (hop : o.op = .store t p x) (hp : opd G T p = some c) (hx : opd G T x = some y) (h : arStore P s t c y = some s') : OpOk P G B0 w0 w s M o a und s' := by
 have hv := opd_sound hs hT hp
 unfold arStore at h
 split at h
 ·rename_i b i wd
  split at h
  ·rename_i rt e z n hg hn
   split at h
   ·rename_i hc
    simp only [Bool.and_eq_true] at hc
    obtain ⟨⟨⟨⟨⟨c1, c2⟩, c3⟩, c4⟩, c5⟩, c6⟩ := hc
    have c1 := nbe c1
    have c2 := nbe c2
    have c3 := nbe c3
    subst c1
    obtain ⟨es, hes, rfl⟩ := Option.map_eq_some_iff.1 h
    have g1 := nonNeg_sound hs c5
    have g2 := belowN_sound hs c6
    rw [lenN_den] at g2
    unfold VR at hv
    obtain ⟨hb, m, dm, ev⟩ := hv
    rw [dm] at g2
    obtain ⟨cc, ty, fr, rows, a1, a2, a3, a4, a5, a6⟩ := hs.obj b _ hb hg
    rw [a2] at g2
    have g2 : (m : Int) < (rows.length : Int) := g2
    have hlt : m < rows.length := by omega
    have hcv := VR_cellsOf c4 (opd_sound hs hT hx)
    obtain ⟨q1, q2⟩ := cellsX_pre _ hes hcv
    rw [List.take_of_length_le (by rw [<- hcv.length, c3, c2]; exact Nat.le_refl _)] at q1
    have hvl : (a.eval x).cells.toList.length = n := by rw [<- hcv.length, c3]
    have hfl := flat_length a3
    rw [c2] at hfl
    have hlf := a4.length
    have hsz0 : (flat rows).length <= cc.size := by rw [List.length_take] at hlf; simp at hlf; omega
    have hmn : m * n + n <= (flat rows).length := by
     rw [hfl, <- Nat.succ_mul]; exact Nat.mul_le_mul_right _ hlt
    have hsz : m * n + (a.eval x).cells.toList.length <= cc.size := by rw [hvl]; omega
    obtain ⟨k1, k2, k3⟩ := heap_setCells (a.eval x).cells.toList (m * n) w cc a1 hsz
    have hlid : b < Tr.lid := Nat.lt_of_lt_of_le hb hs.bound
    have hrun : (storeCells ⟨M.blk b, m * n, none⟩ (a.eval x).cells.toList).run P w = .ok () (w.setCells (M.blk b) (m * n) (a.eval x).cells.toList) := by
     have := run_storeCells_cells (P := P) (M.blk b) (m * n) (a.eval x).cells.toList 0 w (fun j hj => ?_) (fun j hj => ?_) (DVl_oneCell q1)
     ·simpa using this
     ·simp only [World.cell?, a1]
      simp
      simp at hj hsz
      omega
     ·simp only [World.frozen?, a1]
      have := a5.no (show m * n + 0 + j < cc.size by omega)
      simp only [Bool.and_eq_false_iff, decide_eq_false_iff_not]
      rcases Classical.em (fr.1 <= m * n + 0 + j) with q | q
      ·exact .inr fun q' => this ⟨q, q'⟩
      ·exact .inl q
    have hE : Ext w s M (w.setCells (M.blk b) (m * n) (a.eval x).cells.toList) (s.put b (.ar rt (.pr .upd [e, i, .pr .row es]) z)) M :=
     ext_write hs hb hg (fun _ _ => by simp) trivial (fun _ _ => by simp) trivial k2 (by omega)
    obtain ⟨r1, r2⟩ := flat_set c2 q2 q1 m hlt a3 a4
    have hfl2 := flat_length r1
    rw [c2, List.length_set, <- hfl] at hfl2
    have hden : (E.pr .upd [e, i, .pr .row es]).den M.env = .lst (rows.set m (.row (E.denL M.env es))) := by
     simp only [E.den, E.denL, Prim.den, a2, D.rows, dm]
     rw [show ((m : Int)).toNat = m by omega]
    have hns : (cc.toList.take (m * n) ++ (a.eval x).cells.toList ++ cc.toList.drop (m * n + (a.eval x).cells.toList.length)).toArray.size = cc.size := by
     rw [List.size_toArray, List.length_append, List.length_append, List.length_take, List.length_drop, hvl, Array.length_toList]
     rw [hvl] at hsz
     omega
    refine ok_skip ?_ (sim_write hs hb hg (fun _ _ => by simp) trivial (fun _ _ => by simp) trivial k2 (below_setCells (hs.blk b hb).1 _ _ w hs.below) k3 ⟨_, ty, fr, _, k1, hden, by exact r1, ?_, by rw [hns]; exact a5, by rw [hns, hfl2]; exact a6⟩) hE
    ·have hl : (a.eval x).cells.size = n := by simpa using hvl
     simp [execOp, hop, Instr.storeAt, ev, Instr.sureAddr, storeVar, run_sizeOf hn, hl, hrun]
    ·rw [hfl2]
     have e1 : ((cc.toList.take (m * n) ++ (a.eval x).cells.toList ++ cc.toList.drop (m * n + (a.eval x).cells.toList.length)).toArray.toList).take (flat rows).length = (cc.toList.take (flat rows).length).take (m * n) ++ (a.eval x).cells.toList ++ (cc.toList.take (flat rows).length).drop (m * n + n) := by
      have e2 : (cc.toList.take (flat rows).length).take (m * n) = cc.toList.take (m * n) := by rw [List.take_take, Nat.min_eq_left (by omega)]
      have e3 : (cc.toList.take (m * n) ++ (a.eval x).cells.toList).length = m * n + n := by
       rw [List.length_append, hvl, List.length_take, Nat.min_eq_left (by simp; omega)]
      show (cc.toList.take (m * n) ++ (a.eval x).cells.toList ++ cc.toList.drop (m * n + (a.eval x).cells.toList.length)).take (flat rows).length = _
      rw [e2, List.take_append, List.take_of_length_le (by rw [e3]; exact hmn), e3, List.drop_take, hvl]
     rw [e1]
     exact r2.mono hE.cells
   ·cases h
  ·cases h
 ·cases h
theorem s_arSlice {o : Oper} {a : Act} {T : Tm} {t : TypeId} {x : Operand} {lo hi : Option Operand} {c r : AV} {l h : Option AV} (hs : Sim G B0 w0 w s M) (hT : TmR w s M T a) (hop : o.op = .slice t x lo hi none) (hx : opd G T x = some c) (hlo : opdO G T lo = some l) (hhi : opdO G T hi = some h)
  (hr : arSlice P s t c l h = some r) : OpOk P G B0 w0 w s M o a r s := by
 have vx := opd_sound hs hT hx
 have fin : ∀ v, (Instr.sliceAt t (a.eval x) (lo.map a.eval) (hi.map a.eval) none).run P w = .ok v w -> VR w s M r v -> OpOk P G B0 w0 w s M o a r s := fun v hr hv => ok_here hs (v := v) (by simp [execOp, hop, hr]) hv
 unfold arSlice at hr
 split at hr
 ·rename_i n el hu
  split at hr
  ·rename_i size hn
   split at hr
   ·rename_i b
    split at hr
    ·rename_i el' hl' hh' he1 he2 he3
     split at hr
     ·rename_i hc
      cases hr
      simp only [Bool.and_eq_true] at hc
      obtain ⟨⟨⟨c1, c2⟩, c3⟩, c4⟩ := hc
      obtain ⟨ln, d1, b1⟩ := bndA_sound (m := 0) hs hT hlo he2 rfl (nonNeg_sound hs c1)
      obtain ⟨hn', d2, b2⟩ := bndA_sound (m := n) hs hT hhi he3 rfl (nonNeg_sound hs c2)
      have g3 := upToN_sound hs c3
      have g4 := upToN_sound hs c4
      rw [d1, d2] at g3
      rw [d2] at g4
      have g3 : (ln : Int) <= (hn' : Int) := g3
      have g4 : (hn' : Int) <= (n : Int) := g4
      unfold VR at vx; obtain ⟨hb, ex⟩ := vx
      have hrr := run_sliceArr (w := w) (ad := ⟨M.blk b, 0, none⟩) hu hn b1 b2 (by omega) (by omega)
      rw [<- ex] at hrr
      refine fin _ hrr ?_
      unfold VR
      refine ⟨hb, ln, if n = ln then 0 else ln, hn' - ln, n - ln, d1, by rw [d2, show ln + (hn' - ln) = hn' by omega], ?_, by omega, fun hne => by rw [if_neg (by omega)], fun hw => by cases hw⟩
      by_cases e1 : n = ln
      ·rw [if_pos e1, if_pos e1, Nat.zero_mul]
      ·rw [if_neg e1, if_neg e1, add_eq, Nat.zero_add]
     ·cases hr
    ·cases hr
   ·cases hr
  ·cases hr
 ·rename_i el hu
  split at hr
  ·rename_i size hn
   split at hr
   ·rename_i b off en wh wd
    split at hr
    ·rename_i hl' hh' he2 he3
     split at hr
     ·rename_i hc
      cases hr
      simp only [Bool.and_eq_true] at hc
      obtain ⟨⟨⟨⟨⟨c0, c00⟩, c1⟩, c2⟩, c3⟩, c4⟩ := hc
      have c00 := nbe c00
      subst c00
      have c0 := isLit0_den (env := M.env) c0
      unfold VR at vx
      obtain ⟨hb, n0, n0', m, cap, p1, p2, ex, hle, hn0, _⟩ := vx
      rw [c0] at p1
      cases p1
      rw [Nat.zero_add] at p2
      obtain ⟨ln, d1, b1⟩ := bndA_sound (m := 0) hs hT hlo he2 rfl (nonNeg_sound hs c1)
      obtain ⟨hn', d2, b2⟩ := bndA_sound (m := m) hs hT hhi he3 p2 (nonNeg_sound hs c2)
      have g3 := upToN_sound hs c3
      have g4 := upToN_sound hs c4
      rw [d1, d2] at g3
      rw [d2, p2] at g4
      have g3 : (ln : Int) <= (hn' : Int) := g3
      have g4 : (hn' : Int) <= (m : Int) := g4
      have hrr := run_sliceAt' (w := w) (base := some ⟨M.blk b, n0' * wd, none⟩) (cap := cap) hu hn b1 b2 (by omega) (by omega)
      rw [<- ex] at hrr
      refine fin _ hrr ?_
      unfold VR
      refine ⟨hb, ln, if cap = ln then n0' else n0' + ln, hn' - ln, cap - ln, d1, by rw [d2, show ln + (hn' - ln) = hn' by omega], ?_, by omega, fun hne => by rw [if_neg (by omega), hn0 (by omega), Nat.zero_add], fun hw => by cases hw⟩
      by_cases e1 : cap = ln
      ·rw [if_pos e1, if_pos e1]
      ·rw [if_neg e1, if_neg e1, Nat.add_mul]; simp only [Option.map_some, add_eq]
     ·cases hr
    ·cases hr
   ·rename_i rt e tok
    split at hr
    ·rename_i hl' hh' he2 he3
     split at hr
     ·rename_i hc
      cases hr
      simp only [Bool.and_eq_true] at hc
      obtain ⟨⟨⟨⟨c0, c1⟩, c2⟩, c3⟩, c4⟩ := hc
      have c0 := nbe c0
      unfold VR at vx
      obtain ⟨v1, v2, _⟩ := vx
      obtain ⟨rows, hrows⟩ : ∃ rows, e.den M.env = .lst rows := by
       cases hd : e.den M.env with
       | lst rows => exact ⟨rows, rfl⟩
       | v _ => rw [hd] at v2; unfold fits at v2; exact v2.elim
       | nil => rw [hd] at v2; unfold fits at v2; exact v2.elim
       | row _ => rw [hd] at v2; unfold fits at v2; exact v2.elim
      rw [hrows] at v1 v2
      have hlen : (lenE e).den M.env = .v (.int .i64 rows.length) := by simp only [lenE, E.den, E.denL, hrows]; rfl
      obtain ⟨ln, d1, b1⟩ := bndA_sound (m := 0) hs hT hlo he2 rfl (nonNeg_sound hs c1)
      obtain ⟨hn', d2, b2⟩ := bndA_sound (m := rows.length) hs hT hhi he3 hlen (nonNeg_sound hs c2)
      have g3 := upToN_sound hs c3
      have g4 := upToN_sound hs c4
      rw [d1, d2] at g3
      rw [d2, hlen] at g4
      have g3 : (ln : Int) <= (hn' : Int) := g3
      have g4 : (hn' : Int) <= (rows.length : Int) := g4
      have hden : (E.pr .sub [e, hl', hh']).den M.env = .lst ((rows.take hn').drop ln) := by
       simp only [E.den, E.denL, hrows, d1, d2]; rfl
      have hf : fitsR s.k.shape rows rt := v2
      obtain ⟨base, cap, ey, hcap, hb⟩ : ∃ base cap, a.eval x = .slice base rows.length cap /\ rows.length <= cap /\ (rows = [] \/ ∃ b off, base = some ⟨b, off, none⟩ /\ DVr (fun b off => w.cell? ⟨b, off, none⟩) (Imm s M) rows b off) := by
       unfold DV at v1
       rcases v1 with ⟨rfl, a', cap, ey⟩ | ⟨b, off, cap, ey, hle, hd⟩
       ·exact ⟨a', cap, ey, Nat.zero_le _, .inl rfl⟩
       ·exact ⟨_, cap, ey, hle, .inr ⟨b, off, rfl, hd⟩⟩
      have hrr := run_sliceAt' (w := w) (base := base) (cap := cap) hu hn b1 b2 (by omega) (by omega)
      rw [<- ey] at hrr
      refine fin _ hrr ?_
      unfold VR
      rw [hden]
      have hlen2 : ((rows.take hn').drop ln).length = hn' - ln := by rw [List.length_drop, List.length_take]; omega
      refine ⟨?_, ?_, fun t ht => by cases ht⟩
      ·unfold DV
       by_cases e0 : hn' = ln
       ·refine .inl ⟨List.eq_nil_of_length_eq_zero (by rw [hlen2]; omega), _, _, by rw [e0, Nat.sub_self]⟩
       ·rcases hb with rfl | ⟨b, off, rfl, hd⟩
        ·simp at g4; omega
        ·refine .inr ⟨b, off + ln * size, cap - ln, ?_, by rw [hlen2]; omega, ?_⟩
         ·rw [hlen2, if_neg (by omega)]; simp only [Option.map_some, add_eq]
         ·exact DVr_sub c0 hf hd ln hn'
      ·exact fitsR_sub hf ln hn'
     ·cases hr
    ·cases hr
   ·cases hr
  ·cases hr
 ·cases hr
end
end Go.Ab
/- The evaluator's operations against the model's: arrays that grow, bytes and texts. -/
namespace Go.Ab
open Go Go.RowKit

section
variable [Interp] {P : Program} {G : Nat -> Option (List AV)} {B0 : Nat} {w0 w : World} {s : St} {M : Mp}
theorem wrap_id64 {i : Int} (h0 : -9223372036854775808 <= i) (h : i < 9223372036854775808) : IntKind.i64.wrap i = i := by
 unfold IntKind.wrap
 have e : (2 ^ IntKind.i64.bits : Int) = 18446744073709551616 := rfl
 have e2 : (2 ^ (IntKind.i64.bits - 1) : Int) = 9223372036854775808 := rfl
 have e3 : IntKind.i64.signed = true := rfl
 simp only [e, e2, e3, Bool.true_and]
 by_cases hp : 0 <= i
 ·have hm : i % 18446744073709551616 = i := Int.emod_eq_of_lt hp (by omega)
  rw [hm, if_neg]
  simp only [ge_iff_le, decide_eq_true_eq]
  omega
 ·have hm : i % 18446744073709551616 = i + 18446744073709551616 := by omega
  rw [hm, if_pos]
  ·omega
  ·simp only [ge_iff_le, decide_eq_true_eq]
   omega
theorem objR_same {w' : World} {s' : St} {M' : Mp} {b c : Nat} {ob : AObj} (hE : Ext w s M w' s' M') (hk : w'.heap[b]? = w.heap[b]?) (h : ObjR w s M b c ob) : ObjR w' s' M' b c ob := by
 cases ob with
 | box cs esz => obtain ⟨c, e', fr, a1, a2, a3⟩ := h; exact ⟨c, e', fr, hk.trans a1, a2.ext hE, a3⟩
 | fz cs esz => obtain ⟨c, e', fr, a1, a2, a3⟩ := h; exact ⟨c, e', fr, hk.trans a1, a2.ext hE, a3⟩
 | row tip esz => obtain ⟨c, e', fr, a1, a2, a3, a4⟩ := h; exact ⟨c, e', fr, hk.trans a1, a2, by rw [hE.keep.1]; exact a3, a4⟩
 | map es => obtain ⟨c, k, a1, a2⟩ := h; exact ⟨c, k, hk.trans a1, a2.ext hE⟩
 | dead => trivial
 | loop T ps asg body st pend => obtain ⟨rc, a1, a2, a3, a4, a5, a6, a7, a8⟩ := h; exact ⟨rc, hk.trans a1, a2, a3, a4, a5, a6, a7, fun t => (a8 t).ext hE⟩
 | defs => exact hk.trans h
 | sym k => show SymR _ _ _ _; rw [hk, hE.keep.1]; exact h
 | ar t e z => exact arR_ext hE hk h
theorem grow_obj (hs : Sim G B0 w0 w s M) (hroom : s.room = true) {t : Nat} {ob ob' : AObj} (ht : t < s.n) (hg : s.get t = some ob) (hl0 : ob.live) (hr : ∀ tip e, ob ≠ .row tip e) (hr' : ∀ tip e, ob' ≠ .row tip e) {w' : World}
  (hw : ∀ k, k ≠ M.blk t -> w'.heap[k]? = w.heap[k]?) (hbel : Below B0 w0 w') (hws : w'.heap.size = w.heap.size)
  (ho' : Ext w s M w' ((s.put t .dead).new ob') (M.add s.n (M.blk t) (M.cap t)) -> ObjR w' ((s.put t .dead).new ob') (M.add s.n (M.blk t) (M.cap t)) (M.blk t) (M.cap t) ob') :
  Sim G B0 w0 w' ((s.put t .dead).new ob') (M.add s.n (M.blk t) (M.cap t)) /\ Ext w s M w' ((s.put t .dead).new ob') (M.add s.n (M.blk t) (M.cap t)) := by
 have hlid := room_lt hroom
 have htl : t < Tr.lid := by omega
 have hget : ∀ i, ((s.put t .dead).new ob').get i = if i = s.n then some ob' else if i = t then some .dead else s.get i := fun i => by
  rw [St.get_new _ _ _ (by simpa [St.put] using hlid), St.get_put _ _ _ _ htl]; rfl
 have hn : ((s.put t .dead).new ob').n = s.n + 1 := rfl
 have hnim : ∀ off, ¬ Imm0 s M (M.blk t) off := fun off h => by
  have := h t _ ht hg rfl
  cases ob with
  | row tip e => exact hr _ _ rfl
  | dead => exact hl0
  | _ => exact this
 have hE : Ext w s M w' ((s.put t .dead).new ob') (M.add s.n (M.blk t) (M.cap t)) := by
  refine ⟨fun b off v hcv hi => ⟨?_, fun i o hin hgi hbk => ?_, hi.2⟩, by rw [hn]; omega, fun i hi => by simp only [Mp.add, if_neg (Nat.ne_of_lt hi), and_self], fun i tip e' hi hgi => ?_, ⟨by rw [hws]; exact Nat.le_refl _, fun b _ hno => hw b fun e => hno t _ ht hg hl0 e.symm, fun i o hi hgi hl hlt => ?_⟩, rfl, rfl, rfl⟩
  ·by_cases eb : b = M.blk t
   ·subst eb
    exact (hnim _ hi.1).elim
   ·exact (World.cell?_of_block (w := w) (w' := w') (hw b eb)).trans hcv
  ·rw [hget] at hgi
   by_cases e1 : i = s.n
   ·subst e1; rw [if_pos rfl] at hgi; cases hgi
    simp only [Mp.add, if_true] at hbk
    subst hbk
    exact (hnim _ hi.1).elim
   ·rw [if_neg e1] at hgi
    simp only [Mp.add, if_neg e1] at hbk
    by_cases e2 : i = t
    ·rw [if_pos e2] at hgi; cases hgi; trivial
    ·rw [if_neg e2] at hgi; exact hi.1 i o (by omega) hgi hbk
  ·rw [hget, if_neg (Nat.ne_of_lt hi)] at hgi
   by_cases e2 : i = t
   ·rw [if_pos e2] at hgi; cases hgi
   ·rw [if_neg e2] at hgi; exact hgi
  ·rw [hget] at hgi
   rw [hn] at hi
   simp only [Mp.add] at hlt ⊢
   by_cases e1 : i = s.n
   ·exact ⟨t, _, ht, hg, hl0, by rw [if_pos e1]⟩
   ·rw [if_neg e1] at hgi
    by_cases e2 : i = t
    ·rw [if_pos e2] at hgi; cases hgi; exact hl.elim
    ·rw [if_neg e2] at hgi
     exact ⟨i, o, by omega, hgi, hl, by rw [if_neg e1]⟩
 refine ⟨⟨hbel, hs.size, by rw [hn]; omega, fun i hi => ?_, fun i j oi oj hi hj gi gj li lj eb => ?_, fun i o hi hgi => ?_, fun g cs hgl => (hs.glob g cs hgl).ext hE, hs.fx, fun b off ho => ⟨by have h1 := (hs.out b off ho).1; omega, fun i hi => by
  simp only [Mp.add]
  rw [hn] at hi
  by_cases e1 : i = s.n
  ·rw [if_pos e1]; exact (hs.out b off ho).2 t ht
  ·rw [if_neg e1]; exact (hs.out b off ho).2 i (by omega)⟩⟩, hE⟩
 ·rw [hws]; simp only [Mp.add]
  rw [hn] at hi
  by_cases e1 : i = s.n
  ·rw [if_pos e1]; exact hs.blk t ht
  ·rw [if_neg e1]; exact hs.blk i (by omega)
 ·rw [hget] at gi gj
  rw [hn] at hi hj
  simp only [Mp.add] at eb
  by_cases e1 : i = s.n <;> by_cases e2 : j = s.n
  ·omega
  ·rw [if_pos e1, if_neg e2] at eb
   rw [if_neg e2] at gj
   by_cases e3 : j = t
   ·rw [if_pos e3] at gj; cases gj; exact lj.elim
   ·rw [if_neg e3] at gj; exact absurd (hs.inj j t _ _ (by omega) ht gj hg lj hl0 eb.symm) e3
  ·rw [if_neg e1, if_pos e2] at eb
   rw [if_neg e1] at gi
   by_cases e3 : i = t
   ·rw [if_pos e3] at gi; cases gi; exact li.elim
   ·rw [if_neg e3] at gi; exact absurd (hs.inj i t _ _ (by omega) ht gi hg li hl0 eb) e3
  ·rw [if_neg e1] at gi; rw [if_neg e2] at gj; rw [if_neg e1, if_neg e2] at eb
   by_cases e3 : i = t
   ·rw [if_pos e3] at gi; cases gi; exact li.elim
   ·by_cases e4 : j = t
    ·rw [if_pos e4] at gj; cases gj; exact lj.elim
    ·rw [if_neg e3] at gi; rw [if_neg e4] at gj; exact hs.inj i j _ _ (by omega) (by omega) gi gj li lj eb
 ·rw [hget] at hgi
  rw [hn] at hi
  by_cases e1 : i = s.n
  ·subst e1; rw [if_pos rfl] at hgi; cases hgi
   simp only [Mp.add, if_true]
   exact ho' hE
  ·rw [if_neg e1] at hgi
   simp only [Mp.add, if_neg e1]
   by_cases e2 : i = t
   ·rw [if_pos e2] at hgi; cases hgi; trivial
   ·rw [if_neg e2] at hgi
    have hob := hs.obj i o (by omega) hgi
    by_cases hlv : o.live
    ·have hne : M.blk i ≠ M.blk t := fun e' => e2 (hs.inj i t _ _ (by omega) ht hgi hg hlv hl0 e')
     exact objR_same hE (hw _ hne) hob
    ·cases o with
     | dead => trivial
     | _ => exact absurd trivial hlv
theorem s_arAppend {o : Oper} {a : Act} {T : Tm} {c : Go.Call} {t0 t1 e : TypeId} {d : TypeDesc} {x y : AV} {ox oy : Operand} {r : AV} {s' : St} (hs : Sim G B0 w0 w s M) (hT : TmR w s M T a) (hop : o.op = .call c) (hc : c.callee = .builtin .append)
  (hA0 : c.argTypes[0]? = some t0) (hA1 : c.argTypes[1]? = some t1) (ht0 : P.underlying t0 = some (.slice e)) (ht1 : P.underlying t1 = some d) (hd : ∀ k, d ≠ .int k)
  (hargs : c.args.toList = [ox, oy]) (hx : opd G T ox = some x) (hy : opd G T oy = some y) (h : arAppend P e s x y = some (r, s')) : OpOk P G B0 w0 w s M o a r s' := by
 have vx := opd_sound hs hT hx
 have vy := opd_sound hs hT hy
 have hargs : c.args = #[ox, oy] := by rw [<- Array.toList_inj, hargs]
 have hargs' : c.args.map a.eval = #[a.eval ox, a.eval oy] := by rw [hargs]; simp
 simp only [arAppend, Option.bind_eq_bind, Option.bind_eq_some_iff] at h
 obtain ⟨size, hsize, bytes, hbytes, z, hz, h⟩ := h
 obtain ⟨zv, hz1, hz2⟩ := zeroCells_some hz
 unfold sizeT at hsize; unfold bytesT at hbytes; unfold zeroT at hz1
 rw [Option.map_eq_some_iff] at hsize hbytes
 rw [Option.bind_eq_some_iff] at hz1
 obtain ⟨i, hi, rfl⟩ := hsize
 obtain ⟨i', hi', rfl⟩ := hbytes
 obtain ⟨i'', hi'', hzv⟩ := hz1
 rw [hi] at hi' hi''; cases hi'; cases hi''
 split at h
 ·cases h
 ·rename_i hcnd
  simp only [Bool.or_eq_true, Bool.not_eq_true', not_or, Bool.not_eq_false, Bool.not_eq_true] at hcnd
  obtain ⟨⟨⟨⟨c1, c2⟩, c3⟩, hroom⟩, c5⟩ := hcnd
  have hL := nbe c1
  have hz3 := nbe c3
  have h80 : i.size < tyBase := Nat.le_of_ble_eq_true c5
  have hi0 : i.size ≠ 0 := fun e => by rw [e] at c2; cases c2
  have hzs : zv.cells.size = i.size := by have := (VRl_scAll (w := w) (s := s) (M := M) hz2).length; rw [hz3] at this; simp at this; exact this.symm
  simp only [Option.bind_eq_some_iff] at h
  obtain ⟨ey, hey, h⟩ := h
  obtain ⟨rows, vs, d1, f1, g1, hvl, hlen, hf1, hf2⟩ := rowsE_sound (P := P) hs hL hey vy
  split at h
  ·rename_i t off en wd
   split at h
   ·rename_i rt ex zz hg
    split at h
    ·rename_i hcc
     simp only [Option.some.injEq, Prod.mk.injEq] at h
     obtain ⟨rfl, rfl⟩ := h
     simp only [Bool.and_eq_true] at hcc
     obtain ⟨⟨⟨⟨⟨q1, q2⟩, q3⟩, q4⟩, q5⟩, hfew⟩ := hcc
     have q1 := nbe q1
     have q2 := isLit0_den (env := M.env) q2
     have q3 := eEq_eq q3
     have q4 := nbe q4
     have q5 := nbe q5
     subst q1 q3 q4 q5
     unfold VR at vx
     obtain ⟨ht, n0, n0', m, cap, p1, p2, exv, hle, _, hwh⟩ := vx
     obtain ⟨rfl, rfl, rfl⟩ := hwh rfl
     rw [Nat.zero_mul] at exv
     obtain ⟨cc, ty, fr, xr, a1, d2, f2, g2, a5, a6⟩ := hs.obj t _ ht hg
     have hm : xr.length = m := by
      rw [lenN_den, d2] at p2
      injection p2 with p2
      injection p2 with _ p2
      have p2 : ((xr.length : Nat) : Int) = ((0 + m : Nat) : Int) := p2
      omega
     subst hm
     have dc : (E.pr .cat [ex, ey]).den M.env = .lst (xr ++ rows) := by simp only [E.den, E.denL, Prim.den, d1, d2]; rfl
     have htl := few_sound hs dc hfew
     rw [List.length_append] at htl
     have hk0 : codeOf rt i.size % tyBase ≠ 0 := by rw [codeOf_mod h80]; exact hi0
     have a61 := a6.1 hk0
     rw [codeOf_mod h80] at a61
     have hxl : (flat xr).length = xr.length * i.size := by rw [flat_length f2, hL]
     have hovl : (cc.toList.take (flat xr).length).length = xr.length * i.size := by rw [g2.length, hxl]
     generalize hov : cc.toList.take (flat xr).length = ovs at g2 hovl
     have hat : At w (M.blk t) 0 ovs := by rw [<- hov]; exact (at_block a1).take _
     obtain ⟨hb1, hb2⟩ := tooLong_no htl
     have hneed : xr.length + rows.length <= 2 ^ 47 := by
      have h1 : (2 * (xr.length + rows.length) + 2048) * 1 <= (2 * (xr.length + rows.length) + 2048) * i.bytes := Nat.mul_le_mul_left _ hb2
      omega
     have hfl : (flat (xr ++ rows)).length = (xr.length + rows.length) * i.size := by rw [flat_length (fitsR_append f2 f1), hL, List.length_append]
     by_cases hroomy : xr.length + rows.length <= M.cap t
     ·have hfits : xr.length * i.size + rows.length * i.size <= cc.size := by rw [a61, <- Nat.add_mul]; exact Nat.mul_le_mul_right _ hroomy
      obtain ⟨k1, k2, k3⟩ := heap_setCells vs (xr.length * i.size) w cc a1 (by rw [hvl]; exact hfits)
      have hst : (storeCells ⟨M.blk t, xr.length * i.size, none⟩ vs).run P w = .ok () (w.setCells (M.blk t) (xr.length * i.size) vs) := by
       have := run_storeCells_cells (P := P) (M.blk t) (xr.length * i.size) vs 0 w (fun j hj => ?_) (fun j hj => ?_) (DVl_oneCell g1)
       ·simpa using this
       ·simp only [World.cell?, a1]
        simp
        omega
       ·simp only [World.frozen?, a1]
        have := a5.no (show xr.length * i.size + 0 + j < cc.size by omega)
        simp only [Bool.and_eq_false_iff, decide_eq_false_iff_not]
        rcases Classical.em (fr.1 <= xr.length * i.size + 0 + j) with q | q
        ·exact .inr fun q' => this ⟨q, q'⟩
        ·exact .inl q
      have hrun := run_append_room' (w := w) t0 t1 o.type rt c.argTypes hA0 hA1 i d ht0 ht1 hd hi (some ⟨M.blk t, 0, none⟩) xr.length (M.cap t) rows.length (a.eval oy) vs hlen hf1 hroomy (fun q hq => by cases hq; rw [add_eq, Nat.zero_add]; exact hst) (fun h => by cases h)
      have hnewsz : (cc.toList.take (xr.length * i.size) ++ vs ++ cc.toList.drop (xr.length * i.size + vs.length)).toArray.size = cc.size := by
       simp only [List.size_toArray, List.length_append, List.length_take, List.length_drop, Array.length_toList, hvl]; omega
      have htk : (cc.toList.take (xr.length * i.size) ++ vs ++ cc.toList.drop (xr.length * i.size + vs.length)).toArray.toList.take (flat (xr ++ rows)).length = ovs ++ vs := by
       rw [hfl, Nat.add_mul]
       show (cc.toList.take (xr.length * i.size) ++ vs ++ cc.toList.drop (xr.length * i.size + vs.length)).take (xr.length * i.size + rows.length * i.size) = _
       rw [<- hxl, hov, List.take_left']
       rw [List.length_append, hovl, hvl, hxl]
      obtain ⟨hs2, hE2⟩ := grow_obj (ob' := .ar rt (.pr .cat [ex, ey]) (codeOf rt i.size)) hs hroom ht hg trivial (fun _ _ => by simp) (fun _ _ => by simp) k2 (below_setCells (hs.blk t ht).1 vs _ w hs.below) k3 fun hE =>
       ⟨_, ty, fr, xr ++ rows, k1, dc, fitsR_append f2 f1, by rw [htk, flat_append]; exact (g2.append g1).mono hE.cells, by rw [hnewsz]; exact a5, by
        rw [hnewsz]
        exact ⟨fun _ => by rw [codeOf_mod h80]; exact a61, fun h0 => ⟨(a6.2 h0).1, fun h1 => absurd h1 hk0⟩⟩⟩
      refine ok_value (v := .slice (some ⟨M.blk t, 0, none⟩) (xr.length + rows.length) (M.cap t)) (exec_append hop hc (by rw [hargs', exv]; exact hrun)) ?_ hs2 hE2
      unfold VR
      refine ⟨by simp [St.new, St.put], 0, 0, xr.length + rows.length, M.cap t, rfl, ?_, by simp only [Mp.add, if_true, Nat.zero_mul], hroomy, fun _ => rfl, fun _ => ⟨rfl, rfl, by simp only [Mp.add, if_true]⟩⟩
      rw [lenN_den]
      show D.v (.int .i64 (((E.pr .cat [ex, ey]).den M.env).rows.length : Nat)) = _
      rw [dc, Nat.zero_add]
      show D.v (.int .i64 ((xr ++ rows).length : Nat)) = _
      rw [List.length_append]
     ·have htll : t < Tr.lid := Nat.lt_of_lt_of_le ht hs.bound
      have hs1 := sim_kill hs t ht
      have hE1 : Ext w s M w (s.put t .dead) M := ext_kill t htll
      have hs2 := sim_drew hs1
      have hEd : Ext w s M w.drew (s.put t .dead) M := hE1.trans ext_drew
      have hg' : M.cap t < xr.length + rows.length := by omega
      have hfit : Builtin.nextslicecap (xr.length + rows.length) (M.cap t) * i.bytes <= 281474976710656 := growslice_fits hg' (by
       have h1 : (xr.length + rows.length) * i.bytes <= (2 * (xr.length + rows.length) + 2048) * i.bytes := Nat.mul_le_mul_right _ (by omega)
       omega)
      have hold : (Builtin.firstCells i.size xr.length (.slice (some ⟨M.blk t, 0, none⟩) xr.length (M.cap t))).run P w.drew = .ok ovs.toArray w.drew :=
       run_firstCells_some (P := P) w.drew i.size xr.length ⟨M.blk t, 0, none⟩ xr.length (M.cap t) ovs hovl fun j q hq => by rw [add_eq]; exact hat j q hq
      have hrun := run_append_grow' (w := w) t0 t1 o.type rt c.argTypes hA0 hA1 i zv d ht0 ht1 hd hi hzv (some ⟨M.blk t, 0, none⟩) xr.length (M.cap t) rows.length (a.eval oy) ovs vs hlen hold hf2 hg' (by omega) hfit
      have hcapge := grownCap_ge w (xr.length + rows.length) (M.cap t) rt
      have hcells : (ovs.toArray ++ vs.toArray ++ Builtin.zeroCells zv.cells (grownCap w (xr.length + rows.length) (M.cap t) rt - (xr.length + rows.length))).size = grownCap w (xr.length + rows.length) (M.cap t) rt * i.size := by
       simp only [Array.size_append, size_zeroCells, hzs, List.size_toArray, hvl, hovl]
       rw [<- Nat.add_mul, <- Nat.add_mul]; congr 1; omega
      have hroom1 : (s.put t .dead).room = true := by simpa [St.room, St.put] using hroom
      have htk : (ovs.toArray ++ vs.toArray ++ Builtin.zeroCells zv.cells (grownCap w (xr.length + rows.length) (M.cap t) rt - (xr.length + rows.length))).toList.take (flat (xr ++ rows)).length = ovs ++ vs := by
       simp only [Array.toList_append]
       rw [List.take_left']
       rw [hfl, List.length_append, hovl, hvl, Nat.add_mul]
      have hE3 := ext_new (w := w.drew) (M := M) (room_lt hroom1) (fun i hi => (hs2.blk i hi).2) (.cells (ovs.toArray ++ vs.toArray ++ Builtin.zeroCells zv.cells (grownCap w (xr.length + rows.length) (M.cap t) rt - (xr.length + rows.length))) rt) (.ar rt (.pr .cat [ex, ey]) (codeOf rt i.size)) (grownCap w (xr.length + rows.length) (M.cap t) rt)
      have hs3 := sim_new hs2 (room_lt hroom1) (.cells (ovs.toArray ++ vs.toArray ++ Builtin.zeroCells zv.cells (grownCap w (xr.length + rows.length) (M.cap t) rt - (xr.length + rows.length))) rt) (.ar rt (.pr .cat [ex, ey]) (codeOf rt i.size)) (grownCap w (xr.length + rows.length) (M.cap t) rt)
       ⟨_, rt, (0, 0), xr ++ rows, heap_new _ _, dc, fitsR_append f2 f1, by rw [htk, flat_append]; exact (g2.append g1).mono (hEd.trans hE3).cells, .inl rfl, fun _ => by rw [codeOf_mod h80]; exact hcells, fun _ => ⟨(codeOf_div h80).symm, fun h1 => absurd h1 hk0⟩⟩
      refine ok_value (v := .slice (some ⟨w.heap.size, 0, none⟩) (xr.length + rows.length) (grownCap w (xr.length + rows.length) (M.cap t) rt)) (exec_append hop hc (by rw [hargs', exv]; exact hrun)) ?_ hs3 (hEd.trans hE3)
      unfold VR
      have hbn : (M.add (s.put t .dead).n w.drew.heap.size (grownCap w (xr.length + rows.length) (M.cap t) rt)).blk s.n = w.heap.size := by simp [Mp.add, St.put]
      have hcn : (M.add (s.put t .dead).n w.drew.heap.size (grownCap w (xr.length + rows.length) (M.cap t) rt)).cap s.n = grownCap w (xr.length + rows.length) (M.cap t) rt := by simp [Mp.add, St.put]
      refine ⟨by simp [St.new, St.put], 0, 0, xr.length + rows.length, _, rfl, ?_, by rw [hbn, Nat.zero_mul], hcapge, fun _ => rfl, fun _ => ⟨rfl, rfl, hcn.symm⟩⟩
      rw [lenN_den]
      show D.v (.int .i64 (((E.pr .cat [ex, ey]).den M.env).rows.length : Nat)) = _
      rw [dc, Nat.zero_add]
      show D.v (.int .i64 ((xr ++ rows).length : Nat)) = _
      rw [List.length_append]
    ·cases h
   ·cases h
  ·cases h
end
end Go.Ab
/- The evaluator's operations against the model's: bytes and texts of symbols; all that arrays do. -/
namespace Go.Ab
open Go Go.RowKit

section
variable [Interp] {P : Program} {G : Nat -> Option (List AV)} {B0 : Nat} {w0 w : World} {s : St} {M : Mp}
theorem bytes_rows {tb : Nat -> List CT} {C : Nat -> Nat -> Option Value} {I : Nat -> Nat -> Prop} {t : Nat} (hs : tb t = [.sc (.i .u8)]) : ∀ {rows : List D} {vs : List Value}, fitsR tb rows t -> DVl C I (flat rows) vs -> ∃ ns : List Int, vs = ns.map (Value.int .u8) /\ rows = ns.map fun n => D.row [.v (.int .u8 n)]
 | [], vs, _, h => by
  obtain rfl : vs = [] := h
  exact ⟨[], rfl, rfl⟩
 | x :: r, vs, hf, hd => by
  obtain ⟨cs, rfl, hc⟩ := fitsR_row hf x (List.mem_cons_self ..)
  unfold fitsR at hf
  rw [hs] at hc
  obtain ⟨hl, hg⟩ := fitsC_get hc
  obtain ⟨d, hd0, hfd⟩ := hg 0 _ rfl
  obtain ⟨y, rfl⟩ : ∃ y, cs = [y] := by
   match cs, hl with
   | [y], _ => exact ⟨y, rfl⟩
  simp only [List.getElem?_cons_zero, Option.some.injEq] at hd0
  subst hd0
  obtain ⟨v, t', rfl, k1, k2⟩ : ∃ v t', vs = v :: t' /\ DV C I y v /\ DVl C I (flat r) t' := hd
  obtain ⟨ns, rfl, rfl⟩ := bytes_rows hs hf.2 k2
  cases y with
  | v x =>
   unfold fits at hfd
   obtain ⟨n, rfl⟩ := tyV_int hfd
   unfold DV at k1
   exact ⟨n :: ns, by rw [k1.1]; rfl, rfl⟩
  | nil => unfold fits at hfd; exact hfd.elim
  | lst _ => unfold fits at hfd; exact hfd.elim
  | row _ => unfold fits at hfd; exact hfd.elim
theorem sofl_den {env : Nat -> D} {e : E} {ns : List Int} (h : e.den env = .lst (ns.map fun n => D.row [.v (.int .u8 n)])) : (E.pr .sofl [e]).den env = .v (.string (ns.foldl (fun r n => r.push (UInt8.ofNat n.toNat)) .empty)) := by
 simp only [E.den, E.denL, Prim.den, h, D.rows, List.foldl_map]
 rfl
theorem s_arStr {o : Oper} {a : Act} {T : Tm} {src dst e : TypeId} {x : Operand} {c r : AV} (hs : Sim G B0 w0 w s M) (hT : TmR w s M T a) (hop : o.op = .convert src dst x) (h1 : P.underlying src = some (.slice e)) (h2 : P.underlying dst = some .string) (h3 : P.underlying e = some (.int .u8))
  (hx : opd G T x = some c) (h : arStr s c = some r) : OpOk P G B0 w0 w s M o a r s := by
 have vx := opd_sound hs hT hx
 have fin : ∀ (ad : Addr) (m cap : Nat) (ns : List Int) (ee : E), a.eval x = .slice (some ad) m cap -> ns.length = m -> (∀ (j : Nat) (q : Value), (ns.map (Value.int .u8))[j]? = some q -> w.cell? (ad.add j) = some q) -> ee.den M.env = .lst (ns.map fun n => D.row [.v (.int .u8 n)]) -> OpOk P G B0 w0 w s M o a (.x .s (.pr .sofl [ee])) s := by
  intro ad m cap ns ee hev hl hat hden
  have hf := run_firstCells_some (P := P) w 1 m ad m cap (ns.map (Value.int .u8)) (by rw [List.length_map, hl, Nat.mul_one]) hat
  simp only [Builtin.firstCells, Nat.mul_one] at hf
  refine ok_here hs (v := .string (ns.foldl (fun r n => r.push (UInt8.ofNat n.toNat)) .empty)) ?_ ?_
  ·simp only [execOp, hop, Sem.run_bind, hev, run_convert_bytes_string w src dst e _ _ _ h1 h3 h2, run_bytesToString w _ m cap ns hf, Result.andThen_ok, Sem.run_pure]
  ·unfold VR
   exact ⟨sofl_den hden, rfl⟩
 unfold arStr at h
 split at h
 ·rename_i b off en wh wd
  split at h
  ·rename_i rt ex z hg
   split at h
   ·rename_i hc
    cases h
    simp only [Bool.and_eq_true] at hc
    obtain ⟨⟨c1, c2⟩, c3⟩ := hc
    have c1 := nbe c1
    subst c1
    have c2 : s.k.shape rt = [.sc (.i .u8)] := of_decide_eq_true c2
    have g3 := upToN_sound hs c3
    unfold VR at vx
    obtain ⟨hb, n, n', m, cap, p1, p2, ev, hle, hn', _⟩ := vx
    obtain ⟨cc, ty, fr, rows, a1, a2, a3, a4, a5, a6⟩ := hs.obj b _ hb hg
    obtain ⟨ns, hns, rfl⟩ := bytes_rows c2 a3 a4
    rw [p2, lenN_den, a2] at g3
    have g3 : ((n + m : Nat) : Int) <= ((ns.map fun n => D.row [.v (.int .u8 n)]).length : Nat) := g3
    rw [List.length_map] at g3
    have hat : At w (M.blk b) 0 (ns.map (Value.int .u8)) := by rw [<- hns]; exact (at_block a1).take _
    have hl1 : ((ns.take (n + m)).drop n).length = m := by rw [List.length_drop, List.length_take]; omega
    refine fin ⟨M.blk b, n' * 1, none⟩ m cap ((ns.take (n + m)).drop n) _ ev hl1 (fun j q hj => ?_) ?_
    ·have hjm : j < m := by
      have := (List.getElem?_eq_some_iff.1 hj).1
      rw [List.length_map, hl1] at this; exact this
     rw [hn' (by omega), add_eq, Nat.mul_one]
     have := hat (n + j) q (by
      rw [List.getElem?_map] at hj ⊢
      rw [List.getElem?_drop, List.getElem?_take, if_pos (by omega)] at hj
      exact hj)
     rw [Nat.zero_add] at this
     exact this
    ·split
     ·rename_i hcc
      rw [Bool.and_eq_true] at hcc
      have q1 := isLit0_den (env := M.env) hcc.1
      rw [q1] at p1
      injection p1 with p1
      injection p1 with _ p1
      have hn0 : n = 0 := by omega
      subst hn0
      have q2 := eEq_eq hcc.2
      rw [q2, lenN_den, a2] at p2
      injection p2 with p2
      injection p2 with _ p2
      have p2 : (((ns.map fun n => D.row [.v (.int .u8 n)]).length : Nat) : Int) = ((0 + m : Nat) : Int) := p2
      rw [List.length_map] at p2
      rw [a2, List.drop_zero, List.take_of_length_le (by omega)]
     ·simp only [E.den, E.denL, Prim.den, a2, p1, p2, D.rows]
      show D.lst (((ns.map _).take ((n + m : Nat) : Int).toNat).drop ((n : Nat) : Int).toNat) = _
      rw [show (((n + m : Nat) : Int)).toNat = n + m by omega, show ((n : Nat) : Int).toNat = n by omega, <- List.map_take, <- List.map_drop]
   ·cases h
  ·cases h
 ·rename_i t ex tok
  split at h
  ·rename_i hc
   cases h
   have c2 : s.k.shape t = [.sc (.i .u8)] := of_decide_eq_true hc
   rcases VR_d vx with ⟨q, a0, c0, ev⟩ | ⟨rows, b, off, cap, q1, ev, q3, q4, q5⟩
   ·cases a0 with
    | none =>
     refine ok_here hs (v := .string .empty) ?_ ?_
     ·simp only [execOp, hop, Sem.run_bind, ev, run_convert_bytes_string w src dst e _ _ _ h1 h3 h2]
      simp [Conv.bytesToString]
     ·unfold VR
      exact ⟨sofl_den (ns := []) q, rfl⟩
    | some ad => exact fin ad 0 c0 [] ex ev rfl (fun j q hj => by simp at hj) q
   ·obtain ⟨vs, g1, g2⟩ := DVr_vals q4
    obtain ⟨ns, rfl, rfl⟩ := bytes_rows c2 q5 g1
    exact fin ⟨b, off, none⟩ _ cap ns ex ev (by rw [List.length_map]) (fun j q hj => by rw [add_eq]; exact g2 j q hj) q1
  ·cases h
 ·cases h
theorem s_los {o : Oper} {a : Act} {T : Tm} {src dst e : TypeId} {x : Operand} {ex : E} (hs : Sim G B0 w0 w s M) (hT : TmR w s M T a) (hop : o.op = .convert src dst x) (h1 : P.underlying src = some .string) (h2 : P.underlying dst = some (.slice e)) (h3 : P.underlying e = some (.int .u8))
  (hx : opd G T x = some (.x .s ex)) (hr : s.room = true) (hb : bytesSh s.k e = true) : OpOk P G B0 w0 w s M o a (.d e (.pr .los [ex]) (some s.n)) (s.new (.row (.e (.pr .los [ex]) 1) 1)) := by
 have vx := opd_sound hs hT hx
 unfold VR at vx
 obtain ⟨dx, tx⟩ := vx
 obtain ⟨b, eb⟩ := tyV_s tx
 rw [eb] at dx
 have c2 : s.k.shape e = [.sc (.i .u8)] := of_decide_eq_true hb
 let cap := (Question.appendCap b.size 0 e).cut (w.tape w.drawn (.appendCap b.size 0 e))
 have hcap : b.size <= cap := by simp [cap, Question.cut]
 let cells : Array Value := (b.data.map fun b => .int .u8 b.toNat) ++ Array.replicate (cap - b.size) (.int .u8 0)
 have hsz : cells.size = cap := by simp only [cells, Array.size_append, Array.size_map, Array.size_replicate]; show b.size + (cap - b.size) = cap; omega
 have hmark : (markStringish ⟨w.drew.heap.size, 0, none⟩).run P (w.drew.alloc (.cells cells e)) = .ok () (w.drew.alloc (.cells cells e (cells.size, cells.size + 1))) := by
  have hsh : (w.drew.alloc (.cells cells e)).shape? w.drew.heap.size = some (e, cells.size) := by unfold World.shape?; rw [heap_new]
  unfold markStringish
  simp only [Sem.run_bind, run_shape, Result.andThen_ok, hsh, run_freeze]
  congr 1
  unfold World.freeze
  rw [if_neg (by decide)]
  show ({ w.drew.alloc (.cells cells e) with heap := (w.drew.heap.push (.cells cells e)).modify w.drew.heap.size _ } : World) = { w.drew with heap := w.drew.heap.push (.cells cells e (cells.size, cells.size + 1)) }
  have hm : ∀ (a : Array Obj) (x : Obj) (f : Obj -> Obj), (a.push x).modify a.size f = a.push (f x) := by
   intro a x f
   apply Array.ext
   ·simp
   ·intro i h1 h2
    simp only [Array.getElem_modify, Array.getElem_push]
    by_cases h : a.size = i
    ·subst h; simp
    ·have hi : i < a.size := by simp at h1; omega
     simp [h, hi]
  rw [hm]
  rfl
 have hrun : (execOp a.eval o).run P w = .ok (.value (.slice (some ⟨w.heap.size, 0, none⟩) b.size cap)) (w.drew.alloc (.cells cells e (cells.size, cells.size + 1))) := by
  have hm' := hmark
  simp only [World.size_drew] at hm'
  simp only [execOp, hop, convert, eb, Sem.run_bind, run_underlying h1, run_underlying h2, run_underlying h3, Result.andThen_ok, Conv.stringToBytes, run_choose, Question.forced, Bool.false_eq_true, if_false, newRow, run_newObj, World.alloc_eq, World.drew_eq, Sem.run_pure]
  show Result.andThen (Result.andThen ((markStringish ⟨w.drew.heap.size, 0, none⟩).run P (w.drew.alloc (.cells cells e))) _) _ = _
  rw [hmark]
  rfl
 have hs1 := sim_drew hs
 have hden : (E.pr .los [ex]).den M.env = .lst (b.data.toList.map fun c => .row [.v (.int .u8 c.toNat)]) := by simp only [E.den, E.denL, Prim.den, dx, D.str]
 have hrl : (b.data.toList.map fun c => D.row [.v (.int .u8 c.toNat)]).length = b.size := by rw [List.length_map]; simp
 have htip : (Tip.e (.pr .los [ex]) 1).val M.env = b.size := by
  show ((E.pr .los [ex]).den M.env).rows.length * 1 = _
  rw [hden, Nat.mul_one]; exact hrl
 obtain ⟨hs2, hE2⟩ := new_row hs1 hr (vs := cells) e (cells.size, cells.size + 1) (.e (.pr .los [ex]) 1) 1 cap (by rw [hsz, Nat.mul_one]) (by rw [htip, hsz]; exact hcap) (.inr (Nat.le_refl _))
 refine ok_value hrun ?_ hs2 (ext_drew.trans hE2)
 have hgn : (s.new (.row (.e (.pr .los [ex]) 1) 1)).get s.n = some (.row (.e (.pr .los [ex]) 1) 1) := by rw [St.get_new _ _ _ (room_lt hr)]; exact if_pos rfl
 have hbn : (M.add s.n w.drew.heap.size cap).blk s.n = w.heap.size := by simp [Mp.add]
 have hlt : s.n < (s.new (.row (.e (.pr .los [ex]) 1) 1)).n := by simp [St.new]
 have henv : (M.add s.n w.drew.heap.size cap).env = M.env := rfl
 unfold VR
 rw [henv, hden]
 refine ⟨?_, ?_, fun t ht => ?_⟩
 ·unfold DV
  refine .inr ⟨w.heap.size, 0, cap, by rw [hrl], by rw [hrl]; exact hcap, ?_⟩
  refine DVr_of (vs := b.data.toList.map fun c => Value.int .u8 c.toNat) (fun d hd => ?_) ?_ fun j v hj => ⟨?_, ?_⟩
  ·rw [List.mem_map] at hd; obtain ⟨c, _, rfl⟩ := hd; exact ⟨_, rfl⟩
  ·generalize b.data.toList = l
   induction l with
   | nil => exact rfl
   | cons c r ih =>
    refine ⟨_, _, rfl, ?_, ih⟩
    unfold DV
    exact ⟨rfl, trivial⟩
  ·have := heap_new w.drew (.cells cells e (cells.size, cells.size + 1))
   have hsz' : w.drew.heap.size = w.heap.size := rfl
   rw [hsz'] at this
   simp only [World.cell?, this]
   have hjl := (List.getElem?_eq_some_iff.1 hj).1
   rw [List.length_map] at hjl
   show cells[0 + j]? = some v
   rw [Nat.zero_add, Array.getElem?_append_left (by simpa using hjl), <- Array.getElem?_toList, Array.toList_map]
   exact hj
  ·have hjl := (List.getElem?_eq_some_iff.1 hj).1
   rw [List.length_map] at hjl
   have := imm_row hs2 hlt hgn (i := 0 + j) (by rw [henv, htip, Nat.zero_add]; simpa using hjl)
   rw [hbn] at this; exact this
 ·show fits s.k.shape _ _
  unfold fits
  generalize b.data.toList = l
  induction l with
  | nil => unfold fitsR; trivial
  | cons c r ih =>
   simp only [List.map_cons]
   unfold fitsR fitsW
   rw [c2]
   refine ⟨?_, ih⟩
   unfold fitsC fits fitsC
   exact ⟨rfl, trivial⟩
 ·cases ht
  exact ⟨hlt, fun tip e' _ => ⟨b.size, by rw [hbn]; simp [Mp.add]⟩⟩
theorem s_arLen {o : Oper} {a : Act} {T : Tm} {c : Go.Call} {t0 el : TypeId} {ox : Operand} {b : Nat} {off en : E} {wh : Bool} {wd : Nat} {r : E} (hs : Sim G B0 w0 w s M) (hT : TmR w s M T a) (hop : o.op = .call c) (hc : c.callee = .builtin .len) (hA0 : c.argTypes[0]? = some t0)
  (hargs : c.args.toList = [ox]) (hx : opd G T ox = some (.so b off en wh wd)) (hd : P.underlying t0 = some (.slice el)) (h : (isLit0 off = true /\ r = en) \/ (fewE s.k en = true /\ r = .pr (.iop .sub .i64) [en, off])) : OpOk P G B0 w0 w s M o a (.x (.i .i64) r) s := by
 have ho : opds G T c.args.toList = some [.so b off en wh wd] := by rw [hargs]; simp only [opds, hx]; rfl
 obtain ⟨v, hv, vx⟩ := args_head (hs := hs) hT ho rfl
 unfold VR at vx
 obtain ⟨hb, n, n', m, cap, p1, p2, rfl, hle, _⟩ := vx
 have key : (Builtin.len_ c.argTypes o.type (c.args.map a.eval)).run P w = .ok (goInt m) w := by
  unfold Builtin.len_
  rw [hA0, hv]
  simp only [Sem.run_bind, run_underlying hd, Result.andThen_ok]
  rfl
 refine ok_here hs (v := goInt m) ?_ ?_
 ·simp [execOp, hop, resolve, hc, invoke, builtin, key]
 ·unfold VR
  refine ⟨?_, rfl⟩
  rcases h with ⟨h1, rfl⟩ | ⟨h1, rfl⟩
  ·rw [isLit0_den h1] at p1
   injection p1 with p1
   injection p1 with _ p1
   have hn : n = 0 := by omega
   subst hn
   rw [p2, Nat.zero_add]; rfl
  ·have h2 := fewE_sound hs h1
   rw [p2] at h2
   have h2 : ((n + m : Nat) : Int) <= rowMax := h2
   have h3 : (rowMax : Int) = 4294967296 := rfl
   simp only [E.den, E.denL, Prim.den, p1, p2]
   show D.v (.int .i64 (IntKind.i64.wrap (((n + m : Nat) : Int) - (n : Int)))) = _
   rw [wrap_id64 (by omega) (by omega), show ((n + m : Nat) : Int) - (n : Int) = (m : Int) by omega]; rfl
theorem evArr_sound {o : Oper} {a : Act} {T : Tm} {x : AV} {s' : St} (hs : Sim G B0 w0 w s M) (hT : TmR w s M T a) (h : evArr P G o T s = some (x, s')) : OpOk P G B0 w0 w s M o a x s' := by
 unfold evArr at h
 split at h
 ·rename_i t y ix hop
  simp only [Option.bind_eq_bind, Option.bind_eq_some_iff, Option.pure_def, Option.some.injEq, Prod.mk.injEq] at h
  obtain ⟨c, h1, v, h2, r, h3, rfl, rfl⟩ := h
  exact s_arAt hs hT hop h1 h2 h3
 ·rename_i t y hop
  simp only [Option.bind_eq_bind, Option.bind_eq_some_iff, Option.pure_def, Option.some.injEq, Prod.mk.injEq] at h
  obtain ⟨c, h1, r, h3, rfl, rfl⟩ := h
  exact s_arLoad hs hT hop h1 h3
 ·rename_i t p y hop
  simp only [Option.bind_eq_bind, Option.bind_eq_some_iff, Option.pure_def, Option.some.injEq, Prod.mk.injEq] at h
  obtain ⟨c, h1, v, h2, r, h3, rfl, rfl⟩ := h
  exact s_arStore hs hT hop h1 h2 h3
 ·rename_i t y lo hi mx hop
  split at h
  ·cases h
  ·rename_i hm
   have hm : mx = none := by cases mx <;> simp at hm ⊢
   subst hm
   simp only [Option.bind_eq_bind, Option.bind_eq_some_iff, Option.pure_def, Option.some.injEq, Prod.mk.injEq] at h
   obtain ⟨c, h1, l, h2, hh, h3, r, h4, rfl, rfl⟩ := h
   exact s_arSlice hs hT hop h1 h2 h3 h4
 ·rename_i src dst y hop
  split at h
  ·rename_i e g1 g2
   split at h
   ·rename_i g3
    simp only [Option.bind_eq_bind, Option.bind_eq_some_iff, Option.pure_def, Option.some.injEq, Prod.mk.injEq] at h
    obtain ⟨c, h1, r, h3, rfl, rfl⟩ := h
    exact s_arStr hs hT hop g1 g2 g3 h1 h3
   ·cases h
  ·rename_i e g1 g2
   split at h
   ·rename_i g3
    simp only [Option.bind_eq_bind, Option.bind_eq_some_iff] at h
    obtain ⟨c, h1, h⟩ := h
    split at h
    ·split at h
     ·rename_i hc
      rw [Bool.and_eq_true] at hc
      simp only [Option.some.injEq, Prod.mk.injEq] at h
      obtain ⟨rfl, rfl⟩ := h
      exact s_los hs hT hop g1 g2 g3 h1 hc.1 hc.2
     ·cases h
    ·cases h
   ·cases h
  ·cases h
 ·rename_i c hop
  split at h
  ·rename_i hc
   simp only [Option.bind_eq_bind, Option.bind_eq_some_iff] at h
   obtain ⟨t0, h1, h⟩ := h
   split at h
   ·rename_i el ox hu hargs
    simp only [Option.bind_eq_some_iff] at h
    obtain ⟨p, h3, h⟩ := h
    split at h
    ·split at h
     ·rename_i hl
      simp only [Option.some.injEq, Prod.mk.injEq] at h
      obtain ⟨rfl, rfl⟩ := h
      exact s_arLen hs hT hop hc h1 hargs h3 hu (.inl ⟨hl, rfl⟩)
     ·split at h
      ·rename_i hf
       simp only [Option.some.injEq, Prod.mk.injEq] at h
       obtain ⟨rfl, rfl⟩ := h
       exact s_arLen hs hT hop hc h1 hargs h3 hu (.inr ⟨hf, rfl⟩)
      ·cases h
    ·cases h
   ·cases h
  ·rename_i hc
   simp only [Option.bind_eq_bind, Option.bind_eq_some_iff] at h
   obtain ⟨t0, h1, t1, h2, h⟩ := h
   split at h
   ·rename_i e d ox oy hu hu1 hargs
    have key : (∀ k, d ≠ .int k) -> (do
      let x <- opd G T ox
      let y <- opd G T oy
      match x with
      | .so _ _ _ _ _ => arAppend P e s x y
      | x => match d with | .string => symAppend P e s x y | _ => none) = some (x, s') -> OpOk P G B0 w0 w s M o a x s' := by
     intro hd h
     simp only [Option.bind_eq_bind, Option.bind_eq_some_iff] at h
     obtain ⟨p, h3, q, h4, h⟩ := h
     split at h
     ·exact s_arAppend hs hT hop hc h1 h2 hu hu1 hd hargs h3 h4 h
     ·split at h
      ·exact s_symAppend hs hT hop hc h1 h2 hu hu1 hd hargs h3 h4 h
      ·cases h
    split at h
    ·exact key (fun k => by simp) h
    ·exact key (fun k => by simp) h
    ·cases h
   ·cases h
  ·cases h
 ·cases h
end
end Go.Ab
