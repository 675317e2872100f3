/- Merged own texts, without what this claim does not use. -/
import Derived.Test.YtflhikakndanjaaDoorMb
import Derived.RecoverIn
set_option linter.unusedVariables false
set_option linter.unusedSimpArgs false
set_option linter.unusedSectionVars false
set_option linter.constructorNameAsVariable false
/- The evaluator's operations against the model's: rows made of noughts, and copied into. -/
namespace Go.Ab
open Go Go.RowKit

section
variable {C : Nat -> Nat -> Option Value} {I : Nat -> Nat -> Prop}
theorem DVl_rep {cs : List D} {us : List Value} (h : DVl C I cs us) : ∀ n, DVl C I (flat (List.replicate n (.row cs))) ((List.replicate n us).flatten)
 | 0 => by show DVl C I [] []; rfl
 | n + 1 => by
  rw [List.replicate_succ, List.replicate_succ, List.flatten_cons]
  show DVl C I (cs ++ flat (List.replicate n (.row cs))) _
  exact h.append (DVl_rep h n)
theorem fitsR_rep {tb : Nat -> List CT} {t : Nat} {d : D} (h : fitsW tb d t) (n : Nat) : fitsR tb (List.replicate n d) t :=
 fitsR_mem.2 fun x hx => by rw [(List.mem_replicate.1 hx).2]; exact h
end
section
variable [Interp] {P : Program} {G : Nat -> Option (List AV)} {B0 : Nat} {w0 w : World} {s : St} {M : Mp}
theorem s_arMake {o : Oper} {a : Act} {T : Tm} {t : TypeId} {ol oc : Operand} {cl cc r : AV} {s' : St} (hs : Sim G B0 w0 w s M) (hT : TmR w s M T a) (hop : o.op = .makeSlice t ol oc) (hl : opd G T ol = some cl) (hc : opd G T oc = some cc)
  (h : arMake P t s cl cc = some (r, s')) : OpOk P G B0 w0 w s M o a r s' := by
 unfold arMake at h
 split at h
 ·rename_i e ht
  simp only [Option.bind_eq_bind, Option.bind_eq_some_iff] at h
  obtain ⟨size, h1, bytes, h2, z, h3, el, hel, ec, hec, es, hes, h⟩ := h
  split at h
  ·rename_i hcnd
   simp only [Option.some.injEq, Prod.mk.injEq] at h
   obtain ⟨rfl, rfl⟩ := h
   simp only [Bool.and_eq_true, Bool.not_eq_true'] at hcnd
   obtain ⟨⟨⟨⟨⟨⟨⟨⟨c1, c2⟩, c3⟩, hroom⟩, c5⟩, c6⟩, c7⟩, c8⟩, c9⟩ := hcnd
   have hL := nbe c1
   have hz := nbe c3
   have c6 := eEq_eq c6
   subst c6
   obtain ⟨i, zv, hi, hzv, rfl, rfl, hz2, hzs⟩ := info_of h1 h2 h3 hz
   have h80 : i.size < tyBase := Nat.le_of_ble_eq_true c5
   have hi0 : i.size ≠ 0 := fun e => by rw [e] at c2; cases c2
   obtain ⟨j, el1, ed⟩ := int64E_sound hel (opd_sound hs hT hl)
   obtain ⟨j', el2, ed'⟩ := int64E_sound hec (opd_sound hs hT hc)
   rw [ed] at ed'
   injection ed' with ed'
   injection ed' with _ ed'
   subst ed'
   have g0 := nonNeg_sound hs c7
   have g1 := fewE_sound hs c8
   rw [ed] at g0 g1
   have g0 : (0 : Int) <= j := g0
   have g1 : j <= 4294967296 := g1
   have hb : i.bytes <= 256 := Nat.le_of_ble_eq_true c9
   have hb40 : i.bytes * j.toNat <= 2 ^ 40 := Nat.le_trans (Nat.mul_le_mul hb (show j.toNat <= 4294967296 by omega)) (by decide)
   have h40 : j.toNat <= 2 ^ 40 := Nat.le_trans (show j.toNat <= 4294967296 by omega) (by decide)
   have hrun := run_makeSlice' (w := w) ht hi hzv hzs (kl := .i64) (kc := .i64) g0 (Int.le_refl j) hb40 h40
   have hzl : VRl w s M z zv.cells.toList := VRl_scAll hz2
   obtain ⟨q1, q2⟩ := cellsX_pre _ hes hzl
   rw [List.take_of_length_le (by rw [<- hzl.length, hz, hL]; exact Nat.le_refl _)] at q1
   have hk0 : codeOf e i.size % tyBase ≠ 0 := by rw [codeOf_mod h80]; exact hi0
   have hden : (E.pr .rep [el, .pr .row es]).den M.env = .lst (List.replicate j.toNat (.row (E.denL M.env es))) := by
    simp only [E.den, E.denL, Prim.den, ed]
    rfl
   have hsz : ((List.replicate j.toNat zv.cells.toList).flatten).toArray.size = j.toNat * i.size := by
    rw [List.size_toArray]
    have : ∀ n, ((List.replicate n zv.cells.toList).flatten).length = n * zv.cells.toList.length := fun n => by
     induction n with
     | zero => simp
     | succ n ih => rw [List.replicate_succ, List.flatten_cons, List.length_append, ih, Nat.succ_mul]; omega
    rw [this, Array.length_toList, hzs]
   have hfl : (flat (List.replicate j.toNat (D.row (E.denL M.env es)))).length = j.toNat * i.size := by
    have := flat_length (fitsR_rep (t := e) (d := .row (E.denL M.env es)) (by unfold fitsW; exact q2) j.toNat)
    rw [this, List.length_replicate, hL]
   have hE := ext_new (w := w) (M := M) (room_lt hroom) (fun i hi => (hs.blk i hi).2) (.cells ((List.replicate j.toNat zv.cells.toList).flatten).toArray e) (.ar e (.pr .rep [el, .pr .row es]) (codeOf e i.size)) j.toNat
   have hs' := sim_new hs (room_lt hroom) (.cells ((List.replicate j.toNat zv.cells.toList).flatten).toArray e) (.ar e (.pr .rep [el, .pr .row es]) (codeOf e i.size)) j.toNat
    ⟨_, e, (0, 0), _, heap_new _ _, hden, fitsR_rep (by unfold fitsW; exact q2) _, by
     rw [List.take_of_length_le (by rw [hfl, <- hsz, List.size_toArray]; exact Nat.le_refl _)]
     exact (DVl_rep q1 _).mono hE.cells, .inl rfl, fun _ => by rw [codeOf_mod h80]; exact hsz, fun _ => ⟨(codeOf_div h80).symm, fun h1 => absurd h1 hk0⟩⟩
   refine ok_value (v := .slice (some ⟨w.heap.size, 0, none⟩) j.toNat j.toNat) (by simp [execOp, hop, el1, el2, hrun]) ?_ hs' hE
   unfold VR
   have hbn : (M.add s.n w.heap.size j.toNat).blk s.n = w.heap.size := by simp [Mp.add]
   have hcn : (M.add s.n w.heap.size j.toNat).cap s.n = j.toNat := by simp [Mp.add]
   refine ⟨by simp [St.new], 0, 0, j.toNat, j.toNat, rfl, ?_, by rw [hbn, Nat.zero_mul], Nat.le_refl _, fun _ => rfl, fun _ => ⟨rfl, rfl, hcn.symm⟩⟩
   show el.den M.env = _
   rw [ed, Nat.zero_add, Int.toNat_of_nonneg g0]
  ·cases h
 ·cases h
theorem s_arCopy {o : Oper} {a : Act} {T : Tm} {c : Go.Call} {t0 e : TypeId} {ox oy : Operand} {x y r : AV} {s' : St} (hs : Sim G B0 w0 w s M) (hT : TmR w s M T a) (hop : o.op = .call c) (hc : c.callee = .builtin .copy) (hA0 : c.argTypes[0]? = some t0) (ht0 : P.underlying t0 = some (.slice e))
  (hargs : c.args.toList = [ox, oy]) (hx : opd G T ox = some x) (hy : opd G T oy = some y) (h : arCopy P e s x y = some (r, s')) : OpOk P G B0 w0 w s M o a r s' := by
 have vx := opd_sound hs hT hx
 have vy := opd_sound hs hT hy
 have hargs' : c.args.map a.eval = #[a.eval ox, a.eval oy] := by apply Array.toList_inj.1; rw [Array.toList_map, hargs]; rfl
 unfold arCopy at h
 simp only [Option.bind_eq_bind, Option.bind_eq_some_iff] at h
 obtain ⟨size, hn, ey, hey, h⟩ := h
 split at h
 ·rename_i b off en wh wd
  split at h
  ·rename_i rt ex z hg
   split at h
   ·rename_i hcnd
    simp only [Option.some.injEq, Prod.mk.injEq] at h
    obtain ⟨rfl, rfl⟩ := h
    simp only [Bool.and_eq_true] at hcnd
    obtain ⟨⟨⟨⟨⟨c1, c2⟩, c3⟩, c4⟩, c5⟩, c6⟩ := hcnd
    have hL := nbe c1
    have c2 := nbe c2
    have c3 := isLit0_den (env := M.env) c3
    have c4 := nbe c4
    subst c2 c4
    have g5 := upToN_sound hs c5
    have g6 := upToN_sound hs c6
    rw [lenN_den] at g5 g6
    obtain ⟨rows, vs, d1, f1, g1, hvl, hlen, hf1, hf2⟩ := rowsE_sound (P := P) hs hL hey vy
    unfold VR at vx
    obtain ⟨hb, n0, n0', m, cap, p1, p2, exv, hle, hnn, _⟩ := vx
    rw [c3] at p1
    injection p1 with p1
    injection p1 with _ p1
    have p1 : n0 = 0 := by omega
    subst p1
    rw [Nat.zero_add] at p2
    obtain ⟨cc, ty, fr, xr, a1, a2, a3, a4, a5, a6⟩ := hs.obj b _ hb hg
    rw [p2, d1] at g5
    rw [p2, a2] at g6
    have g5 : ((rows.length : Nat) : Int) <= (m : Int) := g5
    have g6 : (m : Int) <= ((xr.length : Nat) : Int) := g6
    have hrm : rows.length <= m := by omega
    have hmx : m <= xr.length := by omega
    have hmin : Nat.min rows.length m = rows.length := Nat.min_eq_left hrm
    have hfl := flat_length a3
    rw [hL] at hfl
    have hfy := flat_length f1
    rw [hL] at hfy
    have hlf := a4.length
    have hsz0 : (flat xr).length <= cc.size := by rw [List.length_take] at hlf; simp at hlf; omega
    have hvx : vs.length <= (flat xr).length := by rw [hvl, hfl]; exact Nat.mul_le_mul_right _ (by omega)
    obtain ⟨k1, k2, k3⟩ := heap_setCells vs 0 w cc a1 (by omega)
    have hst : (storeCells ⟨M.blk b, 0, none⟩ vs).run P w = .ok () (w.setCells (M.blk b) 0 vs) := by
     have := run_storeCells_cells (P := P) (M.blk b) 0 vs 0 w (fun j hj => ?_) (fun j hj => ?_) (DVl_oneCell g1)
     ·simpa using this
     ·simp only [World.cell?, a1]
      simp
      omega
     ·simp only [World.frozen?, a1]
      have := a5.no (show 0 + 0 + j < cc.size by omega)
      simp only [Bool.and_eq_false_iff, decide_eq_false_iff_not]
      rcases Classical.em (fr.1 <= 0 + 0 + j) with q | q
      ·exact .inr fun q' => this ⟨q, q'⟩
      ·exact .inl q
    have hst0 : (storeCells ⟨M.blk b, n0' * wd, none⟩ vs).run P w = .ok () (w.setCells (M.blk b) 0 vs) := by
     by_cases h0 : m = 0
     ·have : rows = [] := List.eq_nil_of_length_eq_zero (by omega)
      rw [this, List.length_nil, Nat.zero_mul] at hvl
      have hv0 : vs = [] := List.eq_nil_of_length_eq_zero hvl
      subst hv0
      rfl
     ·rw [hnn h0, Nat.zero_mul]; exact hst
    have key : (Builtin.copy_ c.argTypes o.type (c.args.map a.eval)).run P w = .ok (goInt rows.length) (w.setCells (M.blk b) 0 vs) := by
     rw [hargs', exv]
     simp [Builtin.copy_, hA0, run_underlying ht0, hlen, run_sizeOf hn, hmin, hf1, hst0]
    have hden : (E.pr .cat [ey, .pr .sub [ex, lenN ey, lenN ex]]).den M.env = .lst (rows ++ xr.drop rows.length) := by
     simp only [E.den, E.denL, Prim.den, d1, a2, lenN_den, D.rows, D.int]
     rw [Int.toNat_natCast, Int.toNat_natCast, List.take_length]
    have hdr : fitsR s.k.shape (xr.drop rows.length) rt := fitsR_mem.2 fun d hd => fitsR_mem.1 a3 d (List.mem_of_mem_drop hd)
    have hfr := fitsR_append f1 hdr
    have hfd := flat_length hdr
    rw [hL, List.length_drop] at hfd
    have htot : (flat (rows ++ xr.drop rows.length)).length = (flat xr).length := by
     rw [flat_append, List.length_append, hfy, hfd, hfl, <- Nat.add_mul]
     congr 1; omega
    have hsplit : flat xr = flat (xr.take rows.length) ++ flat (xr.drop rows.length) := by
     rw [<- flat_append, List.take_append_drop]
    have htk : fitsR s.k.shape (xr.take rows.length) rt := fitsR_mem.2 fun d hd => fitsR_mem.1 a3 d (List.mem_of_mem_take hd)
    have hft := flat_length htk
    rw [hL, List.length_take, Nat.min_eq_left (by omega)] at hft
    rw [hsplit] at a4
    obtain ⟨_, s2⟩ := DVl.split a4
    rw [hft, <- hvl, <- hsplit] at s2
    have hE : Ext w s M (w.setCells (M.blk b) 0 vs) (s.put b (.ar rt (.pr .cat [ey, .pr .sub [ex, lenN ey, lenN ex]]) z)) M :=
     ext_write hs hb hg (fun _ _ => by simp) trivial (fun _ _ => by simp) trivial k2 (by omega)
    have hns : (cc.toList.take 0 ++ vs ++ cc.toList.drop (0 + vs.length)).toArray.size = cc.size := by
     rw [List.size_toArray, List.length_append, List.length_append, List.length_take, List.length_drop, Array.length_toList]
     omega
    refine ok_value (v := goInt rows.length) ?_ ?_ (sim_write hs hb hg (fun _ _ => by simp) trivial (fun _ _ => by simp) trivial k2 (below_setCells (hs.blk b hb).1 _ _ w hs.below) k3 ⟨_, ty, fr, _, k1, hden, hfr, ?_, by rw [hns]; exact a5, by rw [hns, htot]; exact a6⟩) hE
    ·simp [execOp, hop, resolve, hc, invoke, builtin, key]
    ·unfold VR
     refine ⟨?_, rfl⟩
     rw [lenN_den, d1]; rfl
    ·rw [htot, flat_append]
     have e1 : ((cc.toList.take 0 ++ vs ++ cc.toList.drop (0 + vs.length)).toArray.toList).take (flat xr).length = vs ++ (cc.toList.take (flat xr).length).drop vs.length := by
      show (cc.toList.take 0 ++ vs ++ cc.toList.drop (0 + vs.length)).take (flat xr).length = _
      rw [List.take_zero, List.nil_append, Nat.zero_add, List.take_append, List.take_of_length_le hvx, List.drop_take]
     rw [e1]
     exact (g1.append s2).mono hE.cells
   ·cases h
  ·cases h
 ·cases h
theorem evMore_sound {o : Oper} {a : Act} {T : Tm} {x : AV} {s' : St} (hs : Sim G B0 w0 w s M) (hT : TmR w s M T a) (h : evMore P G o T s = some (x, s')) : OpOk P G B0 w0 w s M o a x s' := by
 unfold evMore at h
 split at h
 ·rename_i t l c hop
  simp only [Option.bind_eq_bind, Option.bind_eq_some_iff] at h
  obtain ⟨p, h1, q, h2, h⟩ := h
  exact s_arMake hs hT hop h1 h2 h
 ·rename_i c hop
  split at h
  ·rename_i hc
   simp only [Option.bind_eq_bind, Option.bind_eq_some_iff] at h
   obtain ⟨t0, h1, h⟩ := h
   split at h
   ·rename_i e ox oy hu hargs
    simp only [Option.bind_eq_some_iff] at h
    obtain ⟨p, h3, q, h4, h⟩ := h
    exact s_arCopy hs hT hop hc h1 hu hargs h3 h4 h
   ·cases h
  ·cases h
 ·cases h
theorem evSym_sound {o : Oper} {a : Act} {T : Tm} {x : AV} {s' : St} (hs : Sim G B0 w0 w s M) (hT : TmR w s M T a) (h : evSym P G o T s = some (x, s')) : OpOk P G B0 w0 w s M o a x s' := by
 unfold evSym at h
 split at h
 ·rename_i r hr
  cases h
  exact evSym0_sound hs hT hr
 ·split at h
  ·rename_i r hr
   cases h
   exact evArr_sound hs hT hr
  ·exact evMore_sound hs hT h
end
end Go.Ab
/- The evaluator against the model: each operation. -/
namespace Go.Ab
open Go Go.RowKit

section
variable [Interp] {P : Program} {G : Nat -> Option (List AV)} {B0 : Nat} {w0 w : World} {s : St} {M : Mp}

def OpP (P : Program) (G : Nat -> Option (List AV)) (B0 : Nat) (w0 w : World) (s : St) (M : Mp) (o : Oper) (a : Act) (x : AV) (s' : St) : Prop :=
 ∀ (ro : Option Nat) (next : Act -> World -> Prop) (Q : Exit -> Act -> World -> Prop), (∀ v w' M', VR w' s' M' x v -> Sim G B0 w0 w' s' M' -> Ext w s M w' s' M' -> next (a.put o.dst v) w') ->
  (∀ y v w' M', isPan x = some y -> VR w' s' M' y v -> Sim G B0 w0 w' s' M' -> Ext w s M w' s' M' -> Q (.panic [{ v, recovered := false }]) a w') -> (o.uponIn (FW ro) 0 P a next Q ((execOp a.eval o).run P w))
theorem OpOk.up {o : Oper} {a : Act} {x : AV} {s' : St} (h : OpOk P G B0 w0 w s M o a x s') : OpP P G B0 w0 w s M o a x s' := fun ro next Q hn _ => h ro next Q hn
theorem OpP.down {o : Oper} {a : Act} {x : AV} {s' : St} (h : OpP P G B0 w0 w s M o a x s') (hx : isPan x = none) : OpOk P G B0 w0 w s M o a x s' := fun ro next Q hn => h ro next Q hn fun y v w' M' hy => by rw [hx] at hy; cases hy

def Done0 (G : Nat -> Option (List AV)) (B0 : Nat) (w0 w : World) (s : St) (M : Mp) (r : AV) (s' : St) : Ending -> World -> Prop := fun e w' =>
 ∃ v M', e = .returned v /\ VR w' s' M' r v /\ Sim G B0 w0 w' s' M' /\ Ext w s M w' s' M'
def Done (G : Nat -> Option (List AV)) (B0 : Nat) (w0 w : World) (s : St) (M : Mp) (r : AV) (s' : St) : Ending -> World -> Prop := fun e w' =>
 ∃ M', ((∃ v, e = .returned v /\ VR w' s' M' r v) \/ ∃ y v, isPan r = some y /\ e = .panicked [{ v, recovered := false }] /\ VR w' s' M' y v) /\ Sim G B0 w0 w' s' M' /\ Ext w s M w' s' M'
theorem Done.down {r : AV} {s' : St} {e : Ending} {w' : World} (h : Done G B0 w0 w s M r s' e w') (hr : isPan r = none) : Done0 G B0 w0 w s M r s' e w' := by
 obtain ⟨M', ⟨v, h1, h2⟩ | ⟨y, v, h1, _⟩, h3, h4⟩ := h
 ·exact ⟨v, M', h1, h2, h3, h4⟩
 ·rw [hr] at h1; cases h1
theorem Done0.up {r : AV} {s' : St} {e : Ending} {w' : World} (h : Done0 G B0 w0 w s M r s' e w') : Done G B0 w0 w s M r s' e w' := by
 obtain ⟨v, M', h1, h2, h3, h4⟩ := h
 exact ⟨M', .inl ⟨v, h1, h2⟩, h3, h4⟩
def CallOk (P : Program) (G : Nat -> Option (List AV)) (B0 : Nat) (w0 : World) (call : Ab.Call) : Prop :=
 ∀ fr args s r s', call fr args s = some (r, s') -> ∀ (w : World) (M : Mp) (vs : Array Value), Sim G B0 w0 w s M -> VRl w s M args vs.toList ->
  match fr with
  | .func f => CallsIn (FW none) 0 P f vs w (Done G B0 w0 w s M r s')
  | .yield l => ∃ rc : Loop, l < s.n /\ w.heap[M.blk l]? = some (.loop rc) /\ vs.size = rc.params.size /\
    RoundIn (FW none) 0 P (M.blk l) rc.fn ((rc.params.zip vs).foldl (fun tmps (t, a) => tmps.setIfInBounds t a) rc.tmps) rc.assign rc.body w (Done G B0 w0 w s M r s')
  | _ => False
theorem callsIn_ro {ro : Option Nat} {n : Nat} {f : FuncId} {args : Array Value} {w : World} {R : Ending -> World -> Prop} (h : CallsIn (FW none) n P f args w R) : CallsIn (FW ro) n P f args w R := by
 cases ro with
 | none => exact h
 | some l => exact h
theorem roundIn_ro {ro : Option Nat} {n l : Nat} {f : FuncId} {tmps : Array Value} {asg body : Code} {w : World} {R : Ending -> World -> Prop} (h : RoundIn (FW none) n P l f tmps asg body w R) : RoundIn (FW ro) n P l f tmps asg body w R := by
 cases ro with
 | none => exact h
 | some l => exact h

def NoNum (P : Program) : Prop := ∀ (f : Nat) (fn : Func), P.funcs[f]? = some fn -> (fn.name == "runtime.NumGoroutine") = false

theorem s_callA {call : Ab.Call} (hP : NoNum P) (hcall : CallOk P G B0 w0 call) {o : Oper} {a : Act} {g : FuncId} {args : List AV} {vs : Array Value} {x : AV} {s' : St} (hs : Sim G B0 w0 w s M) (hex : (execOp a.eval o).run P w = (callFunc g vs).run P w) (hv : VRl w s M args vs.toList)
  (h : callA P call g args s = some (x, s')) : OpP P G B0 w0 w s M o a x s' := by
 unfold callA at h
 split at h
 ·cases h
 ·rename_i fn hfn
  split at h
  ·rename_i body hb
   intro ro next Q hn hp
   have hr : (execOp a.eval o).run P w = .ok (.enter g vs) w := by
    rw [hex]
    unfold callFunc
    have hn' : ¬ fn.name = "runtime.NumGoroutine" := by simpa using hP g fn hfn
    simp [hfn, hn', hb]
   rw [hr, Oper.uponIn_enter]
   refine ⟨fun h => (by cases h), callsIn_ro ((hcall (.func g) args s x s' h w M vs hs hv).mono ?_)⟩
   rintro e w' ⟨M', ⟨v, rfl, k1⟩ | ⟨y, v, hy, rfl, k1⟩, k2, k3⟩
   ·exact hn v w' M' k1 k2 k3
   ·exact hp y v w' M' hy k1 k2 k3
  ·rename_i hb
   split at h
   ·rename_i hn
    rw [Bool.and_eq_true] at hn
    split at h
    ·cases h
     unfold VRl at hv
     obtain ⟨v, t, e, hv, ht⟩ := hv
     unfold VRl at ht
     subst ht
     have e2 : vs = #[v] := by apply Array.toList_inj.1; rw [e]
     subst e2
     exact OpOk.up (ok_here hs (hex.trans (noEscape_run (hP g fn hfn) hfn hb hn.1 hn.2 v w)) hv)
    ·cases h
   ·simp only [Option.bind_eq_bind, Option.bind_eq_some_iff] at h
    obtain ⟨us, h1, r, h2, h⟩ := h
    have e1 := unAll_some h1 hv
    have e2 : vs = us.toArray := by apply Array.toList_inj.1; rw [e1]
    subst e2
    have hr := runPure_run h2 w
    rw [<- hex] at hr
    split at h
    ·simp only [Option.bind_eq_some_iff, Option.pure_def, Option.some.injEq, Prod.mk.injEq] at h
     obtain ⟨y, h3, rfl, rfl⟩ := h
     exact OpOk.up (ok_here hs hr (VR_outValue h3))
    ·cases h

theorem callB_calls {call : Ab.Call} (hP : NoNum P) (hcall : CallOk P G B0 w0 call) {g : FuncId} {args : List AV} {vs : Array Value} {x : AV} {s' : St} (hs : Sim G B0 w0 w s M) (hv : VRl w s M args vs.toList)
  (h : callB P call g args s = some (x, s')) : (callFunc g vs).run P w = .ok (.enter g vs) w /\ CallsIn (FW none) 0 P g vs w (Done0 G B0 w0 w s M x s') := by
 unfold callB at h
 split at h
 ·cases h
 ·rename_i fn hfn
  split at h
  ·rename_i body hb
   split at h
   ·rename_i x1 s1 hc
    split at h
    ·rename_i hx
     simp only [Option.some.injEq, Prod.mk.injEq] at h
     obtain ⟨rfl, rfl⟩ := h
     have hx : isPan x1 = none := by simpa using hx
     refine ⟨?_, (hcall (.func g) args s x1 s1 hc w M vs hs hv).mono fun e w' k => Done.down k hx⟩
     unfold callFunc
     have hn' : ¬ fn.name = "runtime.NumGoroutine" := by simpa using hP g fn hfn
     simp [hfn, hn', hb]
    ·cases h
   ·cases h
  ·cases h
theorem s_yield {call : Ab.Call} (hcall : CallOk P G B0 w0 call) {o : Oper} {a : Act} {l : Nat} {args : List AV} {vs : Array Value} {x : AV} {s' : St} (hs : Sim G B0 w0 w s M) (hex : execOp a.eval o = Instr.yield (M.blk l) vs) (hv : VRl w s M args vs.toList)
  (h : call (.yield l) args s = some (x, s')) : OpP P G B0 w0 w s M o a x s' := by
 intro ro next Q hn hp
 obtain ⟨rc, _, h1, h2, h3⟩ := hcall (.yield l) args s x s' h w M vs hs hv
 rw [hex, run_yield h1 h2, Oper.uponIn_round]
 refine ⟨fun h => (by cases h), roundIn_ro (h3.mono ?_)⟩
 rintro e w' ⟨M', ⟨v, rfl, k1⟩ | ⟨y, v, hy, rfl, k1⟩, k2, k3⟩
 ·exact hn v w' M' k1 k2 k3
 ·exact hp y v w' M' hy k1 k2 k3


theorem s_makeInterface {o : Oper} {a : Act} {T : Tm} {t : TypeId} {x : Operand} {c : AV} {d : TypeDesc} (hs : Sim G B0 w0 w s M) (hT : TmR w s M T a) (hop : o.op = .makeInterface t x) (hu : P.underlying t = some d) (hd : ∀ ms, d ≠ .interface ms) (h : opd G T x = some c) : OpOk P G B0 w0 w s M o a (.iface t c) s := by
 have hv := opd_sound hs hT h
 refine ok_here hs (v := .iface t (a.eval x)) ?_ (by unfold VR; exact ⟨_, rfl, hv⟩)
 cases d <;> first | exact absurd rfl (hd _) | simp [execOp, hop, Instr.makeInterface, run_underlying hu]
theorem s_typeAssert {o : Oper} {a : Act} {T : Tm} {xt t : TypeId} {x : Operand} {c : AV} {d : TypeDesc} (hs : Sim G B0 w0 w s M) (hT : TmR w s M T a) (hop : o.op = .typeAssert x xt t false) (hu : P.underlying t = some d) (hd : ∀ ms, d ≠ .interface ms) (h : opd G T x = some (.iface t c)) : OpOk P G B0 w0 w s M o a c s := by
 have hv := opd_sound hs hT h
 unfold VR at hv
 obtain ⟨v, e, hv⟩ := hv
 refine ok_here hs (v := v) ?_ hv
 cases d <;> first | exact absurd rfl (hd _) | simp [execOp, hop, Instr.typeAssert, run_underlying hu, e]
theorem s_typeAssert_ok {o : Oper} {a : Act} {T : Tm} {xt t : TypeId} {x : Operand} {c : AV} {d : TypeDesc} (hs : Sim G B0 w0 w s M) (hT : TmR w s M T a) (hop : o.op = .typeAssert x xt t true) (hu : P.underlying t = some d) (hd : ∀ ms, d ≠ .interface ms) (h : opd G T x = some (.iface t c)) : OpOk P G B0 w0 w s M o a (.tup [c, .v (.bool true)]) s := by
 have hv := opd_sound hs hT h
 unfold VR at hv
 obtain ⟨v, e, hv⟩ := hv
 refine ok_here hs (v := .tuple #[v, .bool true]) ?_ (VR_tup (VRl_cons hv (VRl_cons (VR_v_of rfl) VRl_nil)))
 cases d <;> first | exact absurd rfl (hd _) | simp [execOp, hop, Instr.typeAssert, run_underlying hu, e]
theorem s_typeAssert_no {o : Oper} {a : Act} {T : Tm} {xt t u : TypeId} {x : Operand} {c z : AV} {zv : Value} {d : TypeDesc} (hs : Sim G B0 w0 w s M) (hT : TmR w s M T a) (hop : o.op = .typeAssert x xt t true) (hu : P.underlying t = some d) (hd : ∀ ms, d ≠ .interface ms) (h : opd G T x = some (.iface u c)) (hne : u ≠ t)
  (hz1 : zeroT P t = some zv) (hz2 : ofValue zv = some z) : OpOk P G B0 w0 w s M o a (.tup [z, .v (.bool false)]) s := by
 have hv := opd_sound hs hT h
 unfold VR at hv
 obtain ⟨v, e, hv⟩ := hv
 refine ok_here hs (v := .tuple #[zv, .bool false]) ?_ (VR_tup (VRl_cons (VR_ofValue hz2) (VRl_cons (VR_v_of rfl) VRl_nil)))
 cases d <;> first | exact absurd rfl (hd _) | simp [execOp, hop, Instr.typeAssert, run_underlying hu, e, hne, run_zeroValue hz1]
theorem s_panic {o : Oper} {a : Act} {T : Tm} {t : TypeId} {x : Operand} {c : AV} (hs : Sim G B0 w0 w s M) (hT : TmR w s M T a) (hop : o.op = .panic x) (h : opd G T x = some (.iface t c)) : OpP P G B0 w0 w s M o a (.pan (.iface t c)) s := by
 have hv := opd_sound hs hT h
 have hv' := hv
 unfold VR at hv
 obtain ⟨v, e, hv⟩ := hv
 intro ro next Q hn hp
 have hr : (execOp a.eval o).run P w = .halt (.panic (a.eval x)) w := by
  simp [execOp, hop, Instr.panic, e, goPanic]
 rw [hr, Oper.uponIn_panic]
 exact hp _ _ w M rfl hv' hs (Ext.refl _ _ _)

theorem op1_sound {call : Ab.Call} (hP : NoNum P) (hcall : CallOk P G B0 w0 call) {o : Oper} {a : Act} {T : Tm} {x : AV} {s' : St} (hs : Sim G B0 w0 w s M) (hT : TmR w s M T a) (h : evOp1 P G call o T s = some (x, s')) : OpP P G B0 w0 w s M o a x s' := by
 cases hop : o.op
 case move y =>
  simp only [evOp1, hop, Option.bind_eq_bind, Option.bind_eq_some_iff, Option.pure_def, Option.some.injEq, Prod.mk.injEq] at h
  obtain ⟨c, h1, rfl, rfl⟩ := h
  exact OpOk.up (s_move hs hT (.inl hop) h1)
 case assign y =>
  simp only [evOp1, hop, Option.bind_eq_bind, Option.bind_eq_some_iff, Option.pure_def, Option.some.injEq, Prod.mk.injEq] at h
  obtain ⟨c, h1, rfl, rfl⟩ := h
  exact OpOk.up (s_move hs hT (.inr hop) h1)
 case pick c p q =>
  simp only [evOp1, hop, Option.bind_eq_bind, Option.bind_eq_some_iff] at h
  obtain ⟨cv, h1, h⟩ := h
  split at h
  ·simp only [Option.bind_eq_some_iff, Option.pure_def, Option.some.injEq, Prod.mk.injEq] at h
   obtain ⟨d, h2, rfl, rfl⟩ := h
   exact OpOk.up (s_pick hs hT hop h1 h2)
  ·simp only [Option.bind_eq_some_iff, Option.pure_def, Option.some.injEq, Prod.mk.injEq] at h
   obtain ⟨d, h2, rfl, rfl⟩ := h
   exact OpOk.up (s_pick hs hT hop h1 h2)
  ·cases h
 case alloc t =>
  simp only [evOp1, hop, Option.bind_eq_bind, Option.bind_eq_some_iff] at h
  obtain ⟨z, h1, h⟩ := h
  split at h
  ·rename_i hr
   simp only [Option.some.injEq, Prod.mk.injEq] at h
   obtain ⟨rfl, rfl⟩ := h
   exact OpOk.up (s_alloc hs hop h1 hr)
  ·cases h
 case box t y =>
  simp only [evOp1, hop, Option.bind_eq_bind, Option.bind_eq_some_iff] at h
  obtain ⟨c, h1, h⟩ := h
  split at h
  ·rename_i hr
   rw [Bool.and_eq_true] at hr
   simp only [Option.some.injEq, Prod.mk.injEq] at h
   obtain ⟨rfl, rfl⟩ := h
   exact OpOk.up (s_box hs hT hop h1 hr.1 hr.2)
  ·cases h
 case build t ps =>
  simp only [evOp1, hop, Option.bind_eq_bind, Option.bind_eq_some_iff] at h
  obtain ⟨z, h1, qs, h2, h⟩ := h
  split at h
  ·rename_i fs hu
   simp only [Option.bind_eq_some_iff, Option.pure_def, Option.some.injEq, Prod.mk.injEq] at h
   obtain ⟨pl, h3, cs, h4, rfl, rfl⟩ := h
   exact OpOk.up (s_build_struct hs hT hop h1 h2 hu h3 h4)
  ·rename_i n e hu
   simp only [Option.bind_eq_some_iff, Option.pure_def, Option.some.injEq, Prod.mk.injEq] at h
   obtain ⟨size, h3, cs, h4, rfl, rfl⟩ := h
   exact OpOk.up (s_build_array hs hT hop h1 h2 hu h3 h4)
  ·cases h
 case buildSlice t len ps =>
  simp only [evOp1, hop, Option.bind_eq_bind] at h
  split at h
  ·rename_i e hu
   simp only [Option.bind_eq_some_iff] at h
   obtain ⟨size, h1, z, h2, qs, h3, h⟩ := h
   split at h
   ·cases h
   ·rename_i hc
    simp only [Bool.or_eq_true, Bool.not_eq_true', not_or, Bool.not_eq_false] at hc
    obtain ⟨c1, c2⟩ := hc
    simp only [Option.bind_eq_some_iff] at h
    obtain ⟨cs, h4, h⟩ := h
    split at h
    ·split at h
     ·rename_i hcell
      simp only [Option.some.injEq, Prod.mk.injEq] at h
      obtain ⟨rfl, rfl⟩ := h
      exact OpOk.up (s_buildSlice hs hT hop hu h1 h2 h3 (nbe c1) (Nat.le_of_ble_eq_true c2) h4 hcell)
     ·cases h
    ·split at h
     ·rename_i hcell
      rw [Bool.and_eq_true] at hcell
      simp only [Option.some.injEq, Prod.mk.injEq] at h
      obtain ⟨rfl, rfl⟩ := h
      exact OpOk.up (s_buildSliceRow hs hT hop hu h1 h2 h3 (nbe c1) (Nat.le_of_ble_eq_true c2) hcell.1 h4 hcell.2)
     ·cases h
  ·cases h
 case load t y =>
  simp only [evOp1, hop, Option.bind_eq_bind, Option.bind_eq_some_iff] at h
  obtain ⟨c, h1, h⟩ := h
  split at h
  ·simp only [Option.bind_eq_some_iff, Option.pure_def, Option.some.injEq, Prod.mk.injEq] at h
   obtain ⟨d, h2, rfl, rfl⟩ := h
   exact OpOk.up (s_loadRow hs hT hop h1 h2)
  ·simp only [Option.bind_eq_some_iff, Option.pure_def, Option.some.injEq, Prod.mk.injEq] at h
   obtain ⟨d, h2, rfl, rfl⟩ := h
   exact OpOk.up (s_load_ref hs hT hop h1 h2)
  ·split at h
   ·rename_i hg
    simp only [Option.bind_eq_some_iff, Option.pure_def, Option.some.injEq, Prod.mk.injEq] at h
    obtain ⟨d, h2, rfl, rfl⟩ := h
    exact OpOk.up (s_load_box hs hT hop h1 hg h2)
   ·cases h
  ·cases h
 case store t p y =>
  simp only [evOp1, hop, Option.bind_eq_bind, Option.bind_eq_some_iff] at h
  obtain ⟨c, h1, n, h2, q, h3, h⟩ := h
  split at h
  ·split at h
   ·rename_i hg
    split at h
    ·rename_i hc
     simp only [Bool.and_eq_true] at hc
     simp only [Option.some.injEq, Prod.mk.injEq] at h
     obtain ⟨rfl, rfl⟩ := h
     exact OpOk.up (s_store hs hT hop h1 h2 h3 hg (nbe hc.1.1) (Nat.le_of_ble_eq_true hc.1.2) hc.2)
    ·cases h
   ·cases h
  ·cases h
 case nilCheck y =>
  simp only [evOp1, hop, Option.bind_eq_bind, Option.bind_eq_some_iff] at h
  obtain ⟨c, h1, h⟩ := h
  split at h <;> simp only [Option.pure_def, Option.some.injEq, Prod.mk.injEq, reduceCtorEq] at h
  ·obtain ⟨rfl, rfl⟩ := h; exact OpOk.up (s_nilCheck hs hT hop h1 (.inl ⟨_, rfl⟩))
  ·obtain ⟨rfl, rfl⟩ := h; exact OpOk.up (s_nilCheck hs hT hop h1 (.inr (.inl ⟨_, _, rfl⟩)))
  ·obtain ⟨rfl, rfl⟩ := h; exact OpOk.up (s_nilCheck hs hT hop h1 (.inr (.inr ⟨_, _, _, rfl⟩)))
 case binOp op t y z yt =>
  simp only [evOp1, hop, Option.bind_eq_bind] at h
  split at h
  ·rename_i hsc
   simp only [Option.map_eq_some_iff, Prod.mk.injEq] at h
   obtain ⟨d, h1, rfl, rfl⟩ := h
   exact OpOk.up (s_scalar hs (exec_binOp hs hT hop hsc) h1)
  ·simp only [Option.bind_eq_some_iff] at h
   obtain ⟨c, h1, d, h2, h⟩ := h
   split at h
   ·rename_i r h3
    simp only [Option.pure_def, Option.some.injEq, Prod.mk.injEq] at h
    obtain ⟨rfl, rfl⟩ := h
    exact OpOk.up (s_symCmp hs hT hop h1 h2 h3)
   ·split at h
    ·rename_i r h3
     simp only [Option.pure_def, Option.some.injEq, Prod.mk.injEq] at h
     obtain ⟨rfl, rfl⟩ := h
     refine OpOk.up (s_symBin (fun hu => ?_) hs hT hop h1 h2 h3)
     split at hu
     ·rename_i e; exact e
     ·cases hu
    ·split at h
     ·rename_i r h3
      simp only [Option.pure_def, Option.some.injEq, Prod.mk.injEq] at h
      obtain ⟨rfl, rfl⟩ := h
      exact OpOk.up (s_symEqA hs hT hop h1 h2 h3)
     ·simp only [Option.bind_eq_some_iff] at h
      obtain ⟨r, h3, h⟩ := h
      split at h <;> simp only [Option.pure_def, Option.some.injEq, Prod.mk.injEq, reduceCtorEq] at h
      ·obtain ⟨rfl, rfl⟩ := h; exact OpOk.up (s_eqRef hs hT hop h1 h2 h3 (.inl rfl))
      ·obtain ⟨rfl, rfl⟩ := h; exact OpOk.up (s_eqRef hs hT hop h1 h2 h3 (.inr rfl))
 case unOp op t y =>
  simp only [evOp1, hop] at h
  split at h
  ·rename_i hsc
   simp only [Option.map_eq_some_iff, Prod.mk.injEq] at h
   obtain ⟨d, h1, rfl, rfl⟩ := h
   exact OpOk.up (s_scalar hs (exec_unOp hs hT hop hsc) h1)
  ·simp only [Option.bind_eq_bind, Option.bind_eq_some_iff, Option.pure_def, Option.some.injEq, Prod.mk.injEq] at h
   obtain ⟨c, h1, r, h2, rfl, rfl⟩ := h
   exact OpOk.up (s_symUn hs hT hop h1 h2)
 case convert src dst y =>
  simp only [evOp1, hop, Option.bind_eq_bind] at h
  split at h
  ·rename_i e hu1 hu2
   simp only [Option.bind_eq_some_iff] at h
   obtain ⟨c, h1, h⟩ := h
   split at h
   ·rename_i b hu3
    split at h
    ·rename_i hc
     rw [Bool.and_eq_true] at hc
     simp only [Option.some.injEq, Prod.mk.injEq] at h
     obtain ⟨rfl, rfl⟩ := h
     exact OpOk.up (s_str_bytes hs hT hop hu1 hu2 hu3 h1 hc.1)
    ·cases h
   ·cases h
  ·rename_i e hu1 hu2
   split at h
   ·rename_i hu3
    simp only [Option.bind_eq_some_iff] at h
    obtain ⟨c, h1, h⟩ := h
    split at h
    ·simp only [Option.pure_def, Option.some.injEq, Prod.mk.injEq] at h
     obtain ⟨rfl, rfl⟩ := h
     exact OpOk.up (s_nil_str hs hT hop hu1 hu2 hu3 h1 (.inl ⟨_, _, rfl⟩))
    ·simp only [Option.pure_def, Option.some.injEq, Prod.mk.injEq] at h
     obtain ⟨rfl, rfl⟩ := h
     exact OpOk.up (s_nil_str hs hT hop hu1 hu2 hu3 h1 (.inr rfl))
    ·simp only [Option.bind_eq_some_iff, Option.pure_def, Option.some.injEq, Prod.mk.injEq] at h
     obtain ⟨⟨cs, n⟩, h2, b, h3, rfl, rfl⟩ := h
     exact OpOk.up (s_bytes_str hs hT hop hu1 hu2 hu3 h1 (.inl ⟨_, _, _, rfl⟩) h2 h3)
    ·simp only [Option.bind_eq_some_iff, Option.pure_def, Option.some.injEq, Prod.mk.injEq] at h
     obtain ⟨⟨cs, n⟩, h2, b, h3, rfl, rfl⟩ := h
     exact OpOk.up (s_bytes_str hs hT hop hu1 hu2 hu3 h1 (.inr (.inl ⟨_, _, _, rfl⟩)) h2 h3)
    ·simp only [Option.bind_eq_some_iff, Option.pure_def, Option.some.injEq, Prod.mk.injEq] at h
     obtain ⟨⟨cs, n⟩, h2, b, h3, rfl, rfl⟩ := h
     exact OpOk.up (s_bytes_str hs hT hop hu1 hu2 hu3 h1 (.inr (.inr ⟨_, _, rfl⟩)) h2 h3)
    ·cases h
   ·cases h
  ·rename_i e e2 hu1 hu2
   simp only [Option.bind_eq_some_iff] at h
   obtain ⟨c, h1, h⟩ := h
   split at h
   ·rename_i hu3
    split at h
    ·rename_i hg
     split at h
     ·rename_i he
      have he := nbe he; subst he
      simp only [Option.pure_def, Option.some.injEq, Prod.mk.injEq] at h
      obtain ⟨rfl, rfl⟩ := h
      exact OpOk.up (s_refreeze hs hT hop hu1 hu2 hu3 h1 hg)
     ·cases h
    ·cases h
   ·cases h
  ·rename_i e hu1 hu2
   simp only [Option.bind_eq_some_iff] at h
   obtain ⟨c, h1, h⟩ := h
   exact OpOk.up (s_toUnsafe hs hT hop hu1 hu2 h1 h)
  ·rename_i e hu1 hu2
   simp only [Option.bind_eq_some_iff] at h
   obtain ⟨c, h1, h⟩ := h
   exact OpOk.up (s_fromUnsafe hs hT hop hu1 hu2 h1 h)
  ·split at h
   ·rename_i hsc
    simp only [Option.map_eq_some_iff, Prod.mk.injEq] at h
    obtain ⟨d, h1, rfl, rfl⟩ := h
    exact OpOk.up (s_scalar hs (exec_convert hs hT hop hsc) h1)
   ·simp only [Option.bind_eq_some_iff, Option.pure_def, Option.some.injEq, Prod.mk.injEq] at h
    obtain ⟨c, h1, r, h2, rfl, rfl⟩ := h
    exact OpOk.up (s_symConv hs hT hop h1 h2)
 case makeFunc fn first captured =>
  simp only [evOp1, hop, Option.bind_eq_bind, Option.bind_eq_some_iff] at h
  obtain ⟨p, h1, q, h2, h⟩ := h
  split at h
  ·simp only [Option.pure_def, Option.some.injEq, Prod.mk.injEq] at h
   obtain ⟨rfl, rfl⟩ := h
   exact OpOk.up (s_makeFunc hs hT hop h1 h2)
  ·cases h
 case makeInterface t y =>
  simp only [evOp1, hop] at h
  split at h
  ·cases h
  ·cases h
  ·rename_i d hno hu
   simp only [Option.bind_eq_bind, Option.bind_eq_some_iff, Option.pure_def, Option.some.injEq, Prod.mk.injEq] at h
   obtain ⟨c, h1, rfl, rfl⟩ := h
   exact OpOk.up (s_makeInterface hs hT hop hu (fun ms e => hno ms e) h1)
 case typeAssert y xt t ok =>
  simp only [evOp1, hop] at h
  split at h
  ·cases h
  ·cases h
  ·rename_i d hno hu
   simp only [Option.bind_eq_bind, Option.bind_eq_some_iff] at h
   obtain ⟨c, h1, h⟩ := h
   split at h
   ·split at h
    ·rename_i he
     have he := nbe he
     subst he
     split at h
     ·rename_i hok
      subst hok
      simp only [Option.pure_def, Option.some.injEq, Prod.mk.injEq] at h
      obtain ⟨rfl, rfl⟩ := h
      exact OpOk.up (s_typeAssert_ok hs hT hop hu (fun ms e => hno ms e) h1)
     ·rename_i hok
      have hok : ok = false := by simpa using hok
      subst hok
      simp only [Option.pure_def, Option.some.injEq, Prod.mk.injEq] at h
      obtain ⟨rfl, rfl⟩ := h
      exact OpOk.up (s_typeAssert hs hT hop hu (fun ms e => hno ms e) h1)
    ·rename_i he
     split at h
     ·rename_i hok
      subst hok
      simp only [Option.bind_eq_some_iff, Option.pure_def, Option.some.injEq, Prod.mk.injEq] at h
      obtain ⟨z, ⟨zv, h2, h3⟩, rfl, rfl⟩ := h
      exact OpOk.up (s_typeAssert_no hs hT hop hu (fun ms e => hno ms e) h1 (fun e => he (by rw [e]; exact nbt _)) h2 h3)
     ·cases h
   ·cases h
 case panic y =>
  simp only [evOp1, hop, Option.bind_eq_bind, Option.bind_eq_some_iff] at h
  obtain ⟨c, h1, h⟩ := h
  split at h
  ·simp only [Option.pure_def, Option.some.injEq, Prod.mk.injEq] at h
   obtain ⟨rfl, rfl⟩ := h
   exact s_panic hs hT hop h1
  ·cases h
 case makeMap t r =>
  simp only [evOp1, hop] at h
  split at h
  ·split at h
   ·rename_i hr
    simp only [Option.some.injEq, Prod.mk.injEq] at h
    obtain ⟨rfl, rfl⟩ := h
    exact OpOk.up (s_makeMap hs hop hr)
   ·cases h
  ·cases h
 case makeSlice t l c =>
  simp only [evOp1, hop, Option.bind_eq_bind] at h
  split at h
  ·rename_i e hu
   simp only [Option.bind_eq_some_iff] at h
   obtain ⟨size, h1, bytes, h2, z, h3, cl, h4, ln, h5, cc, h6, cn, h7, h⟩ := h
   split at h
   ·cases h
   ·rename_i hc
    simp only [Bool.or_eq_true, Bool.not_eq_true', not_or, Bool.not_eq_false] at hc
    obtain ⟨⟨⟨c1, c2⟩, c3⟩, c4⟩ := hc
    split at h
    ·rename_i he
     have he := nbe he; subst he
     simp only [Option.some.injEq, Prod.mk.injEq] at h
     obtain ⟨rfl, rfl⟩ := h
     exact OpOk.up (s_make_full hs hT hop hu h1 h2 h3 (nbe c1) h4 h6 h5 h7 c2 (Nat.le_of_ble_eq_true c3) (Nat.le_of_ble_eq_true c4))
    ·split at h
     ·rename_i he
      have he := nbe he; subst he
      simp only [Option.some.injEq, Prod.mk.injEq] at h
      obtain ⟨rfl, rfl⟩ := h
      exact OpOk.up (s_make_none hs hT hop hu h1 h2 h3 (nbe c1) h4 h6 h5 h7 c2 (Nat.le_of_ble_eq_true c3) (Nat.le_of_ble_eq_true c4))
     ·cases h
  ·cases h
 case fieldAddr st y i =>
  simp only [evOp1, hop, Option.bind_eq_bind] at h
  split at h
  ·rename_i fs hu
   simp only [Option.bind_eq_some_iff] at h
   obtain ⟨f, h1, n, h2, h⟩ := h
   split at h
   ·cases h
   ·rename_i hne
    have hne : n ≠ 0 := fun e => hne (by rw [e]; rfl)
    simp only [Option.bind_eq_some_iff] at h
    obtain ⟨c, h3, h⟩ := h
    split at h <;> simp only [Option.pure_def, Option.some.injEq, Prod.mk.injEq, reduceCtorEq] at h
    ·obtain ⟨rfl, rfl⟩ := h; exact OpOk.up (s_fieldAddr hs hT hop hu h1 h2 hne h3 (.inl ⟨_, rfl, rfl⟩))
    ·obtain ⟨rfl, rfl⟩ := h; exact OpOk.up (s_fieldRow hs hT hop hu h1 h2 hne h3)
    ·obtain ⟨rfl, rfl⟩ := h; exact OpOk.up (s_fieldAddr hs hT hop hu h1 h2 hne h3 (.inr ⟨_, _, rfl, rfl⟩))
  ·cases h
 case field st y i =>
  simp only [evOp1, hop, Option.bind_eq_bind] at h
  split at h
  ·rename_i fs hu
   simp only [Option.bind_eq_some_iff] at h
   obtain ⟨f, h1, c, h3, h⟩ := h
   split at h
   ·simp only [Option.bind_eq_some_iff, Option.pure_def, Option.some.injEq, Prod.mk.injEq] at h
    obtain ⟨d, h4, rfl, rfl⟩ := h
    exact OpOk.up (s_field hs hT hop hu h1 h3 h4)
   ·cases h
  ·cases h
 case indexAddr t y ix =>
  simp only [evOp1, hop, Option.bind_eq_bind, Option.bind_eq_some_iff] at h
  obtain ⟨c0, h0, h⟩ := h
  split at h
  ·rename_i rt e el hu
   simp only [Option.bind_eq_some_iff] at h
   obtain ⟨n, h3, h⟩ := h
   split at h
   ·cases h
   ·rename_i hL
    simp only [Option.bind_eq_some_iff, Option.pure_def, Option.some.injEq, Prod.mk.injEq] at h
    obtain ⟨v, h4, e', h5, rfl, rfl⟩ := h
    exact OpOk.up (s_symAt hs hT hop hu h3 (nbe (by simpa using hL)) h0 h4 h5)
  ·simp only [Option.bind_eq_some_iff] at h
   obtain ⟨ci, h1, i, h2, h⟩ := h
   split at h
   ·rename_i e hu
    simp only [Option.bind_eq_some_iff] at h
    obtain ⟨n, h3, c, h4, h⟩ := h
    split at h
    ·split at h
     ·rename_i hlt
      simp only [Option.pure_def, Option.some.injEq, Prod.mk.injEq] at h
      obtain ⟨rfl, rfl⟩ := h
      exact OpOk.up (s_indexAddr hs hT hop h1 h2 h3 h4 (.inl ⟨hu, .inl ⟨_, _, _, rfl, Nat.le_of_ble_eq_true hlt, rfl⟩⟩))
     ·cases h
    ·split at h
     ·rename_i hlt
      simp only [Option.pure_def, Option.some.injEq, Prod.mk.injEq] at h
      obtain ⟨rfl, rfl⟩ := h
      exact OpOk.up (s_indexAddr hs hT hop h1 h2 h3 h4 (.inl ⟨hu, .inr (.inl ⟨_, _, _, rfl, Nat.le_of_ble_eq_true hlt, rfl⟩)⟩))
     ·cases h
    ·split at h
     ·rename_i hlt
      simp only [Option.pure_def, Option.some.injEq, Prod.mk.injEq] at h
      obtain ⟨rfl, rfl⟩ := h
      exact OpOk.up (s_indexAddr hs hT hop h1 h2 h3 h4 (.inl ⟨hu, .inr (.inr ⟨_, _, rfl, Nat.le_of_ble_eq_true hlt, rfl⟩)⟩))
     ·cases h
    ·cases h
   ·rename_i len e hu
    simp only [Option.bind_eq_some_iff] at h
    obtain ⟨n, h3, c, h4, h⟩ := h
    split at h
    ·split at h
     ·rename_i hlt
      simp only [Option.pure_def, Option.some.injEq, Prod.mk.injEq] at h
      obtain ⟨rfl, rfl⟩ := h
      exact OpOk.up (s_indexAddr hs hT hop h1 h2 h3 h4 (.inr ⟨_, hu, Nat.le_of_ble_eq_true hlt, .inl ⟨_, rfl, rfl⟩⟩))
     ·cases h
    ·split at h
     ·rename_i hlt
      simp only [Option.pure_def, Option.some.injEq, Prod.mk.injEq] at h
      obtain ⟨rfl, rfl⟩ := h
      exact OpOk.up (s_indexAddr hs hT hop h1 h2 h3 h4 (.inr ⟨_, hu, Nat.le_of_ble_eq_true hlt, .inr ⟨_, _, rfl, rfl⟩⟩))
     ·cases h
    ·cases h
   ·cases h
 case index t y ix =>
  simp only [evOp1, hop, Option.bind_eq_bind] at h
  split at h
  ·rename_i len e hu
   simp only [Option.bind_eq_some_iff] at h
   obtain ⟨ci, h1, i, h2, n, h3, c, h4, h⟩ := h
   split at h
   ·split at h
    ·rename_i hlt
     simp only [Option.bind_eq_some_iff, Option.pure_def, Option.some.injEq, Prod.mk.injEq] at h
     obtain ⟨d, h5, rfl, rfl⟩ := h
     exact OpOk.up (s_index hs hT hop h1 h2 h3 h4 hu (Nat.le_of_ble_eq_true hlt) h5)
    ·cases h
   ·cases h
  ·split at h
   ·rename_i hsc
    simp only [Option.map_eq_some_iff, Prod.mk.injEq] at h
    obtain ⟨d, h1, rfl, rfl⟩ := h
    exact OpOk.up (s_scalar hs (exec_index hs hT hop hsc) h1)
   ·split at h
    ·rename_i hu
     simp only [Option.bind_eq_some_iff, Option.pure_def, Option.some.injEq, Prod.mk.injEq] at h
     obtain ⟨c, h1, ci, h2, r, h3, rfl, rfl⟩ := h
     exact OpOk.up (s_symIndex hs hT hop hu h1 h2 h3)
    ·cases h
 case slice t y lo hi mx =>
  simp only [evOp1, hop, Option.bind_eq_bind] at h
  split at h
  ·rename_i hu
   split at h
   ·cases h
   ·rename_i hmx
    have : mx = none := by cases mx with | none => rfl | some _ => simp at hmx
    subst this
    split at h
    ·rename_i hsc
     simp only [Option.map_eq_some_iff, Prod.mk.injEq] at h
     obtain ⟨d, h1, rfl, rfl⟩ := h
     exact OpOk.up (s_scalar hs (exec_slice hs hT hop hsc) h1)
    ·simp only [Option.bind_eq_some_iff, Option.pure_def, Option.some.injEq, Prod.mk.injEq] at h
     obtain ⟨c, h1, cl, h2, ch, h3, r, h4, rfl, rfl⟩ := h
     exact OpOk.up (s_symSub hs hT hop hu h1 h2 h3 h4)
  ·rename_i e hu
   simp only [Option.bind_eq_some_iff] at h
   obtain ⟨size, h1, l, h2, c, h3, h⟩ := h
   split at h
   ·rename_i m
    simp only [Option.bind_eq_some_iff] at h
    obtain ⟨hn, h4, cm, h5, mn, h6, h⟩ := h
    split at h
    ·rename_i hc
     simp only [Bool.and_eq_true] at hc
     obtain ⟨⟨c1, c2⟩, c3⟩ := hc
     have c1 := nbe c1; have c2 := nbe c2; have c3 := nbe c3
     subst c1 c2 c3
     cases hi with
     | none => cases h4
     | some hi =>
      simp only [bnd0, Option.bind_eq_some_iff] at h4
      obtain ⟨ch, h4, h7⟩ := h4
      split at h <;> simp only [Option.pure_def, Option.some.injEq, Prod.mk.injEq, reduceCtorEq] at h
      ·obtain ⟨rfl, rfl⟩ := h; exact OpOk.up (s_slice_none hs hT hop hu h1 h3 h2 h4 h5 h7 h6 (.inl ⟨_, _, rfl, rfl⟩))
      ·obtain ⟨rfl, rfl⟩ := h; exact OpOk.up (s_slice_none hs hT hop hu h1 h3 h2 h4 h5 h7 h6 (.inr ⟨.inl ⟨_, _, _, rfl⟩, rfl⟩))
      ·obtain ⟨rfl, rfl⟩ := h; exact OpOk.up (s_slice_none hs hT hop hu h1 h3 h2 h4 h5 h7 h6 (.inr ⟨.inr (.inl ⟨_, _, _, rfl⟩), rfl⟩))
      ·obtain ⟨rfl, rfl⟩ := h; exact OpOk.up (s_slice_none hs hT hop hu h1 h3 h2 h4 h5 h7 h6 (.inr ⟨.inr (.inr (.inl ⟨_, _, rfl⟩)), rfl⟩))
      ·obtain ⟨rfl, rfl⟩ := h; exact OpOk.up (s_slice_none hs hT hop hu h1 h3 h2 h4 h5 h7 h6 (.inr ⟨.inr (.inr (.inr rfl)), rfl⟩))
    ·cases h
   ·split at h
    ·simp only [Option.bind_eq_some_iff] at h
     obtain ⟨hn, h4, h⟩ := h
     split at h
     ·rename_i hc
      rw [Bool.and_eq_true] at hc
      simp only [Option.pure_def, Option.some.injEq, Prod.mk.injEq] at h
      obtain ⟨rfl, rfl⟩ := h
      exact OpOk.up (s_slice hs hT hop hu h1 h3 h2 (.inl ⟨_, _, rfl, h4, nbe hc.1, nbe hc.2, rfl⟩))
     ·cases h
    ·simp only [Option.bind_eq_some_iff] at h
     obtain ⟨hn, h4, h⟩ := h
     split at h
     ·rename_i hc
      rw [Bool.and_eq_true] at hc
      simp only [Option.pure_def, Option.some.injEq, Prod.mk.injEq] at h
      obtain ⟨rfl, rfl⟩ := h
      exact OpOk.up (s_slice hs hT hop hu h1 h3 h2 (.inr (.inl ⟨rfl, h4, nbe hc.1, nbe hc.2, rfl⟩)))
     ·cases h
    ·rename_i cs len tok
     simp only [Option.bind_eq_some_iff] at h
     obtain ⟨hn, h4, h⟩ := h
     split at h
     ·cases h
     ·rename_i hc
      simp only [Bool.or_eq_true, Bool.not_eq_true', not_or, Bool.not_eq_false] at hc
      have k1 := Nat.le_of_ble_eq_true hc.1
      have k2 := Nat.le_of_ble_eq_true hc.2
      split at h
      ·rename_i he
       simp only [Option.pure_def, Option.some.injEq, Prod.mk.injEq] at h
       obtain ⟨rfl, rfl⟩ := h
       exact OpOk.up (s_slice hs hT hop hu h1 h3 h2 (.inr (.inr (.inl ⟨_, _, _, rfl, h4, k1, k2, .inl ⟨nbe he, rfl⟩⟩))))
      ·rename_i he
       simp only [Option.pure_def, Option.some.injEq, Prod.mk.injEq] at h
       obtain ⟨rfl, rfl⟩ := h
       refine OpOk.up (s_slice hs hT hop hu h1 h3 h2 (.inr (.inr (.inl ⟨_, _, _, rfl, h4, k1, k2, .inr ⟨fun e => he (by rw [e]; exact nbt _), _, ?_, rfl⟩⟩))))
       split
       ·rename_i hc2
        rw [Bool.and_eq_true] at hc2
        exact .inr ⟨rfl, nbe hc2.1, nbe hc2.2⟩
       ·exact .inl rfl
    ·simp only [Option.bind_eq_some_iff] at h
     obtain ⟨hn, h4, h⟩ := h
     split at h
     ·cases h
     ·rename_i hc
      simp only [Bool.or_eq_true, Bool.not_eq_true', not_or, Bool.not_eq_false] at hc
      have k1 := Nat.le_of_ble_eq_true hc.1
      have k2 := Nat.le_of_ble_eq_true hc.2
      split at h
      ·rename_i he
       simp only [Option.pure_def, Option.some.injEq, Prod.mk.injEq] at h
       obtain ⟨rfl, rfl⟩ := h
       exact OpOk.up (s_slice hs hT hop hu h1 h3 h2 (.inr (.inr (.inr (.inl ⟨_, _, _, rfl, h4, k1, k2, .inl ⟨nbe he, rfl⟩⟩)))))
      ·rename_i he
       simp only [Option.pure_def, Option.some.injEq, Prod.mk.injEq] at h
       obtain ⟨rfl, rfl⟩ := h
       exact OpOk.up (s_slice hs hT hop hu h1 h3 h2 (.inr (.inr (.inr (.inl ⟨_, _, _, rfl, h4, k1, k2, .inr ⟨fun e => he (by rw [e]; exact nbt _), rfl⟩⟩)))))
    ·simp only [Option.bind_eq_some_iff] at h
     obtain ⟨hn, h4, h⟩ := h
     split at h
     ·cases h
     ·rename_i hc
      simp only [Bool.or_eq_true, Bool.not_eq_true', not_or, Bool.not_eq_false] at hc
      have k1 := Nat.le_of_ble_eq_true hc.1
      have k2 := Nat.le_of_ble_eq_true hc.2
      split at h
      ·rename_i he
       simp only [Option.pure_def, Option.some.injEq, Prod.mk.injEq] at h
       obtain ⟨rfl, rfl⟩ := h
       exact OpOk.up (s_slice hs hT hop hu h1 h3 h2 (.inr (.inr (.inr (.inr ⟨_, _, rfl, h4, k1, k2, .inl ⟨nbe he, rfl⟩⟩)))))
      ·rename_i he
       split at h
       ·rename_i hf
        rw [Bool.and_eq_true] at hf
        simp only [Option.pure_def, Option.some.injEq, Prod.mk.injEq] at h
        obtain ⟨rfl, rfl⟩ := h
        exact OpOk.up (s_slice hs hT hop hu h1 h3 h2 (.inr (.inr (.inr (.inr ⟨_, _, rfl, h4, k1, k2, .inr ⟨fun e => he (by rw [e]; exact nbt _), .inl ⟨nbe hf.1, nbe hf.2, rfl⟩⟩⟩)))))
       ·simp only [Option.pure_def, Option.some.injEq, Prod.mk.injEq] at h
        obtain ⟨rfl, rfl⟩ := h
        exact OpOk.up (s_slice hs hT hop hu h1 h3 h2 (.inr (.inr (.inr (.inr ⟨_, _, rfl, h4, k1, k2, .inr ⟨fun e => he (by rw [e]; exact nbt _), .inr rfl⟩⟩)))))
    ·cases h
  ·rename_i n e hu
   simp only [Option.bind_eq_some_iff] at h
   obtain ⟨size, h1, l, h2, hn, h3, h⟩ := h
   split at h
   ·cases h
   ·rename_i hc
    simp only [Bool.or_eq_true, Bool.not_eq_true', not_or, Bool.not_eq_false] at hc
    obtain ⟨⟨c1, c2⟩, c3⟩ := hc
    have : mx = none := by cases mx with | none => rfl | some _ => simp at c1
    subst this
    have c2 := Nat.le_of_ble_eq_true c2
    have c3 := Nat.le_of_ble_eq_true c3
    split at h
    ·cases h
    ·rename_i he
     have he : l ≠ n := fun e => he (by rw [e]; exact nbt _)
     simp only [Option.bind_eq_some_iff] at h
     obtain ⟨c, h4, h⟩ := h
     split at h <;> simp only [Option.pure_def, Option.some.injEq, Prod.mk.injEq, reduceCtorEq] at h
     ·obtain ⟨rfl, rfl⟩ := h; exact OpOk.up (s_slice_arr hs hT hop hu h1 h4 h2 h3 c2 c3 (.inr ⟨_, _, rfl, .inr ⟨he, rfl⟩⟩))
     ·obtain ⟨rfl, rfl⟩ := h; exact OpOk.up (s_slice_arr hs hT hop hu h1 h4 h2 h3 c2 c3 (.inl ⟨_, rfl, .inr ⟨he, rfl⟩⟩))
  ·cases h
 case lookup t y ix ok =>
  simp only [evOp1, hop, Option.bind_eq_bind] at h
  split at h
  ·rename_i k e hu
   simp only [Option.bind_eq_some_iff] at h
   obtain ⟨ck, h1, key, h2, z, ⟨zv, h3, h4⟩, h⟩ := h
   split at h
   ·cases h
   ·rename_i hk
    simp only [Bool.not_eq_true', Bool.not_eq_false] at hk
    simp only [Option.bind_eq_some_iff] at h
    obtain ⟨c, h5, r, h6, h⟩ := h
    have hd : x = (if ok then .tup [r.getD z, .v (.bool r.isSome)] else r.getD z) /\ s' = s := by
     cases ok <;> simp only [if_true, Bool.false_eq_true, if_false, Option.pure_def, Option.some.injEq, Prod.mk.injEq] at h ⊢ <;> exact ⟨h.1.symm, h.2.symm⟩
    obtain ⟨rfl, rfl⟩ := hd
    refine OpOk.up (s_lookup hs hT hop hu h1 h2 h3 h4 hk h5 ?_)
    unfold findIn at h6
    split at h6
    ·cases h6; exact .inl ⟨rfl, rfl⟩
    ·split at h6
     ·rename_i hg; exact .inr ⟨_, _, rfl, hg, h6⟩
     ·cases h6
    ·cases h6
  ·cases h
 case mapUpdate t m k y =>
  simp only [evOp1, hop, Option.bind_eq_bind] at h
  split at h
  ·rename_i kt e hu
   simp only [Option.bind_eq_some_iff] at h
   obtain ⟨ck, h1, key, h2, d, h3, h⟩ := h
   split at h
   ·cases h
   ·rename_i hk
    simp only [Bool.not_eq_true', Bool.not_eq_false] at hk
    simp only [Option.bind_eq_some_iff] at h
    obtain ⟨c, h4, h⟩ := h
    split at h
    ·split at h
     ·rename_i hg
      simp only [Option.bind_eq_some_iff, Option.pure_def, Option.some.injEq, Prod.mk.injEq] at h
      obtain ⟨es', h5, rfl, rfl⟩ := h
      exact OpOk.up (s_mapUpdate hs hT (.inl hop) hu h1 h2 h3 hk h4 hg h5)
     ·cases h
    ·cases h
  ·cases h
 case insert t m k y =>
  simp only [evOp1, hop, Option.bind_eq_bind] at h
  split at h
  ·rename_i kt e hu
   simp only [Option.bind_eq_some_iff] at h
   obtain ⟨ck, h1, key, h2, d, h3, h⟩ := h
   split at h
   ·cases h
   ·rename_i hk
    simp only [Bool.not_eq_true', Bool.not_eq_false] at hk
    simp only [Option.bind_eq_some_iff] at h
    obtain ⟨c, h4, h⟩ := h
    split at h
    ·split at h
     ·rename_i hg
      simp only [Option.bind_eq_some_iff, Option.pure_def, Option.some.injEq, Prod.mk.injEq] at h
      obtain ⟨es', h5, rfl, rfl⟩ := h
      exact OpOk.up (s_mapUpdate hs hT (.inr hop) hu h1 h2 h3 hk h4 hg h5)
     ·cases h
    ·cases h
  ·cases h
 case extract y ix =>
  simp only [evOp1, hop, Option.bind_eq_bind, Option.bind_eq_some_iff] at h
  obtain ⟨c, h1, h⟩ := h
  split at h
  ·simp only [Option.bind_eq_some_iff, Option.pure_def, Option.some.injEq, Prod.mk.injEq] at h
   obtain ⟨d, h2, rfl, rfl⟩ := h
   exact OpOk.up (s_extract hs hT hop h1 h2)
  ·cases h
 case call c =>
  simp only [evOp1, hop, Option.bind_eq_bind, Option.bind_eq_some_iff] at h
  obtain ⟨args, h1, h⟩ := h
  split at h
  ·rename_i hc
   simp only [Option.bind_eq_some_iff] at h
   obtain ⟨t0, h2, h⟩ := h
   split at h
   ·rename_i b hu hx
    simp only [Option.pure_def, Option.some.injEq, Prod.mk.injEq] at h
    obtain ⟨rfl, rfl⟩ := h
    exact OpOk.up (s_len hs hT hop hc h2 h1 hx hu (.inl ⟨rfl, _, rfl, rfl⟩))
   ·rename_i e hu hx
    simp only [Option.pure_def, Option.some.injEq, Prod.mk.injEq] at h
    obtain ⟨rfl, rfl⟩ := h
    exact OpOk.up (s_lenS hs hT hop hc h2 h1 hx hu)
   ·rename_i el rt e hu hx
    simp only [Option.pure_def, Option.some.injEq, Prod.mk.injEq] at h
    obtain ⟨rfl, rfl⟩ := h
    exact OpOk.up (s_lenD hs hT hop hc h2 h1 hx hu)
   ·rename_i e l k hu hx
    simp only [Option.pure_def, Option.some.injEq, Prod.mk.injEq] at h
    obtain ⟨rfl, rfl⟩ := h
    exact OpOk.up (s_len hs hT hop hc h2 h1 hx hu (.inr (.inl ⟨⟨_, rfl⟩, .inl ⟨_, rfl⟩⟩)))
   ·rename_i e hu hx
    simp only [Option.pure_def, Option.some.injEq, Prod.mk.injEq] at h
    obtain ⟨rfl, rfl⟩ := h
    exact OpOk.up (s_len (n := 0) hs hT hop hc h2 h1 hx hu (.inr (.inl ⟨⟨_, rfl⟩, .inr (.inl ⟨rfl, rfl⟩)⟩)))
   ·rename_i e l n t hu hx
    simp only [Option.pure_def, Option.some.injEq, Prod.mk.injEq] at h
    obtain ⟨rfl, rfl⟩ := h
    exact OpOk.up (s_len hs hT hop hc h2 h1 hx hu (.inr (.inl ⟨⟨_, rfl⟩, .inr (.inr (.inl ⟨_, _, rfl⟩))⟩)))
   ·rename_i e b off n hu hx
    simp only [Option.pure_def, Option.some.injEq, Prod.mk.injEq] at h
    obtain ⟨rfl, rfl⟩ := h
    exact OpOk.up (s_len hs hT hop hc h2 h1 hx hu (.inr (.inl ⟨⟨_, rfl⟩, .inr (.inr (.inr (.inl ⟨_, _, rfl⟩)))⟩)))
   ·rename_i e b n hu hx
    simp only [Option.pure_def, Option.some.injEq, Prod.mk.injEq] at h
    obtain ⟨rfl, rfl⟩ := h
    exact OpOk.up (s_len hs hT hop hc h2 h1 hx hu (.inr (.inl ⟨⟨_, rfl⟩, .inr (.inr (.inr (.inr ⟨_, rfl⟩)))⟩)))
   ·rename_i n e y hu hx
    simp only [Option.pure_def, Option.some.injEq, Prod.mk.injEq] at h
    obtain ⟨rfl, rfl⟩ := h
    exact OpOk.up (s_len hs hT hop hc h2 h1 hx hu (.inr (.inr (.inl ⟨_, rfl⟩))))
   ·rename_i k e hu hx
    simp only [Option.pure_def, Option.some.injEq, Prod.mk.injEq] at h
    obtain ⟨rfl, rfl⟩ := h
    exact OpOk.up (s_len (n := 0) hs hT hop hc h2 h1 hx hu (.inr (.inr (.inr ⟨⟨_, _, rfl⟩, .inl ⟨rfl, rfl⟩⟩))))
   ·rename_i k e m hu hx
    split at h
    ·rename_i es hg
     simp only [Option.pure_def, Option.some.injEq, Prod.mk.injEq] at h
     obtain ⟨rfl, rfl⟩ := h
     exact OpOk.up (s_len hs hT hop hc h2 h1 hx hu (.inr (.inr (.inr ⟨⟨_, _, rfl⟩, .inr ⟨_, _, rfl, hg, rfl⟩⟩))))
    ·cases h
   ·cases h
  ·rename_i hc
   simp only [Option.bind_eq_some_iff] at h
   obtain ⟨t0, h2, t1, h3, h⟩ := h
   split at h
   ·rename_i e p q hu
    have hargs : ∃ op oq, c.args = #[op, oq] /\ opd G T op = some p /\ opd G T oq = some q := by
     have hl : c.args = c.args.toList.toArray := by simp
     generalize c.args.toList = l at h1 hl
     rw [hl]
     match l, h1 with
     | [], h1 => simp [opds] at h1
     | [_], h1 => simp [opds, Option.bind_eq_some_iff] at h1
     | [op, oq], h1 =>
      simp only [opds, Option.bind_eq_bind, Option.bind_eq_some_iff, Option.pure_def, Option.some.injEq, List.cons.injEq] at h1
      obtain ⟨p', g1, l1, ⟨q', g2, l2, rfl, rfl⟩, rfl, rfl, _⟩ := h1
      exact ⟨op, oq, rfl, g1, g2⟩
     | _ :: _ :: _ :: _, h1 => simp [opds, Option.bind_eq_some_iff] at h1
    obtain ⟨op, oq, hargs, g1, g2⟩ := hargs
    split at h
    ·rename_i hu1
     exact OpOk.up (s_appendX hs hT hop hc h2 h3 hu hu1 (fun k => by simp) hargs g1 g2 h)
    ·rename_i hu1
     exact OpOk.up (s_appendX hs hT hop hc h2 h3 hu hu1 (fun k => by simp) hargs g1 g2 h)
    ·cases h
   ·cases h
  ·rename_i hc
   simp only [Option.bind_eq_some_iff] at h
   obtain ⟨t0, h2, h⟩ := h
   split at h
   ·rename_i e b off len y hu
    simp only [Option.bind_eq_some_iff] at h
    obtain ⟨size, h3, ⟨ys, n⟩, h4, h⟩ := h
    split at h
    ·rename_i ds hg
     split at h
     ·rename_i hcc
      simp only [Bool.and_eq_true] at hcc
      obtain ⟨⟨⟨c1, c2⟩, c3⟩, c4⟩ := hcc
      simp only [Option.some.injEq, Prod.mk.injEq] at h
      obtain ⟨rfl, rfl⟩ := h
      exact OpOk.up (s_copy hs hT hop hc h2 hu h1 h3 h4 (nbe c4) hg (Nat.le_of_ble_eq_true c1) c3)
     ·cases h
    ·cases h
   ·cases h
  ·rename_i hc
   split at h
   ·rename_i hsc
    simp only [Option.map_eq_some_iff, Prod.mk.injEq] at h
    obtain ⟨d, h2, rfl, rfl⟩ := h
    exact OpOk.up (s_scalar hs (exec_builtin hs hT hop hc hsc) h2)
   ·simp only [Option.map_eq_some_iff, Prod.mk.injEq] at h
    obtain ⟨r, h2, rfl, rfl⟩ := h
    exact OpOk.up (s_symMM (mx := true) hs hT hop hc h1 h2)
  ·rename_i hc
   split at h
   ·rename_i hsc
    simp only [Option.map_eq_some_iff, Prod.mk.injEq] at h
    obtain ⟨d, h2, rfl, rfl⟩ := h
    exact OpOk.up (s_scalar hs (exec_builtin hs hT hop hc hsc) h2)
   ·simp only [Option.map_eq_some_iff, Prod.mk.injEq] at h
    obtain ⟨r, h2, rfl, rfl⟩ := h
    exact OpOk.up (s_symMM (mx := false) hs hT hop hc h1 h2)
  ·rename_i hc
   split at h
   ·simp only [Option.bind_eq_some_iff, Option.pure_def, Option.some.injEq, Prod.mk.injEq] at h
    obtain ⟨r, h2, rfl, rfl⟩ := h
    exact OpOk.up (s_sliceData hs hT hop hc h1 h2)
   ·cases h
  ·rename_i hc
   split at h
   ·rename_i h2
    exact OpOk.up (s_unsafeStr hs hT hop hc h2 h1 h)
   ·cases h
  ·cases h
  ·rename_i recv name hc
   simp only [Option.bind_eq_some_iff] at h
   obtain ⟨cr, h2, h⟩ := h
   split at h
   ·rename_i t x
    simp only [Option.bind_eq_some_iff] at h
    obtain ⟨g, h3, h⟩ := h
    have vr := opd_sound hs hT h2
    have va := opds_sound hs hT h1
    unfold VR at vr
    obtain ⟨v, er, vr⟩ := vr
    refine s_callA hP hcall (g := g) (vs := #[v] ++ c.args.map a.eval) hs ?_ ?_ h
    ·have hm := method_run h3 (v := v) w (P.types.size + (Made.depth - 1))
     have e0 : P.types.size + (Made.depth - 1) + 1 = P.types.size + Made.depth := rfl
     rw [e0] at hm
     simp only [execOp, hop, resolve, hc, pure_bind, invoke, er]
     simp only [Array.getElem?_append, List.size_toArray, List.length_cons, List.length_nil]
     have e9 : (c.args.map a.eval).extract 0 c.args.size = c.args.map a.eval := by
      have : c.args.size = (c.args.map a.eval).size := by simp
      rw [this, Array.extract_size]
     simp [callMethod, hm, e9]
    ·rw [Array.toList_append, Array.toList_map]
     exact VRl_cons vr va
   ·cases h
  ·rename_i f hc
   simp only [Option.bind_eq_some_iff] at h
   obtain ⟨cf, h2, h⟩ := h
   split at h
   ·rename_i g first captured
    have vf := opd_sound hs hT h2
    have va := opds_sound hs hT h1
    unfold VR at vf
    obtain ⟨f', p', q', ef, e2, k1, k2⟩ := vf
    simp only [renFn, Option.some.injEq] at e2
    subst e2
    refine s_callA hP hcall (g := g) (vs := p' ++ c.args.map a.eval ++ q') hs (congrArg (fun z => Sem.run P z w) ?_) ?_ h
    ·simp only [execOp, hop, resolve, hc, ef, Deferred.ofValue, pure_bind, invoke]
    ·rw [Array.toList_append, Array.toList_append, Array.toList_map]
     exact (k1.append va).append k2
   ·rename_i l
    have vf := opd_sound hs hT h2
    have va := opds_sound hs hT h1
    unfold VR at vf
    obtain ⟨f', p', q', ef, e2, k1, k2⟩ := vf
    simp only [renFn] at e2
    split at e2
    ·simp only [Option.some.injEq] at e2
     subst e2
     unfold VRl at k1
     have hp : p' = #[] := by apply Array.toList_inj.1; rw [k1]
     subst hp
     refine s_yield hcall (l := l) (vs := c.args.map a.eval) hs ?_ (by rw [Array.toList_map]; exact va) h
     simp only [execOp, hop, resolve, hc, ef, Deferred.ofValue, pure_bind, invoke, Array.empty_append]
    ·cases e2
   ·cases h
 all_goals
  simp only [evOp1, hop, reduceCtorEq] at h
theorem settleB_VR (hs : Sim G B0 w0 w s M) {x : AV} {v : Value} (hv : VR w s M x v) : VR w s M (settleB s.k x) v := by
 unfold settleB
 split
 ·rename_i e
  split
  ·rename_i b hb
   unfold VR at hv
   obtain ⟨h1, h2⟩ := hv
   cases v <;> simp only [tyV, Bool.false_eq_true] at h2
   rename_i b'
   have := ask_sound hs (e := e) (b := b') h1 hb
   subst this
   exact VR_v.2 ⟨rfl, rfl⟩
  ·exact hv
 ·exact hv
theorem op_sound {call : Ab.Call} (hP : NoNum P) (hcall : CallOk P G B0 w0 call) {o : Oper} {a : Act} {T : Tm} {x : AV} {s' : St} (hs : Sim G B0 w0 w s M) (hT : TmR w s M T a) (h : evOp P G call o T s = some (x, s')) : OpP P G B0 w0 w s M o a x s' := by
 unfold evOp at h
 split at h
 ·rename_i x1 s1 h1
  cases h
  intro ro next Q hn hp
  refine op1_sound hP hcall hs hT h1 ro next Q (fun v w' M' k1 k2 k3 => hn v w' M' (settleB_VR k2 k1) k2 k3) fun y v w' M' hy k1 k2 k3 => hp y v w' M' ?_ k1 k2 k3
  unfold isPan at hy
  split at hy
  ·cases hy; rfl
  ·cases hy
 ·split at h
  ·rename_i x1 s1 h1
   cases h
   intro ro next Q hn hp
   exact evSym_sound hs hT h1 ro next Q fun v w' M' k1 k2 k3 => hn v w' M' (settleB_VR k2 k1) k2 k3
  ·cases h
end
end Go.Ab
/- The evaluator against the model: regions, code, functions. -/
namespace Go.Ab
open Go Go.RowKit

section
variable [Interp] {P : Program} {G : Nat -> Option (List AV)} {B0 : Nat} {w0 w : World} {s : St} {M : Mp}

theorem yielded_at {ops : Array Oper} {T : Tm} {a : Act} (hT : TmR w s M T a) (j : Nat) (hk : ∀ d, (ops[j]?).bind (·.dst) = some d -> known (gt T d) = true) : yielded ops a.tmps j = yieldedA ops T j := by
 unfold yielded yieldedA
 cases hd : (ops[j]?).bind (·.dst) with
 | none => simp
 | some d =>
  simp only [Option.bind_some]
  have hv := hT.get d
  have hkd := hk d hd
  rw [Array.getD_eq_getD_getElem?] at hv
  cases ht : a.tmps[d]? with
  | none =>
   rw [ht] at hv
   simp only [Option.getD_none] at hv
   split
   ·rename_i h; cases h
   ·split
    ·rename_i b hg; rw [hg] at hv; have := (VR_v.1 hv).1; cases this
    ·rfl
  | some v =>
   rw [ht] at hv
   simp only [Option.getD_some] at hv
   split
   ·rename_i b hb
    cases hb
    split
    ·rename_i b' hg; rw [hg] at hv; have := (VR_v.1 hv).1; cases this; rfl
    ·rename_i hno
     exfalso
     generalize gt T d = x at hv hno hkd
     cases x with
     | v y => obtain ⟨rfl, _⟩ := VR_v.1 hv; exact hno _ rfl
     | ref _ => unfold VR at hv; obtain ⟨_, _, e, _⟩ := hv; cases e
     | box _ _ => unfold VR at hv; cases hv.2
     | sl _ _ _ => unfold VR at hv; obtain ⟨_, _, _, e, _⟩ := hv; cases e
     | ms _ _ _ => unfold VR at hv; obtain ⟨_, _, _, e⟩ := hv; cases e
     | e0 => unfold VR at hv; obtain ⟨_, _, e⟩ := hv; cases e
     | mg _ _ => unfold VR at hv; cases hv.2.2
     | iface _ _ => unfold VR at hv; obtain ⟨_, e, _⟩ := hv; cases e
     | pan _ => unfold VR at hv; exact hv.elim
     | any => cases hkd
     | x _ _ => cases hkd
     | d _ _ _ => rcases VR_d hv with ⟨_, _, _, e⟩ | ⟨_, _, _, _, _, e, _⟩ <;> cases e
     | rd _ _ _ => unfold VR at hv; obtain ⟨_, _, _, e, _⟩ := hv; cases e
     | so _ _ _ _ _ => unfold VR at hv; obtain ⟨_, _, _, _, _, _, _, e, _⟩ := hv; cases e
     | po _ _ _ => unfold VR at hv; obtain ⟨_, _, _, e⟩ := hv; cases e
     | sy _ _ => unfold VR at hv; exact hv.2.2.1 _ hv.1.symm
     | mp _ => unfold VR at hv; cases hv.2
     | fn _ _ _ => unfold VR at hv; obtain ⟨_, _, _, e, _⟩ := hv; cases e
     | agg _ => unfold VR at hv; obtain ⟨_, e, _⟩ := hv; cases e
     | tup _ => unfold VR at hv; obtain ⟨_, e, _⟩ := hv; cases e
   ·rename_i hno
    split
    ·rename_i b hg; rw [hg] at hv; have := (VR_v.1 hv).1; subst this; exact absurd rfl (hno b)
    ·rfl

theorem fetch_some {ops : Array Oper} {T : Tm} {i : Nat} {o : Oper} (h : fetch ops T i = some o) : ops[i]? = some o /\ gk ops T o = true := by
 unfold fetch at h
 split at h
 ·rename_i o' ho
  split at h
  ·rename_i hg; cases h; exact ⟨ho, hg⟩
  ·cases h
 ·cases h
theorem fetch_of {ops : Array Oper} {T : Tm} {i : Nat} {o : Oper} (h : ops[i]? = some o) (hg : gk ops T o = true) : fetch ops T i = some o := by
 unfold fetch
 rw [h]
 simp only [hg, if_true]
theorem yielded_eq {ops : Array Oper} {T : Tm} {a : Act} (hT : TmR w s M T a) {o : Oper} (hg : gk ops T o = true) : Region.wanted o (yielded ops a.tmps) = Region.wanted o (yieldedA ops T) := by
 unfold gk at hg
 unfold Region.wanted
 cases hgd : o.guard with
 | none => rfl
 | some q =>
  obtain ⟨j, want⟩ := q
  rw [hgd] at hg
  simp only at hg ⊢
  rw [yielded_at hT j fun d hd => by rw [hd] at hg; exact hg]

def exOf : Ex -> Exit
 | .normal => .normal
 | .exit id => .exit id
 | .goto l => .goto l
 | .ret => .ret
 | .panic _ => .normal
def ExR (w : World) (s : St) (M : Mp) (ex : Ex) (e : Exit) : Prop :=
 match ex with
 | .panic y => ∃ v, e = .panic [{ v, recovered := false }] /\ VR w s M y v
 | ex => e = exOf ex
def PE (w : World) (s : St) (M : Mp) (p : Option AV) (e : Exit) : Prop :=
 match p with
 | none => e = .normal
 | some y => ∃ v, e = .panic [{ v, recovered := false }] /\ VR w s M y v

theorem deferA_sound (hs : Sim G B0 w0 w s M) {T : Tm} {a : Act} (hT : TmR w s M T a) {c : Go.Call} {d : Nat × List AV × List AV} (h : deferA G T c = some d) (ty : TypeId) :
  ∃ (args cap : Array Value), (resolve a.eval c ty).run P w = .ok { target := .fn (.func d.1) cap, args := args } w /\ VRl w s M d.2.1 args.toList /\ VRl w s M d.2.2 cap.toList := by
 unfold deferA at h
 split at h
 ·rename_i f hc
  simp only [Option.bind_eq_bind, Option.bind_eq_some_iff] at h
  obtain ⟨cf, h1, h⟩ := h
  split at h
  ·rename_i g first captured
   simp only [Option.bind_eq_some_iff, Option.pure_def, Option.some.injEq] at h
   obtain ⟨args, h2, rfl⟩ := h
   have vf := opd_sound hs hT h1
   have va := opds_sound hs hT h2
   unfold VR at vf
   obtain ⟨f', p', q', ef, e2, k1, k2⟩ := vf
   simp only [renFn, Option.some.injEq] at e2
   subst e2
   refine ⟨p' ++ c.args.map a.eval, q', ?_, ?_, k2⟩
   ·simp only [resolve, hc, ef, Deferred.ofValue, Sem.run_pure]
   ·rw [Array.toList_append, Array.toList_map]
    exact k1.append va
  ·cases h
 ·cases h

theorem ops_sound {call : Ab.Call} (hP : NoNum P) (hcall : CallOk P G B0 w0 call) {ops : Array Oper} {dok : Bool} {ro : Option Nat} (hro : dok = true -> ro = none) : ∀ {l : List Nat} {T T' : Tm} {s s' : St} {p : Option AV} {w : World} {M : Mp} {a : Act} {Q : Exit -> Act -> World -> Prop}, evOps P G call dok ops l T s = some (p, T', s') ->
  Sim G B0 w0 w s M -> TmR w s M T a -> (∀ e a' w' M', PE w' s' M' p e -> TmR w' s' M' T' a' -> Sim G B0 w0 w' s' M' -> Ext w s M w' s' M' -> Q e a' w') -> wpOpsIn (FW ro) 0 P ops Q l a w
 | [], T, T', s, s', p, w, M, a, Q, h, hs, hT, hq => by
  simp only [evOps, Option.some.injEq, Prod.mk.injEq] at h
  obtain ⟨rfl, rfl, rfl⟩ := h
  exact hq _ a w M rfl hT hs (Ext.refl _ _ _)
 | i :: rest, T, T', s, s', p, w, M, a, Q, h, hs, hT, hq => by
  unfold evOps at h
  unfold wpOpsIn
  cases hfo : fetch ops T i with
  | none => rw [hfo] at h; cases h
  | some o =>
   obtain ⟨ho, hgk⟩ := fetch_some hfo
   rw [hfo] at h
   rw [ho]
   simp only at h ⊢
   have hy : Region.wanted o (yielded ops a.tmps) = Region.wanted o (yieldedA ops T) := yielded_eq hT hgk
   rw [hy]
   split at h
   ·rename_i hw
    rw [if_pos hw]
    split at h
    ·-- a call is put off
     rename_i c hop
     split at h
     ·rename_i d hds hdst hda
      have hn := hro rfl
      subst hn
      obtain ⟨args, cap, hr, h1, h2⟩ := deferA_sound (P := P) hs hT hda o.type
      refine ⟨fun _ _ => trivial, ?_⟩
      have hrun : ((o.semAt (FW none).round a.eval).run P w) = .ok (.defer { target := .fn (.func d.1) cap, args := args }) w := by
       show ((Oper.semAt none a.eval o).run P w) = _
       simp only [Oper.semAt_none, execOp, hop, Sem.run_bind, hr, Result.andThen_ok, Sem.run_pure]
      rw [hrun, Oper.uponIn_defer, hdst]
      refine ops_sound hP hcall hro h hs (a := { a with defers := _ :: a.defers }) ⟨hT.size, hT.get, ?_, by rw [hds]; exact fun d hd => by cases hd⟩ hq
      obtain ⟨dv, e1, e2⟩ := hT.defers
      rw [hds] at e2
      refine ⟨{ target := .fn (.func d.1) cap, args := args } :: dv, ?_, ?_⟩
      ·obtain ⟨g, xs, ys⟩ := d
       exact ⟨args, cap, dv, rfl, h1, h2, e1⟩
      ·rw [hds, e2]; rfl
     ·cases h
    ·rename_i hnd
     split at h
     ·rename_i x s1 hx
      refine ⟨fun _ _ => trivial, ?_⟩
      rw [Oper.semAt_eq _ _ _ hnd]
      split at h
      ·rename_i y hpan
       simp only [Option.some.injEq, Prod.mk.injEq] at h
       obtain ⟨rfl, rfl, rfl⟩ := h
       refine op_sound hP hcall hs hT hx ro _ _ (fun v w1 M1 hv hs1 hE => ?_) fun y' v w1 M1 hy' hv hs1 hE => ?_
       ·exfalso
        cases x <;> simp only [isPan, reduceCtorEq] at hpan
        unfold VR at hv
        exact hv
       ·rw [hpan] at hy'; cases hy'
        exact hq _ a w1 M1 ⟨v, rfl, hv⟩ (hT.ext hE) hs1 hE
      ·rename_i hpan
       split at h
       ·rename_i T1 hp
        refine op_sound hP hcall hs hT hx ro _ _ (fun v w1 M1 hv hs1 hE => ?_) fun y' v w1 M1 hy' hv hs1 hE => by rw [hpan] at hy'; cases hy'
        exact ops_sound hP hcall hro h hs1 ((hT.ext hE).put hp hv) fun e a' w' M' k0 k1 k2 k3 => hq e a' w' M' k0 k1 k2 (hE.trans k3)
       ·cases h
     ·cases h
   ·rename_i hw
    rw [if_neg hw]
    split at h
    ·rename_i T1 hp
     exact ⟨fun _ _ => trivial, ops_sound hP hcall hro h hs (hT.put hp VR_und) hq⟩
    ·cases h

def DrawnOk (P : Program) (G : Nat -> Option (List AV)) (B0 : Nat) (w0 : World) (d : Drawn) : Prop :=
 ∀ ops T s p T' s', d ops T s = some (p, T', s') -> ∀ (w : World) (M : Mp) (a : Act) (Q : Exit -> Act -> World -> Prop), Sim G B0 w0 w s M -> TmR w s M T a ->
  (∀ e a' w' M', PE w' s' M' p e -> TmR w' s' M' T' a' -> Sim G B0 w0 w' s' M' -> Ext w s M w' s' M' -> Q e a' w') -> ∀ (ro : Option Nat) t, wpOpsIn (FW ro) 0 P ops Q (Region.schedule (P.follows .mixedOrders) ops t) a w.drew

def jumpRounds (P : Program) (b : Code) (Q : Exit -> Act -> World -> Prop) : Nat -> Code -> Act -> World -> Prop
 | 0, _, _, _ => False
 | n + 1, c, a, w => c.wpIn (FW none) 0 P (fun e a w => match e with | .goto l => ∃ rest, findLabel b l = some rest /\ jumpRounds P b Q n rest a w | e => Q e a w) a w
theorem wp_scope_rounds {b : Code} {Q : Exit -> Act -> World -> Prop} {a : Act} {w : World} (n : Nat) (h : jumpRounds P b Q n b a w) : (Code.scope b).wpIn (FW none) 0 P Q a w := by
 intro fr k cs hro hb hr
 have hro' : fr.roundOf = none := hro
 have calm : ∀ (a : Act) (td : List Item) (w : World), (lone (fr.atR a td) cs w).fenced P (FW none) := fun a td w => fenced_wide P _
 have s1 : ∀ (c : Code) (a : Act) (w : World), step P (lone (fr.atR a (.code (.scope c) :: k)) cs w) = .next (lone (fr.atR a (.code c :: .inScope c :: k)) cs w) := fun c a w => by
  rw [Frame.atR_of_none hro', Frame.atR_of_none hro']; exact step_scope
 have s2 : ∀ (c : Code) (a : Act) (w : World), step P (lone (fr.atR a (.inScope c :: k)) cs w) = .next (lone (fr.atR a k) cs w) := fun c a w => by
  rw [Frame.atR_of_none hro', Frame.atR_of_none hro']; exact step_inScope
 have key : ∀ n c a w, jumpRounds P b Q n c a w -> ∃ e a' w', Q e a' w' /\ ArrivesIn (Machine.fenced P (FW none)) P (lone (fr.atR a (.code c :: .inScope b :: k)) cs w) fr k cs e a' w' := by
  intro n
  induction n with
  | zero => intro c a w h; exact h.elim
  | succ n ih =>
   intro c a w h
   obtain ⟨e, a₁, w₁, hq, harr⟩ := h fr (.inScope b :: k) cs hro hb hr
   cases e with
   | normal => exact ⟨.normal, a₁, w₁, hq, StepsIn.trans harr (.one (calm _ _ _) (s2 _ _ _))⟩
   | exit id => exact ⟨.exit id, a₁, w₁, hq, fun k' hk => harr.1 k' (by simp [exitTo, hk]), fun hs => by rw [hro'] at hs; cases hs⟩
   | goto l =>
    obtain ⟨rest, hf, hr'⟩ := hq
    obtain ⟨e₂, a₂, w₂, hq₂, harr₂⟩ := ih rest a₁ w₁ hr'
    exact ⟨e₂, a₂, w₂, hq₂, .of_steps (harr.1 _ (by simp [gotoIn, hf])) harr₂⟩
   | ret => exact ⟨_, a₁, w₁, hq, harr.1, fun hs => by rw [hro'] at hs; cases hs⟩
   | panic ch => exact ⟨_, a₁, w₁, hq, harr⟩
   | outgrown => exact ⟨_, a₁, w₁, hq, harr⟩
 obtain ⟨e, a', w', hq, harr⟩ := key n b a w h
 exact ⟨e, a', w', hq, .of_steps (.one (calm _ _ _) (s1 _ _ _)) harr⟩

def Goes (P : Program) (G : Nat -> Option (List AV)) (B0 : Nat) (w0 : World) (ro : Option Nat) (self : Code -> Tm -> St -> Option (Ex × Tm × St)) : Prop :=
 ∀ c T s ex T' s', self c T s = some (ex, T', s') -> ∀ (w : World) (M : Mp) (a : Act) (Q : Exit -> Act -> World -> Prop), Sim G B0 w0 w s M -> TmR w s M T a ->
  (∀ e a' w' M', ExR w' s' M' ex e -> TmR w' s' M' T' a' -> Sim G B0 w0 w' s' M' -> Ext w s M w' s' M' -> Q e a' w') -> c.wpIn (FW ro) 0 P Q a w

theorem cnd_sound (hs : Sim G B0 w0 w s M) {T : Tm} {a : Act} (hT : TmR w s M T a) {x : Operand} {b : Bool} (h : cnd G T s x = some b) : a.eval x = .bool b := by
 unfold cnd at h
 split at h
 ·rename_i b' hc
  cases h
  exact (VR_v.1 (opd_sound hs hT hc)).1
 ·rename_i e hc
  have hv := opd_sound hs hT hc
  unfold VR at hv
  obtain ⟨h1, h2⟩ := hv
  generalize a.eval x = v at h1 h2
  cases v <;> simp only [tyV, Bool.false_eq_true] at h2
  rename_i b'
  have := ask_sound hs (e := e) (b := b') h1 h
  rw [this]
 ·cases h
theorem scope_sound {self : Code -> Tm -> St -> Option (Ex × Tm × St)} (hself : Goes P G B0 w0 none self) {b : Code} : ∀ {n : Nat} {c : Code} {T T' : Tm} {s s' : St} {ex : Ex}, evScope self b n c T s = some (ex, T', s') -> ∀ (w : World) (M : Mp) (a : Act) (Q : Exit -> Act -> World -> Prop), Sim G B0 w0 w s M -> TmR w s M T a ->
  (∀ e a' w' M', ExR w' s' M' ex e -> TmR w' s' M' T' a' -> Sim G B0 w0 w' s' M' -> Ext w s M w' s' M' -> Q e a' w') -> jumpRounds P b Q n c a w
 | 0, c, T, T', s, s', ex, h, w, M, a, Q, hs, hT, hq => by cases h
 | n + 1, c, T, T', s, s', ex, h, w, M, a, Q, hs, hT, hq => by
  unfold evScope at h
  unfold jumpRounds
  split at h
  ·rename_i l T1 s1 hc
   split at h
   ·rename_i rest hf
    refine hself c T s _ T1 s1 hc w M a _ hs hT fun e1 a1 w1 M1 k0 k1 k2 k3 => ?_
    obtain rfl : e1 = .goto l := k0
    exact ⟨rest, hf, scope_sound hself h w1 M1 a1 Q k2 k1 fun e a' w' M' j0 j1 j2 j3 => hq e a' w' M' j0 j1 j2 (k3.trans j3)⟩
   ·cases h
  ·rename_i hno
   refine hself c T s ex T' s' h w M a _ hs hT fun e1 a' w' M' k0 k1 k2 k3 => ?_
   have k := hq e1 a' w' M' k0 k1 k2 k3
   cases ex with
   | goto l => exact absurd h (hno l T' s')
   | normal => obtain rfl : e1 = .normal := k0; exact k
   | exit id => obtain rfl : e1 = .exit id := k0; exact k
   | ret => obtain rfl : e1 = .ret := k0; exact k
   | panic y => obtain ⟨v, rfl, _⟩ := k0; exact k

theorem sim_loop (hs : Sim G B0 w0 w s M) {l : Nat} {T : Tm} {ps : List Nat} {asg body : Code} {st st' : LoopState} {pend pend' : Option Code} (hl : l < s.n) (hg : s.get l = some (.loop T ps asg body st pend)) {rc : Loop} (hrc : w.heap[M.blk l]? = some (.loop rc)) :
  Sim G B0 w0 (w.putObj (M.blk l) (.loop { rc with state := st', pending := pend' })) (s.put l (.loop T ps asg body st' pend')) M /\ Ext w s M (w.putObj (M.blk l) (.loop { rc with state := st', pending := pend' })) (s.put l (.loop T ps asg body st' pend')) M := by
 have hlt := (hs.blk l hl).2
 have h1 : (w.putObj (M.blk l) (.loop { rc with state := st', pending := pend' })).heap[M.blk l]? = some (.loop { rc with state := st', pending := pend' }) := World.putObj_heap_same hlt
 have h2 : ∀ k, k ≠ M.blk l -> (w.putObj (M.blk l) (.loop { rc with state := st', pending := pend' })).heap[k]? = w.heap[k]? := fun k hk => World.putObj_heap_other hk
 have hE : Ext w s M (w.putObj (M.blk l) (.loop { rc with state := st', pending := pend' })) (s.put l (.loop T ps asg body st' pend')) M := ext_write hs hl hg (fun _ _ => by simp) trivial (fun _ _ => by simp) trivial h2 (by simp [World.putObj])
 obtain ⟨rc', a1, a2, a3, a4, a5, a6, a7, a8⟩ := hs.obj l _ hl hg
 rw [hrc] at a1; cases a1
 refine ⟨sim_write hs hl hg (fun _ _ => by simp) trivial (fun _ _ => by simp) trivial h2 (hs.below.trans ⟨rfl, rfl, rfl, by simp [World.putObj], fun k hk => h2 k (by have := (hs.blk l hl).1; omega)⟩) (by simp [World.putObj]) ?_, hE⟩
 exact ⟨_, h1, rfl, rfl, a4, a5, a6, a7, fun t => (a8 t).ext hE⟩

set_option maxHeartbeats 1000000 in
theorem range_sound {call : Ab.Call} (hP : NoNum P) (hcall : CallOk P G B0 w0 call) {T : Tm} {a : Act} {f : Operand} {ps : Array Tmp} {asg body : Code} {g : FuncId} {first captured : List AV} {r3 : AV} {s3 : St} {T1 : Tm} {ps1 : List Nat} {asg1 body1 : Code} {st : LoopState} {pend : Option Code} {Q : Exit -> Act -> World -> Prop}
  (hs : Sim G B0 w0 w s M) (hT : TmR w s M T a) (hle : s.n + 2 <= Tr.lid) (hf : opd G T f = some (.fn (.func g) first captured))
  (hcl : callB P call g (first ++ [.fn (.yield (s.n + 1)) [] []] ++ captured) ((s.new .defs).new (.loop T ps.toList asg body .ready none)) = some (r3, s3)) (hg3 : s3.get (s.n + 1) = some (.loop T1 ps1 asg1 body1 st pend)) (hnb : st ≠ .busy)
  (hq : ∀ a' w' M', TmR w' (s3.put (s.n + 1) (.loop T1 ps1 asg1 body1 .exhausted pend)) M' { T with ds := s.n :: T.ds } a' -> Sim G B0 w0 w' (s3.put (s.n + 1) (.loop T1 ps1 asg1 body1 .exhausted pend)) M' -> Ext w s M w' (s3.put (s.n + 1) (.loop T1 ps1 asg1 body1 .exhausted pend)) M' ->
   match (generalizing := false) pend with
   | none => Q .normal a' w'
   | some c => c.wpIn (FW none) 0 P Q a' w') : (Code.rangeFunc f ps asg body).wpIn (FW none) 0 P Q a w := by
 have vf := opd_sound hs hT hf
 unfold VR at vf
 obtain ⟨f', p', q', ef, e2, k1, k2⟩ := vf
 simp only [renFn, Option.some.injEq] at e2
 subst e2
 refine wpIn_rangeFunc fun fn _ => ?_
 -- the two blocks
 have hb1 : s.n < Tr.lid := by omega
 have hE1 := ext_new (w := w) (M := M) hb1 (fun i hi => (hs.blk i hi).2) (.deferred (some [])) .defs 0
 have hs1 := sim_new hs hb1 (.deferred (some [])) .defs 0 (heap_new _ _)
 have hb2 : (s.new .defs).n < Tr.lid := by show s.n + 1 < Tr.lid; omega
 let rc : Loop := { state := .ready, pending := none, fn, tmps := a.tmps, params := ps, assign := asg, body, defers := w.heap.size }
 have hE2 := ext_new (w := w.alloc (.deferred (some []))) (s := s.new .defs) (M := M.add s.n w.heap.size 0) hb2 (fun i hi => (hs1.blk i hi).2) (.loop rc) (.loop T ps.toList asg body .ready none) 0
 have hs2 := sim_new hs1 hb2 (.loop rc) (.loop T ps.toList asg body .ready none) 0 ⟨rc, heap_new _ _, rfl, rfl, rfl, rfl, rfl, hT.size, fun t => ((hT.get t).ext hE1).ext hE2⟩
 have hE12 := hE1.trans hE2
 have hM1 : ((M.add s.n w.heap.size 0).add (s.new .defs).n (w.alloc (.deferred (some []))).heap.size 0).blk (s.n + 1) = w.heap.size + 1 := by simp [Mp.add, St.new]
 have hM0 : ((M.add s.n w.heap.size 0).add (s.new .defs).n (w.alloc (.deferred (some []))).heap.size 0).blk s.n = w.heap.size := by simp [Mp.add, St.new]
 have hvl : VRl ((w.alloc (.deferred (some []))).alloc (.loop rc)) ((s.new .defs).new (.loop T ps.toList asg body .ready none)) ((M.add s.n w.heap.size 0).add (s.new .defs).n (w.alloc (.deferred (some []))).heap.size 0) (first ++ [.fn (.yield (s.n + 1)) [] []] ++ captured) (p' ++ #[Value.func (.yield (w.heap.size + 1)) #[] #[]] ++ q').toList := by
  rw [Array.toList_append, Array.toList_append]
  refine ((k1.ext hE12).append ?_).append (k2.ext hE12)
  refine VRl_cons ?_ VRl_nil
  unfold VR
  refine ⟨_, #[], #[], rfl, ?_, VRl_nil, VRl_nil⟩
  simp only [renFn]
  rw [if_pos (by simp [St.new]), hM1]
 obtain ⟨hinv, hcalls⟩ := callB_calls hP hcall hs2 hvl hcl
 have hres : (resolve a.eval (rangeCall f (w.heap.size + 1)) 0).run P ((w.alloc (.deferred (some []))).alloc (.loop rc)) = .ok { target := .fn (.func g) q', args := p' ++ #[Value.func (.yield (w.heap.size + 1)) #[] #[]] } ((w.alloc (.deferred (some []))).alloc (.loop rc)) := by
  simp only [resolve, rangeCall, ef, Deferred.ofValue, Sem.run_pure]
  simp [Act.eval]
 refine ⟨w.heap.size + 1, [{ target := .collected w.heap.size, args := #[] }], (w.alloc (.deferred (some []))).alloc (.loop rc), { target := .fn (.func g) q', args := p' ++ #[Value.func (.yield (w.heap.size + 1)) #[] #[]] }, (w.alloc (.deferred (some []))).alloc (.loop rc), g, p' ++ #[Value.func (.yield (w.heap.size + 1)) #[] #[]] ++ q', (w.alloc (.deferred (some []))).alloc (.loop rc), run_enterLoop_outer fn a.tmps ps asg body, hres, fun _ _ => trivial, hinv, fun h => (by cases h), hcalls.mono ?_⟩
 rintro e w3 ⟨v, M3, rfl, j1, j2, j3⟩
 ·have hn3 : s.n + 1 < s3.n := Nat.lt_of_lt_of_le (show s.n + 1 < s.n + 1 + 1 by omega) j3.n
  have hm3 := (j3.map (s.n + 1) (show s.n + 1 < s.n + 1 + 1 by omega)).1
  have hm30 := (j3.map s.n (show s.n < s.n + 1 + 1 by omega)).1
  rw [hM1] at hm3
  rw [hM0] at hm30
  obtain ⟨rc3, a1, a2, a3, _⟩ := j2.obj _ _ hn3 hg3
  subst a3
  rw [hm3] at a1
  obtain ⟨hs4, hE4⟩ := sim_loop (st' := .exhausted) (pend' := rc3.pending) j2 hn3 hg3 (rc := rc3) (by rw [hm3]; exact a1)
  rw [hm3] at hs4 hE4
  refine ⟨rc3.pending, _, run_endLoop a1 (by rw [a2]; exact hnb), ?_⟩
  have hEall : Ext w s M _ _ _ := (hE12.trans j3).trans hE4
  have hTm := hT.ext hEall
  have := hq { a with defers := [{ target := .collected w.heap.size, args := #[] }] ++ a.defers } _ M3 ⟨hTm.size, hTm.get, by
    obtain ⟨dv, q1, q2⟩ := hTm.defers
    refine ⟨dv, q1, ?_⟩
    show { target := .collected w.heap.size, args := #[] } :: a.defers = { target := .collected (M3.blk s.n), args := #[] } :: ((T.ds.map fun d => ({ target := .collected (M3.blk d), args := #[] } : Deferred)) ++ dv)
    rw [hm30, q2], fun d hd => by
    rw [List.mem_cons] at hd
    rcases hd with rfl | hd
    ·show s.n < s3.n; omega
    ·exact hTm.dlt d hd⟩ hs4 hEall
  exact this

theorem code_sound {D : Ab.Call -> Drawn} {call : Ab.Call} (hP : NoNum P) (hcall : CallOk P G B0 w0 call) (hD : DrawnOk P G B0 w0 (D call)) {rb : Bool} {ro : Option Nat} (hro : rb = false -> ro = none) : ∀ (k : Nat), Goes P G B0 w0 ro (evCode P G D call rb k) /\
  (∀ b T s ex T' s', evCode P G D call rb k (.loop b) T s = some (ex, T', s') -> ∀ (w : World) (M : Mp) (a : Act) (Q : Exit -> Act -> World -> Prop), Sim G B0 w0 w s M -> TmR w s M T a ->
   (∀ e a' w' M', ExR w' s' M' ex e -> TmR w' s' M' T' a' -> Sim G B0 w0 w' s' M' -> Ext w s M w' s' M' -> Q e a' w') -> Code.roundsIn (FW ro) 0 P b Q k a w)
 | 0 => by refine ⟨fun c T s ex T' s' h => ?_, fun b T s ex T' s' h => ?_⟩ <;> cases h
 | k + 1 => by
  obtain ⟨ih, ihl⟩ := code_sound hP hcall hD hro k
  have hloop : ∀ b T s ex T' s', evCode P G D call rb (k + 1) (.loop b) T s = some (ex, T', s') -> ∀ (w : World) (M : Mp) (a : Act) (Q : Exit -> Act -> World -> Prop), Sim G B0 w0 w s M -> TmR w s M T a ->
    (∀ e a' w' M', ExR w' s' M' ex e -> TmR w' s' M' T' a' -> Sim G B0 w0 w' s' M' -> Ext w s M w' s' M' -> Q e a' w') -> Code.roundsIn (FW ro) 0 P b Q (k + 1) a w := by
   intro b T s ex T' s' h w M a Q hs hT hq
   unfold evCode at h
   simp only at h
   rw [roundsIn_succ]
   split at h
   ·rename_i T1 s1 hb
    refine ih b T s _ T1 s1 hb w M a _ hs hT fun e1 a1 w1 M1 k0 k1 k2 k3 => ?_
    obtain rfl : e1 = .normal := k0
    exact ihl b T1 s1 ex T' s' h w1 M1 a1 Q k2 k1 fun e a' w' M' j0 j1 j2 j3 => hq e a' w' M' j0 j1 j2 (k3.trans j3)
   ·rename_i hno
    refine ih b T s ex T' s' h w M a _ hs hT fun e1 a' w' M' k0 k1 k2 k3 => ?_
    have k := hq e1 a' w' M' k0 k1 k2 k3
    cases ex with
    | normal => exact absurd h (hno T' s')
    | goto l => obtain rfl : e1 = .goto l := k0; exact k
    | exit id => obtain rfl : e1 = .exit id := k0; exact k
    | ret => obtain rfl : e1 = .ret := k0; exact k
    | panic y => obtain ⟨v, rfl, _⟩ := k0; exact k
  refine ⟨fun c T s ex T' s' h w M a Q hs hT hq => ?_, hloop⟩
  have h0 := h
  unfold evCode at h
  cases c with
  | skip => simp only [Option.some.injEq, Prod.mk.injEq] at h; obtain ⟨rfl, rfl, rfl⟩ := h; exact wpIn_skip (hq _ a w M rfl hT hs (Ext.refl _ _ _))
  | label l => simp only [Option.some.injEq, Prod.mk.injEq] at h; obtain ⟨rfl, rfl, rfl⟩ := h; exact wpIn_label (hq _ a w M rfl hT hs (Ext.refl _ _ _))
  | exit id => simp only [Option.some.injEq, Prod.mk.injEq] at h; obtain ⟨rfl, rfl, rfl⟩ := h; exact wpIn_exit (hq _ a w M rfl hT hs (Ext.refl _ _ _))
  | goto l => simp only [Option.some.injEq, Prod.mk.injEq] at h; obtain ⟨rfl, rfl, rfl⟩ := h; exact wpIn_goto (hq _ a w M rfl hT hs (Ext.refl _ _ _))
  | ret => simp only [Option.some.injEq, Prod.mk.injEq] at h; obtain ⟨rfl, rfl, rfl⟩ := h; exact wpIn_ret (hq _ a w M rfl hT hs (Ext.refl _ _ _))
  | region id ops draw =>
   simp only at h
   cases draw with
   | true =>
    simp only [if_true] at h
    split at h
    ·rename_i T1 s1 h1
     simp only [Option.some.injEq, Prod.mk.injEq] at h
     obtain ⟨rfl, rfl, rfl⟩ := h
     exact wpIn_region_draw (hD ops T s _ T1 s1 h1 w M a Q hs hT (fun e a' w' M' k0 k1 k2 k3 => hq e a' w' M' k0 k1 k2 k3) ro)
    ·rename_i y T1 s1 h1
     simp only [Option.some.injEq, Prod.mk.injEq] at h
     obtain ⟨rfl, rfl, rfl⟩ := h
     exact wpIn_region_draw (hD ops T s _ T1 s1 h1 w M a Q hs hT (fun e a' w' M' k0 k1 k2 k3 => hq e a' w' M' k0 k1 k2 k3) ro)
    ·cases h
   | false =>
    simp only [Bool.false_eq_true, if_false] at h
    have hdk : (!rb) = true -> ro = none := fun h => hro (by simpa using h)
    split at h
    ·rename_i T1 s1 h1
     simp only [Option.some.injEq, Prod.mk.injEq] at h
     obtain ⟨rfl, rfl, rfl⟩ := h
     exact wpIn_region (ops_sound hP hcall hdk h1 hs hT fun e a' w' M' k0 k1 k2 k3 => hq e a' w' M' k0 k1 k2 k3)
    ·rename_i y T1 s1 h1
     simp only [Option.some.injEq, Prod.mk.injEq] at h
     obtain ⟨rfl, rfl, rfl⟩ := h
     exact wpIn_region (ops_sound hP hcall hdk h1 hs hT fun e a' w' M' k0 k1 k2 k3 => hq e a' w' M' k0 k1 k2 k3)
    ·cases h
  | seq x y =>
   simp only at h
   refine wpIn_seq ?_
   split at h
   ·rename_i T1 s1 hb
    refine ih x T s _ T1 s1 hb w M a _ hs hT fun e1 a1 w1 M1 k0 k1 k2 k3 => ?_
    obtain rfl : e1 = .normal := k0
    exact ih y T1 s1 ex T' s' h w1 M1 a1 Q k2 k1 fun e a' w' M' j0 j1 j2 j3 => hq e a' w' M' j0 j1 j2 (k3.trans j3)
   ·rename_i hno
    refine ih x T s ex T' s' h w M a _ hs hT fun e1 a' w' M' k0 k1 k2 k3 => ?_
    have k := hq e1 a' w' M' k0 k1 k2 k3
    cases ex with
    | normal => exact absurd h (hno T' s')
    | goto l => obtain rfl : e1 = .goto l := k0; exact k
    | exit id => obtain rfl : e1 = .exit id := k0; exact k
    | ret => obtain rfl : e1 = .ret := k0; exact k
    | panic y => obtain ⟨v, rfl, _⟩ := k0; exact k
  | cond c x y =>
   simp only at h
   split at h
   ·rename_i hc
    exact wpIn_cond_true (cnd_sound hs hT hc) (ih x T s ex T' s' h w M a Q hs hT hq)
   ·rename_i hc
    exact wpIn_cond_false (cnd_sound hs hT hc) (ih y T s ex T' s' h w M a Q hs hT hq)
   ·cases h
  | block id b =>
   simp only at h
   refine wpIn_block ?_
   split at h
   ·rename_i i T1 s1 hb
    refine ih b T s _ T1 s1 hb w M a _ hs hT fun e1 a1 w1 M1 k0 k1 k2 k3 => ?_
    obtain rfl : e1 = .exit i := k0
    simp only [Exit.inBlock]
    split at h
    ·rename_i e
     simp only [Option.some.injEq, Prod.mk.injEq] at h; obtain ⟨rfl, rfl, rfl⟩ := h
     rw [if_pos e]; exact hq _ a1 w1 M1 rfl k1 k2 k3
    ·rename_i e
     simp only [Option.some.injEq, Prod.mk.injEq] at h; obtain ⟨rfl, rfl, rfl⟩ := h
     rw [if_neg e]; exact hq _ a1 w1 M1 rfl k1 k2 k3
   ·rename_i hno
    refine ih b T s ex T' s' h w M a _ hs hT fun e1 a' w' M' k0 k1 k2 k3 => ?_
    have k := hq e1 a' w' M' k0 k1 k2 k3
    cases ex with
    | exit i => exact absurd h (hno i T' s')
    | normal => obtain rfl : e1 = .normal := k0; exact k
    | goto l => obtain rfl : e1 = .goto l := k0; exact k
    | ret => obtain rfl : e1 = .ret := k0; exact k
    | panic y => obtain ⟨v, rfl, _⟩ := k0; exact k
  | loop b => exact wpIn_loop_rounds (k + 1) (hloop b T s ex T' s' h0 w M a Q hs hT hq)
  | scope b =>
   simp only at h
   split at h
   ·cases h
   ·rename_i hrb
    have hn := hro (by simpa using hrb)
    subst hn
    exact wp_scope_rounds k (scope_sound ih h w M a Q hs hT hq)
  | rangeFunc f ps asg body =>
   simp only at h
   split at h
   ·cases h
   ·rename_i hc
    simp only [Bool.or_eq_true, Bool.not_eq_true', not_or, Bool.not_eq_true, Bool.not_eq_false] at hc
    obtain ⟨hrb, hle⟩ := hc
    have hle := Nat.le_of_ble_eq_true hle
    have hn := hro hrb
    subst hn
    split at h
    ·rename_i g first captured hf
     split at h
     ·rename_i r3 s3 hcl
      split at h
      ·rename_i T1 ps1 asg1 body1 st pend hg3
       split at h
       ·cases h
       ·rename_i hnb
        exact range_sound hP hcall hs hT hle hf hcl hg3 (by simpa using hnb) (fun a' w' M' k1 k2 k3 => by
         cases pend with
         | none =>
          simp only [Option.some.injEq, Prod.mk.injEq] at h
          obtain ⟨rfl, rfl, rfl⟩ := h
          exact hq _ a' w' M' rfl k1 k2 k3
         | some c => exact ih c _ _ ex T' s' h w' M' a' Q k2 k1 fun e a2 w2 M2 j0 j1 j2 j3 => hq e a2 w2 M2 j0 j1 j2 (k3.trans j3))
      ·cases h
     ·cases h
    ·cases h
  | refuse _ => cases h

theorem initF_get : ∀ (l : List AV) (i t : Nat), i + l.length <= Tr.lid -> (initF l i).get t = if t < i then none else l[t - i]?
 | [], i, t, h => by simp [initF, Tr.get]
 | x :: r, i, t, h => by
  simp only [List.length_cons] at h
  rw [initF, Tr.get_set _ _ _ _ (by omega), initF_get r (i + 1) t (by omega)]
  by_cases e : t = i
  ·subst e; rw [if_pos rfl, if_neg (by omega)]; simp
  ·rw [if_neg e]
   by_cases e2 : t < i
   ·rw [if_pos (by omega), if_pos e2]
   ·rw [if_neg (by omega), if_neg e2, show t - i = (t - (i + 1)) + 1 by omega, List.getElem?_cons_succ]
theorem initT_sound {args : List AV} {vs : Array Value} (n : Nat) (hl : args.length + n <= Tr.lid) (hv : VRl w s M args vs.toList) : TmR w s M (initT args n) { tmps := vs ++ Array.replicate (n - vs.size) undef, defers := [] } := by
 have hlen := hv.length
 simp only [Array.length_toList] at hlen
 refine ⟨by simp [initT, hlen], fun t => ?_, ⟨[], rfl, rfl⟩, fun d hd => by cases hd⟩
 have e1 : gt (initT args n) t = (args[t]?).getD und := by
  unfold gt initT
  simp only
  rw [initF_get args 0 t (by omega)]
  simp
 rw [e1, Array.getD_eq_getD_getElem?]
 rcases hv.get t with ⟨h1, h2⟩ | ⟨c, v, h1, h2, h3⟩
 ·rw [h1]
  rw [Array.getElem?_toList] at h2
  have hge : vs.size <= t := Array.getElem?_eq_none_iff.1 h2
  rw [Array.getElem?_append_right hge]
  by_cases hr : t - vs.size < n - vs.size
  ·simp [hr]; exact VR_und
  ·simp [hr]; exact VR_und
 ·rw [h1]
  rw [Array.getElem?_toList] at h2
  have hlt : t < vs.size := (Array.getElem?_eq_some_iff.1 h2).1
  rw [Array.getElem?_append_left hlt, h2]
  exact h3

def rget (tmps : Array Value) : ResultVar -> Sem Value
 | .tmp t => pure (tmps.getD t undef)
 | .cell q t => do loadVar t (<- asAddr (tmps.getD q undef))
theorem resultsA_sound (hs : Sim G B0 w0 w s M) {T : Tm} {a : Act} (hT : TmR w s M T a) : ∀ {rs : List ResultVar} {cs : List AV}, resultsA P T s rs = some cs ->
  ∃ vs, (rs.mapM (rget a.tmps)).run P w = .ok vs w /\ VRl w s M cs vs
 | [], cs, h => by simp only [resultsA, Option.some.injEq] at h; subst h; exact ⟨[], rfl, VRl_nil⟩
 | r :: rs, cs, h => by
  simp only [resultsA, Option.bind_eq_bind, Option.bind_eq_some_iff, Option.pure_def, Option.some.injEq] at h
  obtain ⟨c, h1, d, h2, rfl⟩ := h
  obtain ⟨vs, k1, k2⟩ := resultsA_sound hs hT h2
  rw [List.mapM_cons]
  cases r with
  | tmp t =>
   simp only [resultA, Option.some.injEq] at h1
   subst h1
   refine ⟨a.tmps.getD t undef :: vs, ?_, VRl_cons (hT.get t) k2⟩
   simp only [Sem.run_bind, rget, Sem.run_pure, Result.andThen_ok, k1]
  | cell q t =>
   simp only [resultA] at h1
   split at h1
   ·rename_i b off hq
    split at h1
    ·rename_i cc _ hg
     have hv := hT.get q
     rw [hq] at hv
     unfold VR at hv
     obtain ⟨hb, e⟩ := hv
     obtain ⟨us, el, fr, g1, g2, _⟩ := hs.obj b _ hb hg
     have ha := (at_block g1).take cc.length |>.drop off
     rw [Nat.zero_add] at ha
     obtain ⟨v, hr, hv⟩ := run_loadVar (P := P) (g2.drop off) ha h1
     refine ⟨v :: vs, ?_, VRl_cons hv k2⟩
     simp only [Sem.run_bind, rget, e, asAddr, Sem.run_pure, Result.andThen_ok, hr, k1]
    ·cases h1
   ·cases h1

theorem results_sound (hs : Sim G B0 w0 w s M) {T : Tm} {a : Act} (hT : TmR w s M T a) {fn : Func} {cs : List AV} (h : resultsA P T s fn.results.toList = some cs) :
  ∃ v, (results fn a.tmps).run P w = .ok v w /\ VR w s M (match cs with | [x] => x | xs => .tup xs) v := by
 obtain ⟨vs, h1, h2⟩ := resultsA_sound hs hT h
 refine ⟨if h : vs.toArray.size = 1 then vs.toArray[0] else .tuple vs.toArray, ?_, ?_⟩
 ·have hr : results fn a.tmps = (do let vs <- fn.results.mapM (rget a.tmps); pure (if h : vs.size = 1 then vs[0] else .tuple vs)) := by
   unfold results
   congr 1
  rw [hr, Array.mapM_eq_mapM_toList]
  simp only [Sem.run_bind, Sem.run_map, h1, Result.andThen_ok, Sem.run_pure]
 ·have hl := h2.length
  match cs, vs, h2 with
  | [], [], h2 => exact VR_tup h2
  | [x], [v], h2 => unfold VRl at h2; obtain ⟨v', t, e, k1, _⟩ := h2; cases e; exact k1
  | x :: y :: r, v :: u :: t, h2 => exact VR_tup h2
  | [], _ :: _, h2 => simp at hl
  | [_], [], h2 => simp at hl
  | [_], _ :: _ :: _, h2 => simp at hl
  | _ :: _ :: _, [], h2 => simp at hl
  | _ :: _ :: _, [_], h2 => simp at hl

theorem fold_params : ∀ {ps : List Nat} {T T1 : Tm} {xs : List AV} {vs : List Value} {tm : Array Value}, putAll T ps xs = some T1 -> ps.length = xs.length -> VRl w s M xs vs -> tm.size = T.n -> (∀ t, VR w s M (gt T t) (tm.getD t undef)) ->
  ((ps.zip vs).foldl (fun (tmps : Array Value) (p : Nat × Value) => tmps.setIfInBounds p.1 p.2) tm).size = T1.n /\ (∀ t, VR w s M (gt T1 t) (((ps.zip vs).foldl (fun (tmps : Array Value) (p : Nat × Value) => tmps.setIfInBounds p.1 p.2) tm).getD t undef)) /\ T1.ds = T.ds /\ T1.dl = T.dl
 | [], T, T1, xs, vs, tm, h, hl, hv, h1, h2 => by simp only [putAll, Option.some.injEq] at h; subst h; exact ⟨h1, h2, rfl, rfl⟩
 | p :: ps, T, T1, [], vs, tm, h, hl, hv, h1, h2 => by simp at hl
 | p :: ps, T, T1, x :: xs, vs, tm, h, hl, hv, h1, h2 => by
  unfold VRl at hv
  obtain ⟨v, t, rfl, k1, k2⟩ := hv
  simp only [putAll, Option.bind_eq_some_iff] at h
  obtain ⟨T', hp, h⟩ := h
  have hR : TmR w s M { T with ds := [], dl := [] } { tmps := tm, defers := [] } := ⟨h1, h2, ⟨[], rfl, rfl⟩, fun d hd => by cases hd⟩
  have hp' : putT { T with ds := [], dl := [] } (some p) x = some { T' with ds := [], dl := [] } := by
   simp only [putT] at hp ⊢
   split at hp
   ·rename_i hb; rw [if_pos hb]; simp only [Option.some.injEq] at hp; subst hp; rfl
   ·cases hp
  have hds : T'.ds = T.ds /\ T'.dl = T.dl := by
   simp only [putT] at hp
   split at hp
   ·simp only [Option.some.injEq] at hp; subst hp; exact ⟨rfl, rfl⟩
   ·cases hp
  have hR' := hR.put hp' k1
  simp only [List.zip_cons_cons, List.foldl_cons]
  obtain ⟨r1, r2, r3⟩ := fold_params (T := T') (T1 := T1) (tm := tm.setIfInBounds p v) h (by simpa using hl) k2 hR'.size hR'.get
  exact ⟨r1, r2, r3.1.trans hds.1, r3.2.trans hds.2⟩

theorem leaves_marks {fn : Func} {tmps : Array Value} {R : Ending -> World -> Prop} {dv : List Deferred} : ∀ {ds : List Nat} {s s' : St} {w : World}, killAll s ds = some s' -> Sim G B0 w0 w s M -> (∀ d, d ∈ ds -> d < s.n) ->
  (∀ w', Sim G B0 w0 w' s' M -> Ext w s M w' s' M -> LeavesInM (FW none) 0 P fn tmps R dv .returning w') -> LeavesInM (FW none) 0 P fn tmps R ((ds.map fun d => ({ target := .collected (M.blk d), args := #[] } : Deferred)) ++ dv) .returning w
 | [], s, s', w, h, hs, hd, hr => by
  simp only [killAll, Option.some.injEq] at h; subst h
  exact hr w hs (Ext.refl _ _ _)
 | d :: r, s, s', w, h, hs, hd, hr => by
  unfold killAll at h
  split at h
  ·rename_i hg
   have hdl := hd d (by simp)
   have ho := hs.obj d _ hdl hg
   have hlt := (hs.blk d hdl).2
   have htl : d < Tr.lid := Nat.lt_of_lt_of_le hdl hs.bound
   have h2 : ∀ k, k ≠ M.blk d -> (w.putObj (M.blk d) (.deferred none)).heap[k]? = w.heap[k]? := fun k hk => World.putObj_heap_other hk
   have hE1 : Ext w s M w (s.put d .dead) M := ext_kill d htl
   have hs1 := sim_kill hs d hdl
   -- the block is free: it is written
   have hE2 : Ext w s M (w.putObj (M.blk d) (.deferred none)) (s.put d .dead) M := by
    refine ⟨fun b off v hc hi => ?_, Nat.le_refl _, fun _ _ => ⟨rfl, rfl⟩, hE1.rows, ⟨by simp [World.putObj], fun b _ hno => h2 b fun e => hno d _ hdl hg trivial e.symm, hE1.frm.old⟩, hE1.keep⟩
    have hne : b ≠ M.blk d := fun e => by
     subst e
     have hc' := hc
     rw [World.cell?, show w.heap[M.blk d]? = _ from ho] at hc'
     cases hc'
    exact ⟨(World.cell?_of_block (w := w) (h2 b hne)).trans hc, (hE1.cells b off v hc hi).2⟩
   have hs2 : Sim G B0 w0 (w.putObj (M.blk d) (.deferred none)) (s.put d .dead) M := by
    refine ⟨hs.below.trans ⟨rfl, rfl, rfl, by simp [World.putObj], fun k hk => h2 k (by have := (hs.blk d hdl).1; omega)⟩, hs.size, hs.bound, fun i hi => by simpa [World.putObj] using hs.blk i hi, hs1.inj, fun i o hi hgi => ?_, fun g cs hgl => (hs.glob g cs hgl).ext hE2, hs.fx, hs.outw (by simp [World.putObj])⟩
    rw [St.get_put _ _ _ _ htl] at hgi
    by_cases e : i = d
    ·rw [if_pos e] at hgi; cases hgi; trivial
    ·rw [if_neg e] at hgi
     have ho' := hs.obj i o hi hgi
     cases o with
     | dead => trivial
     | box cs =>
      have hne : M.blk i ≠ M.blk d := fun e' => e (hs.inj i d _ _ hi hdl hgi hg trivial trivial e')
      obtain ⟨c, e', fr, a1, a2, a3⟩ := ho'; exact ⟨c, e', fr, (h2 _ hne).trans a1, a2.ext hE2, a3⟩
     | fz cs =>
      have hne : M.blk i ≠ M.blk d := fun e' => e (hs.inj i d _ _ hi hdl hgi hg trivial trivial e')
      obtain ⟨c, e', fr, a1, a2, a3⟩ := ho'; exact ⟨c, e', fr, (h2 _ hne).trans a1, a2.ext hE2, a3⟩
     | row tip esz =>
      have hne : M.blk i ≠ M.blk d := fun e' => e (hs.inj i d _ _ hi hdl hgi hg trivial trivial e')
      obtain ⟨c, e', fr, a1, a2⟩ := ho'; exact ⟨c, e', fr, (h2 _ hne).trans a1, a2⟩
     | map es =>
      have hne : M.blk i ≠ M.blk d := fun e' => e (hs.inj i d _ _ hi hdl hgi hg trivial trivial e')
      obtain ⟨c, k, a1, a2⟩ := ho'; exact ⟨c, k, (h2 _ hne).trans a1, a2.ext hE2⟩
     | loop T ps asg body st pend =>
      have hne : M.blk i ≠ M.blk d := fun e' => e (hs.inj i d _ _ hi hdl hgi hg trivial trivial e')
      obtain ⟨rc, a1, a2, a3, a4, a5, a6, a7, a8⟩ := ho'; exact ⟨rc, (h2 _ hne).trans a1, a2, a3, a4, a5, a6, a7, fun t => (a8 t).ext hE2⟩
     | sym k =>
      have hne : M.blk i ≠ M.blk d := fun e' => e (hs.inj i d _ _ hi hdl hgi hg trivial trivial e')
      show SymR _ _ _ _; rw [h2 _ hne]; exact ho'
     | ar t' e' z' =>
      have hne : M.blk i ≠ M.blk d := fun e' => e (hs.inj i d _ _ hi hdl hgi hg trivial trivial e')
      exact arR_ext hE2 (h2 _ hne) ho'
     | defs =>
      have hne : M.blk i ≠ M.blk d := fun e' => e (hs.inj i d _ _ hi hdl hgi hg trivial trivial e')
      exact (h2 _ hne).trans ho'
   refine ⟨by simp, .inl ⟨M.blk d, w.putObj (M.blk d) (.deferred none), rfl, run_takeDeferred ho, ?_⟩⟩
   exact leaves_marks h hs2 (fun q hq => hd q (by simp [hq])) fun w' k1 k2 => hr w' k1 (hE2.trans k2)
  ·cases h

theorem leavesInM_mono {F : Fence} {n : Nat} {fn : Func} {tmps : Array Value} {R R' : Ending -> World -> Prop} (hr : ∀ e w, R e w -> R' e w) : ∀ {ds : List Deferred} {u : FrameMode} {w : World}, LeavesInM F n P fn tmps R ds u w -> LeavesInM F n P fn tmps R' ds u w
 | [], u, w, h => by
  cases u with
  | run => exact h.elim
  | returning => obtain ⟨v, h1, h2⟩ := h; exact ⟨v, h1, hr _ _ h2⟩
  | panicking ch => exact hr _ _ h
 | d :: ds, u, w, h => by
  obtain ⟨hu, h⟩ := h
  refine ⟨hu, ?_⟩
  rcases h with ⟨r, w', h1, h2, h3⟩ | ⟨hn, fv, cap, f, args, h1, h2, h3, h4⟩
  ·exact .inl ⟨r, w', h1, h2, leavesInM_mono hr h3⟩
  ·refine .inr ⟨hn, fv, cap, f, args, h1, h2, h3, h4.mono fun e u' w' k => ?_⟩
   cases e with
   | returned v => exact leavesInM_mono hr k
   | panicked ch => exact leavesInM_mono hr k
   | outgrown => exact hr _ _ k

def PRm (w : World) (s : St) (M : Mp) (p : Option AV) (u : FrameMode) : Prop :=
 match p with
 | none => u = .returning
 | some y => ∃ v, u = .panicking [{ v, recovered := false }] /\ VR w s M y v
theorem PRm.ext {w w' : World} {s s' : St} {M M' : Mp} (e : Ext w s M w' s' M') {p : Option AV} {u : FrameMode} (h : PRm w s M p u) : PRm w' s' M' p u := by
 cases p with
 | none => exact h
 | some y => obtain ⟨v, h1, h2⟩ := h; exact ⟨v, h1, h2.ext e⟩

theorem moves_sound (hs : Sim G B0 w0 w s M) {ops : Array Oper} {Q : Exit -> Act -> List Frame -> World -> Prop} {cs : List Frame} : ∀ {l : List Nat} {T T' : Tm} {a : Act}, evMoves G ops l T = some T' -> TmR w s M T a -> (∀ a', TmR w s M T' a' -> Q .normal a' cs w) -> wpOpsSIn (FW none) 0 P ops Q l a cs w
 | [], T, T', a, h, hT, hq => by
  simp only [evMoves, Option.some.injEq] at h; subst h
  exact hq a hT
 | i :: rest, T, T', a, h, hT, hq => by
  unfold evMoves at h
  unfold wpOpsSIn
  cases hfo : fetch ops T i with
  | none => rw [hfo] at h; cases h
  | some o =>
   obtain ⟨ho, hgk⟩ := fetch_some hfo
   rw [hfo] at h
   rw [ho]
   simp only at h ⊢
   have hy : Region.wanted o (yielded ops a.tmps) = Region.wanted o (yieldedA ops T) := yielded_eq hT hgk
   refine ⟨fun _ _ => trivial, ?_⟩
   rw [hy]
   split at h
   ·rename_i hw
    rw [if_pos hw]
    have go : ∀ x, (∀ y, (execOp a.eval o).run P w = .ok (.value y) w -> a.eval x = y -> True) -> (execOp a.eval o).run P w = .ok (.value (a.eval x)) w -> (match opd G T x with
      | some a => match putT T o.dst a with
       | some T' => evMoves G ops rest T'
       | none => none
      | none => none) = some T' -> (match (execOp a.eval o).run P w with
    | .ok .recover w' =>
     match recoverD cs with
     | some (v, cs') => wpOpsSIn (FW none) 0 P ops Q rest (a.put o.dst v) cs' w'
     | none => wpOpsSIn (FW none) 0 P ops Q rest (a.put o.dst .nilIface) cs w'
    | .ok (.value v) w' => wpOpsSIn (FW none) 0 P ops Q rest (a.put o.dst v) cs w'
    | .ok .skip w' => wpOpsSIn (FW none) 0 P ops Q rest (a.put o.dst undef) cs w'
    | .halt (.panic v) w' => Q (.panic [{ v, recovered := false }]) a cs w'
    | _ => False) := by
     intro x _ hr hx
     rw [hr]
     split at hx
     ·rename_i c hc
      split at hx
      ·rename_i T1 hp
       exact moves_sound hs hx (hT.put hp (opd_sound hs hT hc)) hq
      ·cases hx
     ·cases hx
    split at h
    ·rename_i x hop
     exact go x (fun _ _ _ => trivial) (by simp [execOp, hop]) h
    ·rename_i x hop
     exact go x (fun _ _ _ => trivial) (by simp [execOp, hop]) h
    ·cases h
   ·cases h

theorem leaves_dl {run : Code -> Tm -> St -> Option (Ex × Tm × St)} (hP : NoNum P) (hrun : Goes P G B0 w0 none run) {fn : Func} {tmps : Array Value} {R : Ending -> World -> Prop} : ∀ {dl : List (Nat × List AV × List AV)} {p p' : Option AV} {s s' : St} {w : World} {M : Mp} {dv : List Deferred} {u : FrameMode}, runDefs P G run dl p s = some (p', s') -> DLr w s M dl dv -> Sim G B0 w0 w s M -> PRm w s M p u ->
  (∀ w' M' u', Sim G B0 w0 w' s' M' -> Ext w s M w' s' M' -> PRm w' s' M' p' u' -> LeavesInM (FW none) 0 P fn tmps R [] u' w') -> LeavesInM (FW none) 0 P fn tmps R dv u w
 | [], p, p', s, s', w, M, dv, u, h, hd, hs, hp, hq => by
  simp only [runDefs, Option.some.injEq, Prod.mk.injEq] at h
  obtain ⟨rfl, rfl⟩ := h
  have : dv = [] := hd
  subst this
  exact hq w M u hs (Ext.refl _ _ _) hp
 | (g, xs, ys) :: r, p, p', s, s', w, M, dv, u, h, hd, hs, hp, hq => by
  obtain ⟨args, cap, t, rfl, hx, hy, hd⟩ := hd
  unfold runDefs at h
  split at h
  ·rename_i s1 h1
   have hrunm : u ≠ .run := by
    cases p with
    | none => have : u = .returning := hp; rw [this]; exact fun e => by cases e
    | some y => obtain ⟨v, e, _⟩ := hp; rw [e]; exact fun e => by cases e
   unfold evDef at h1
   split at h1
   ·cases h1
   ·rename_i fg hfg
    split at h1
    ·rename_i id ops c hbody
     split at h1
     ·cases h1
     ·rename_i o ho
      dsimp only at h1
      split at h1
      ·cases h1
      ·rename_i hc
       simp only [Bool.or_eq_true, Bool.not_eq_true', not_or, Bool.not_eq_false] at hc
       obtain ⟨⟨⟨hle, hgw⟩, hrec⟩, hres⟩ := hc
       rw [Bool.and_eq_true] at hgw
       obtain ⟨hgk, hw⟩ := hgw
       have hle := Nat.le_of_ble_eq_true hle
       have hvl : VRl w s M (xs ++ ys) (args ++ cap).toList := by rw [Array.toList_append]; exact hx.append hy
       have hT := initT_sound (w := w) (s := s) (M := M) fg.ntmps hle hvl
       split at h1
       ·cases h1
       ·rename_i T1 hp1
        split at h1
        ·cases h1
        ·rename_i T2 hp2
         have hfin : ∃ ex T3, run c T2 s = some (ex, T3, s1) /\ (ex = .normal \/ ex = .ret) /\ T3.ds = [] /\ T3.dl = [] := by
          split at h1
          ·rename_i T3 s3 hr
           split at h1
           ·rename_i he
            rw [Bool.and_eq_true, List.isEmpty_iff, List.isEmpty_iff] at he
            cases h1
            exact ⟨_, _, hr, .inl rfl, he.1, he.2⟩
           ·cases h1
          ·rename_i T3 s3 hr
           split at h1
           ·rename_i he
            rw [Bool.and_eq_true, List.isEmpty_iff, List.isEmpty_iff] at he
            cases h1
            exact ⟨_, _, hr, .inr rfl, he.1, he.2⟩
           ·cases h1
          ·cases h1
         obtain ⟨ex, T3, hr3, hex, hds3, hdl3⟩ := hfin
         have hnum : (callFunc g (args ++ cap)).run P w = .ok (.enter g (args ++ cap)) w := by
          unfold callFunc
          have hn' : ¬ fg.name = "runtime.NumGoroutine" := by simpa using hP g fg hfg
          simp [hfg, hn', hbody]
         refine ⟨hrunm, .inr ⟨fun h => (by cases h), _, cap, g, args ++ cap, rfl, hnum, fun _ _ => trivial, ?_⟩⟩
         refine callsDIn_of_wpSIn hfg hbody trivial fun c₀ cs hu => ?_
         refine wpSIn_seq (wpSIn_region ?_)
         have hsz : 0 < ops.size := by
          rcases Nat.eq_zero_or_pos ops.size with e | e
          ·rw [Array.getElem?_eq_none (by omega)] at ho; cases ho
          ·exact e
         have hrange : List.range ops.size = 0 :: (List.range ops.size).drop 1 := by
          obtain ⟨k, hk⟩ : ∃ k, ops.size = k + 1 := ⟨ops.size - 1, by omega⟩
          rw [hk, List.range_succ_eq_map]
          rfl
         rw [hrange]
         unfold wpOpsSIn
         rw [ho]
         simp only
         refine ⟨fun _ _ => trivial, ?_⟩
         have hyl : Region.wanted o (yielded ops (args ++ cap ++ Array.replicate (fg.ntmps - (args ++ cap).size) undef)) = Region.wanted o (yieldedA ops (initT (xs ++ ys) fg.ntmps)) := by
          exact yielded_eq hT hgk
         rw [hyl, if_pos hw]
         have hex0 : ∀ ρ : Operand -> Value, (execOp ρ o).run P w = .ok .recover w := by
          intro ρ
          unfold isRecover at hrec
          split at hrec
          ·rename_i c0 hop
           split at hrec
           ·rename_i hcal
            simp [execOp, hop, resolve, hcal, invoke, builtin]
           ·cases hrec
          ·cases hrec
         rw [hex0]
         simp only
         -- what is recovered
         have key : ∃ (v : Value) (u1 : FrameMode), settle u1 = .returning /\ VR w s M (p.getD (.v .nilIface)) v /\
           ∀ (F : List Frame -> Value -> Prop), F ({ c₀ with mode := u1 } :: cs) v -> (match recoverD (c₀ :: cs) with
            | some (v, cs') => F cs' v
            | none => F (c₀ :: cs) .nilIface) := by
          cases p with
          | none =>
           have e : u = .returning := hp
           rw [e] at hu
           refine ⟨.nilIface, .returning, rfl, VR_v_of rfl, fun F hF => ?_⟩
           have e1 : recoverD (c₀ :: cs) = none := by simp [recoverD, hu]
           have e2 : ({ c₀ with mode := .returning } : Frame) = c₀ := by rw [<- hu]
           rw [e1]
           rw [e2] at hF
           exact hF
          | some y =>
           obtain ⟨v, e, hv⟩ := hp
           rw [e] at hu
           refine ⟨v, .panicking [{ v, recovered := true }], rfl, hv, fun F hF => ?_⟩
           have e1 : recoverD (c₀ :: cs) = some (v, { c₀ with mode := .panicking [{ v, recovered := true }] } :: cs) := by simp [recoverD, hu]
           rw [e1]
           exact hF
         obtain ⟨v, u1, hset, hv, key⟩ := key
         refine key (fun cs' v => wpOpsSIn (FW none) 0 P ops _ ((List.range ops.size).drop 1) (Act.put _ o.dst v) cs' w) ?_
         refine moves_sound hs hp2 (hT.put hp1 hv) fun a2 hT2 => ?_
         refine wpSIn_of_wpIn rfl ?_
         refine hrun c T2 s ex T3 s1 hr3 w M a2 _ hs hT2 fun e a3 w3 M3 k0 k1 k2 k3 => ?_
         have hdef : a3.defers = [] := by
          obtain ⟨dv3, q1, q2⟩ := k1.defers
          rw [hdl3] at q1
          have : dv3 = [] := q1
          rw [q2, hds3, this]; rfl
         have hre : resultsA P T3 s1 fg.results.toList = some [] := by
          have : fg.results = #[] := by simpa using hres
          rw [this]; rfl
         obtain ⟨v3, g1, _⟩ := results_sound k2 k1 hre
         have hnext : LeavesInM (FW none) 0 P fn tmps R t (settle u1) w3 := by
          rw [hset]
          exact leaves_dl hP hrun h (hd.ext k3) k2 (p := none) rfl fun w' M' u' j1 j2 j3 => hq w' M' u' j1 (k3.trans j2) j3
         rcases hex with rfl | rfl
         ·obtain rfl : e = .normal := k0
          exact ⟨hdef, u1, rfl, v3, g1, hnext⟩
         ·obtain rfl : e = .ret := k0
          exact ⟨hdef, u1, rfl, v3, g1, hnext⟩
    ·cases h1
  ·split at h
   ·rename_i s1 h1
    have hrunm : u ≠ .run := by
     cases p with
     | none => have : u = .returning := hp; rw [this]; exact fun e => by cases e
     | some y => obtain ⟨v, e, _⟩ := hp; rw [e]; exact fun e => by cases e
    unfold evDefPlain at h1
    split at h1
    ·cases h1
    ·rename_i fg hfg
     split at h1
     ·cases h1
     ·rename_i c hbody
      split at h1
      ·cases h1
      ·rename_i hc
       simp only [Bool.or_eq_true, Bool.not_eq_true', not_or, Bool.not_eq_false] at hc
       obtain ⟨hle, hres⟩ := hc
       have hle := Nat.le_of_ble_eq_true hle
       have hvl : VRl w s M (xs ++ ys) (args ++ cap).toList := by rw [Array.toList_append]; exact hx.append hy
       have hT := initT_sound (w := w) (s := s) (M := M) fg.ntmps hle hvl
       have hfin : ∃ ex T3, run c (initT (xs ++ ys) fg.ntmps) s = some (ex, T3, s1) /\ (ex = .normal \/ ex = .ret) /\ T3.ds = [] /\ T3.dl = [] := by
        split at h1
        ·rename_i T3 s3 hr
         split at h1
         ·rename_i he
          rw [Bool.and_eq_true, List.isEmpty_iff, List.isEmpty_iff] at he
          cases h1
          exact ⟨_, _, hr, .inl rfl, he.1, he.2⟩
         ·cases h1
        ·rename_i T3 s3 hr
         split at h1
         ·rename_i he
          rw [Bool.and_eq_true, List.isEmpty_iff, List.isEmpty_iff] at he
          cases h1
          exact ⟨_, _, hr, .inr rfl, he.1, he.2⟩
         ·cases h1
        ·cases h1
       obtain ⟨ex, T3, hr3, hex, hds3, hdl3⟩ := hfin
       have hnum : (callFunc g (args ++ cap)).run P w = .ok (.enter g (args ++ cap)) w := by
        unfold callFunc
        have hn' : ¬ fg.name = "runtime.NumGoroutine" := by simpa using hP g fg hfg
        simp [hfg, hn', hbody]
       refine ⟨hrunm, .inr ⟨fun h => (by cases h), _, cap, g, args ++ cap, rfl, hnum, fun _ _ => trivial, ?_⟩⟩
       refine callsDIn_of_wpSIn hfg hbody trivial fun c₀ cs hu => ?_
       refine wpSIn_of_wpIn rfl ?_
       refine hrun c (initT (xs ++ ys) fg.ntmps) s ex T3 s1 hr3 w M _ _ hs hT fun e a3 w3 M3 k0 k1 k2 k3 => ?_
       have hdef : a3.defers = [] := by
        obtain ⟨dv3, q1, q2⟩ := k1.defers
        rw [hdl3] at q1
        have : dv3 = [] := q1
        rw [q2, hds3, this]; rfl
       have hre : resultsA P T3 s1 fg.results.toList = some [] := by
        have : fg.results = #[] := by simpa using hres
        rw [this]; rfl
       obtain ⟨v3, g1, _⟩ := results_sound k2 k1 hre
       have hset : settle u = u := by
        cases p with
        | none => have : u = .returning := hp; rw [this]; rfl
        | some y => obtain ⟨v, e, _⟩ := hp; rw [e]; rfl
       have hnext : LeavesInM (FW none) 0 P fn tmps R t (settle u) w3 := by
        rw [hset]
        exact leaves_dl hP hrun h (hd.ext k3) k2 (p := p) (PRm.ext k3 hp) fun w' M' u' j1 j2 j3 => hq w' M' u' j1 (k3.trans j2) j3
       rcases hex with rfl | rfl
       ·obtain rfl : e = .normal := k0
        exact ⟨hdef, u, by rw [<- hu], v3, g1, hnext⟩
       ·obtain rfl : e = .ret := k0
        exact ⟨hdef, u, by rw [<- hu], v3, g1, hnext⟩
   ·cases h

theorem fin_sound {run : Code -> Tm -> St -> Option (Ex × Tm × St)} (hP : NoNum P) (hrun : Goes P G B0 w0 none run) {fn : Func} {T : Tm} {p : Option AV} {s s' : St} {r : AV} {w : World} {M : Mp} {a : Act} {dv : List Deferred} {u : FrameMode} (h : finA P G run fn T p s = some (r, s'))
  (hd : DLr w s M T.dl dv) (hs : Sim G B0 w0 w s M) (hT : TmR w s M T a) (hp : PRm w s M p u) : LeavesInM (FW none) 0 P fn a.tmps (Done G B0 w0 w s M r s') dv u w := by
 unfold finA at h
 split at h
 ·rename_i s1 hr
  refine leaves_dl hP hrun hr hd hs hp fun w' M' u' k1 k2 k3 => ?_
  have : u' = .returning := k3
  subst this
  have hT2 := hT.ext k2
  split at h
  ·rename_i x hx
   cases h
   obtain ⟨v, g1, g2⟩ := results_sound k1 hT2 hx
   exact ⟨v, g1, M', .inl ⟨v, rfl, g2⟩, k1, k2⟩
  ·rename_i xs hno hx
   cases h
   obtain ⟨v, g1, g2⟩ := results_sound k1 hT2 hx
   refine ⟨v, g1, M', .inl ⟨v, rfl, ?_⟩, k1, k2⟩
   revert g2
   split
   ·exact fun _ => absurd rfl (hno _)
   ·exact fun g => g
  ·cases h
 ·rename_i y s1 hr
  cases h
  refine leaves_dl hP hrun hr hd hs hp fun w' M' u' k1 k2 k3 => ?_
  obtain ⟨v, rfl, hv⟩ := k3
  exact ⟨M', .inr ⟨y, v, rfl, rfl, hv⟩, k1, k2⟩
 ·cases h

theorem fn_sound {mu : Nat -> Bool} {D : Ab.Call -> Drawn} {orc : Ab.Call} (hP : NoNum P) (K : Nat) (horc : CallOk P G B0 w0 orc) (hD : ∀ call, CallOk P G B0 w0 call -> DrawnOk P G B0 w0 (D call)) : ∀ k, CallOk P G B0 w0 (evFn P G mu D K orc k)
 | 0 => fun fr args s r s' h => by cases h
 | k + 1 => fun fr args s r s' h w M vs hs hv => by
  unfold evFn at h
  split at h
  ·rename_i q ho
   cases h
   exact horc fr args s r s' ho w M vs hs hv
  ·have ih := fn_sound (mu := mu) hP K horc hD k
   unfold evBody at h
   split at h
   ·-- a function
    rename_i f _
    split at h
    ·cases h
    ·rename_i fn hfn
     split at h
     ·cases h
     ·rename_i c hc
      split at h
      ·cases h
      ·rename_i hle
       simp only [Bool.not_eq_true', Bool.not_eq_false] at hle
       have hle := Nat.le_of_ble_eq_true hle
       have hT0 := initT_sound (w := w) (s := s) (M := M) fn.ntmps hle hv
       have hT : TmR w s M { initT args fn.ntmps with mu := (mu f, false) } { tmps := vs ++ Array.replicate (fn.ntmps - vs.size) undef, defers := [] } := ⟨hT0.size, hT0.get, hT0.defers, hT0.dlt⟩
       have hgo : Goes P G B0 w0 none (evCode P G D (evFn P G mu D K orc k) false K) := (code_sound hP ih (hD _ ih) (rb := false) (ro := none) (fun _ => rfl) K).1
       have lift : ∀ {s1 s2 : St} {w' w2 : World} {M' : Mp}, Ext w s M w' s1 M' -> Ext w' s1 M' w2 s2 M' -> ∀ e w3, Done G B0 w0 w2 s2 M' r s' e w3 -> Done G B0 w0 w s M r s' e w3 := fun k3 j2 e w3 ⟨M3, q1, q2, q3⟩ => ⟨M3, q1, q2, (k3.trans j2).trans q3⟩
       have fin : ∀ {T1 : Tm} {s1 : St}, (match killAll s1 T1.ds with
         | some s => finA P G (evCode P G D (evFn P G mu D K orc k) false K) fn T1 none s
         | none => none) = some (r, s') -> ∀ (a' : Act) (w' : World) (M' : Mp), TmR w' s1 M' T1 a' -> Sim G B0 w0 w' s1 M' -> Ext w s M w' s1 M' -> LeavesInM (FW none) 0 P fn a'.tmps (Done G B0 w0 w s M r s') a'.defers .returning w' := by
        intro T1 s1 h a' w' M' k1 k2 k3
        split at h
        ·rename_i s2 hk
         obtain ⟨dv, q1, q2⟩ := k1.defers
         rw [q2]
         refine leaves_marks hk k2 k1.dlt fun w2 j1 j2 => ?_
         exact leavesInM_mono (lift k3 j2) (fin_sound hP hgo h (q1.ext j2) j1 (k1.ext j2) rfl)
        ·cases h
       refine callsIn_of_wp_marks hfn hc trivial ?_
       split at h
       ·rename_i T1 s1 he
        refine hgo c _ s _ T1 s1 he w M _ _ hs hT fun e a' w' M' k0 k1 k2 k3 => ?_
        obtain rfl : e = .normal := k0
        exact fin h a' w' M' k1 k2 k3
       ·rename_i T1 s1 he
        refine hgo c _ s _ T1 s1 he w M _ _ hs hT fun e a' w' M' k0 k1 k2 k3 => ?_
        obtain rfl : e = .ret := k0
        exact fin h a' w' M' k1 k2 k3
       ·rename_i y T1 s1 he
        split at h
        ·rename_i hds
         refine hgo c _ s _ T1 s1 he w M _ _ hs hT fun e a' w' M' k0 k1 k2 k3 => ?_
         obtain ⟨v, rfl, hv'⟩ := k0
         obtain ⟨dv, q1, q2⟩ := k1.defers
         rw [hds] at q2
         show LeavesInM (FW none) 0 P fn a'.tmps _ a'.defers (.panicking [{ v, recovered := false }]) w'
         rw [q2]
         exact leavesInM_mono (lift k3 (Ext.refl _ _ _)) (fin_sound hP hgo h q1 k2 k1 ⟨v, rfl, hv'⟩)
        ·cases h
       ·cases h
   ·-- a round
    rename_i l ho
    split at h
    ·rename_i T ps asg body0 pend0 hg
     split at h
     ·cases h
     ·rename_i hlen
      simp only [Bool.or_eq_true, Bool.not_eq_true', not_or, Bool.not_eq_false] at hlen
      obtain ⟨hlen, hl⟩ := hlen
      have hlen := nbe hlen
      have hl : l < s.n := Nat.le_of_ble_eq_true hl
      split at h
      ·cases h
      ·rename_i T1 hput
       split at h
       ·rename_i T2 s2 hasg
        split at h
        ·rename_i Ta psa asga bodya penda hg2
         split at h
         ·cases h
         ·rename_i ex T3 s4 hnp hbody
          split at h
          ·rename_i Tb psb asgb bodyb stb pendb hg4
           cases h
           obtain ⟨rc, a1, a2, a3, a4, a5, a6, a7, a8⟩ := hs.obj l _ hl hg
           have hvl := hv.length
           simp only [Array.length_toList] at hvl
           have hps : rc.params.size = ps.length := by rw [<- a4]; simp
           refine ⟨rc, hl, a1, by omega, roundIn_of_wpIn trivial ?_⟩
           have hfold : (rc.params.zip vs).foldl (fun tmps (t, a) => tmps.setIfInBounds t a) rc.tmps = (ps.zip vs.toList).foldl (fun (tmps : Array Value) (p : Nat × Value) => tmps.setIfInBounds p.1 p.2) rc.tmps := by
            rw [<- Array.foldl_toList, Array.toList_zip, a4]
           obtain ⟨r1, r2, r3⟩ := fold_params (w := w) (s := s) (M := M) (T := { T with ds := [], dl := [] }) (tm := rc.tmps) hput hlen hv a7 a8
           rw [hfold]
           have hT1 : TmR w s M T1 { tmps := (ps.zip vs.toList).foldl (fun (tmps : Array Value) (p : Nat × Value) => tmps.setIfInBounds p.1 p.2) rc.tmps, defers := [] } := ⟨r1, r2, ⟨[], by rw [r3.2]; rfl, by rw [r3.1]; rfl⟩, fun d hd => by rw [r3.1] at hd; cases hd⟩
           subst a5 a6
           have hn1 : (true : Bool) = false -> (some (M.blk l) : Option Nat) = none := fun h => by cases h
           refine (code_sound hP ih (hD _ ih) (rb := true) (ro := some (M.blk l)) hn1 K).1 _ T1 s _ T2 s2 hasg w M _ _ hs hT1 fun e1 a1 w1 M1 k0 k1 k2 k3 => ?_
           obtain rfl : e1 = .normal := k0
           -- the round begins
           have hl1 : l < s2.n := Nat.lt_of_lt_of_le hl k3.n
           have hm1 := (k3.map l hl).1
           obtain ⟨rc1, b1, b2, b3, b4, b5, b6, b7, b8⟩ := k2.obj l _ hl1 hg2
           obtain ⟨hs3, hE3⟩ := sim_loop (st' := .busy) (pend' := penda) k2 hl1 hg2 b1
           have hrc1 : ({ rc1 with state := .busy, pending := penda } : Loop) = { rc1 with state := .busy } := by rw [<- b3]
           rw [hrc1] at hs3 hE3
           rw [hm1] at b1 hs3 hE3
           show ∃ w₂, (Instr.beginRound (M.blk l)).run P w1 = .ok () w₂ /\ _
           refine ⟨_, run_beginRound b1 b2, ?_⟩
           have hTb := k1.ext hE3
           refine (code_sound hP ih (hD _ ih) (rb := true) (ro := some (M.blk l)) hn1 K).1 _ T2 _ _ T3 s4 hbody _ M1 a1 _ hs3 hTb fun e3 a3 w3 M3 j0 j1 j2 j3 => ?_
           have hl4 : l < s4.n := Nat.lt_of_lt_of_le (show l < (s2.put l _).n from hl1) j3.n
           have hm4 := (j3.map l (show l < (s2.put l _).n from hl1)).1
           obtain ⟨rc4, d1, d2, d3, _⟩ := j2.obj l _ hl4 hg4
           obtain ⟨hs5, hE5⟩ := sim_loop (st' := if (jumpOf ex).isNone then .ready else .done) (pend' := jumpOf ex) j2 hl4 hg4 d1
           rw [hm4, hm1] at d1 hs5 hE5
           have hEall := (k3.trans hE3).trans (j3.trans hE5)
           have hend : ∃ v w', (Instr.endRound (M.blk l) (jumpOf ex)).run P w3 = .ok v w' /\ Done G B0 w0 w s M (.v (.bool (jumpOf ex).isNone)) (s4.put l (.loop Tb psb asgb bodyb (if (jumpOf ex).isNone then .ready else .done) (jumpOf ex))) (.returned v) w' :=
            ⟨_, _, run_endRound (jumpOf ex) d1, M3, .inl ⟨_, rfl, VR_v_of rfl⟩, hs5, hEall⟩
           cases ex with
           | panic y => exact (hnp y rfl).elim
           | normal => obtain rfl : e3 = .normal := j0; exact hend
           | exit id => obtain rfl : e3 = .exit id := j0; exact hend
           | goto l => obtain rfl : e3 = .goto l := j0; exact hend
           | ret => obtain rfl : e3 = .ret := j0; exact hend
          ·cases h
         ·cases h
        ·cases h
       ·cases h
    ·cases h
   ·cases h
end
end Go.Ab
/- Regions whose order is drawn: any order that the edges allow comes to what the text's order comes to. -/
namespace Go.Ab
open Go Go.RowKit

def vEq : Value -> Value -> Bool
 | .bool a, .bool b => a == b
 | .int k a, .int l b => k == l && a == b
 | .float k a, .float l b => k == l && Nat.beq a b
 | .string a, .string b => a == b
 | .pointer none, .pointer none => true
 | .map none, .map none => true
 | .nilFunc, .nilFunc => true
 | .nilIface, .nilIface => true
 | .slice none a b, .slice none c d => Nat.beq a c && Nat.beq b d
 | _, _ => false
theorem vEq_eq {a b : Value} (h : vEq a b = true) : a = b := by
 unfold vEq at h
 split at h
 ·simp at h; rw [h]
 ·simp at h; rw [h.1, h.2]
 ·rename_i k a l b
  rw [Bool.and_eq_true] at h; have h1 : k = l := by simpa using h.1
  rw [h1, nbe h.2]
 ·rw [(ba_beq _ _).1 h]
 ·rfl
 ·rfl
 ·rfl
 ·rfl
 ·rw [Bool.and_eq_true] at h; rw [nbe h.1, nbe h.2]
 ·cases h
mutual
def aEq : AV -> AV -> Bool
 | .v a, .v b => vEq a b
 | .ref a, .ref b => lEq a b
 | .box a b, .box c d => Nat.beq a c && Nat.beq b d
 | .sl a n t, .sl b m u => Nat.beq n m && t == u && lEq a b
 | .ms a b c, .ms d e f => Nat.beq a d && Nat.beq b e && Nat.beq c f
 | .mg a c, .mg b d => Nat.beq a b && Nat.beq c d
 | .iface t x, .iface u y => Nat.beq t u && aEq x y
 | .e0, .e0 => true
 | .mp a, .mp b => Nat.beq a b
 | .fn f a b, .fn g c d => f == g && lEq a c && lEq b d
 | .agg a, .agg b => lEq a b
 | .tup a, .tup b => lEq a b
 | .x t a, .x u b => t == u && eEq a b
 | .d t a n, .d u b m => Nat.beq t u && n == m && eEq a b
 | .rd t a n, .rd u b m => Nat.beq t u && Nat.beq n m && eEq a b
 | .so i a b h n, .so j c d k m => Nat.beq i j && Nat.beq n m && (h == k) && eEq a c && eEq b d
 | .po i a n, .po j c m => Nat.beq i j && Nat.beq n m && eEq a c
 | _, _ => false
def lEq : List AV -> List AV -> Bool
 | [], [] => true
 | a :: r, b :: t => aEq a b && lEq r t
 | _, _ => false
end
mutual
theorem aEq_eq : ∀ {a b : AV}, aEq a b = true -> a = b
 | .v a, b, h => by cases b <;> simp only [aEq, Bool.false_eq_true] at h; rw [vEq_eq h]
 | .ref a, b, h => by cases b <;> simp only [aEq, Bool.false_eq_true] at h; rw [lEq_eq h]
 | .box a c, b, h => by cases b <;> simp only [aEq, Bool.false_eq_true, Bool.and_eq_true] at h; rw [nbe h.1, nbe h.2]
 | .sl a n t, b, h => by cases b <;> simp only [aEq, Bool.false_eq_true, Bool.and_eq_true] at h; rw [nbe h.1.1, lEq_eq h.2, show t = _ by simpa using h.1.2]
 | .ms a c d, b, h => by cases b <;> simp only [aEq, Bool.false_eq_true, Bool.and_eq_true] at h; rw [nbe h.1.1, nbe h.1.2, nbe h.2]
 | .mg a c, b, h => by cases b <;> simp only [aEq, Bool.false_eq_true, Bool.and_eq_true] at h; rw [nbe h.1, nbe h.2]
 | .iface t x, b, h => by cases b <;> simp only [aEq, Bool.false_eq_true, Bool.and_eq_true] at h; rw [nbe h.1, aEq_eq h.2]
 | .pan x, b, h => by cases b <;> simp only [aEq, Bool.false_eq_true] at h
 | .e0, b, h => by cases b <;> simp only [aEq, Bool.false_eq_true] at h; rfl
 | .mp a, b, h => by cases b <;> simp only [aEq, Bool.false_eq_true] at h; rw [nbe h]
 | .fn f a c, b, h => by cases b <;> simp only [aEq, Bool.false_eq_true, Bool.and_eq_true] at h; rw [show f = _ by simpa using h.1.1, lEq_eq h.1.2, lEq_eq h.2]
 | .agg a, b, h => by cases b <;> simp only [aEq, Bool.false_eq_true] at h; rw [lEq_eq h]
 | .tup a, b, h => by cases b <;> simp only [aEq, Bool.false_eq_true] at h; rw [lEq_eq h]
 | .x t a, b, h => by cases b <;> simp only [aEq, Bool.false_eq_true, Bool.and_eq_true] at h; rw [show t = _ by simpa using h.1, eEq_eq h.2]
 | .d t a n, b, h => by cases b <;> simp only [aEq, Bool.false_eq_true, Bool.and_eq_true] at h; rw [nbe h.1.1, show n = _ by simpa using h.1.2, eEq_eq h.2]
 | .rd t a n, b, h => by cases b <;> simp only [aEq, Bool.false_eq_true, Bool.and_eq_true] at h; rw [nbe h.1.1, nbe h.1.2, eEq_eq h.2]
 | .so i a c h0 n, b, h => by cases b <;> simp only [aEq, Bool.false_eq_true, Bool.and_eq_true] at h; rw [nbe h.1.1.1.1, nbe h.1.1.1.2, show h0 = _ by simpa using h.1.1.2, eEq_eq h.1.2, eEq_eq h.2]
 | .po i a n, b, h => by cases b <;> simp only [aEq, Bool.false_eq_true, Bool.and_eq_true] at h; rw [nbe h.1.1, nbe h.1.2, eEq_eq h.2]
theorem lEq_eq : ∀ {a b : List AV}, lEq a b = true -> a = b
 | [], b, h => by cases b <;> simp only [lEq, Bool.false_eq_true] at h; rfl
 | a :: r, b, h => by cases b <;> simp only [lEq, Bool.false_eq_true, Bool.and_eq_true] at h; rw [aEq_eq h.1, lEq_eq h.2]
end

def mask1 (acc : List Nat) (o : Oper) : Nat := o.after.toList.foldl (fun s e => bif Region.binds .any e then s ||| 2 ^ e.on ||| acc.getD e.on 0 else s) 0
def masksF : List Oper -> List Nat -> List Nat
 | [], acc => acc
 | o :: r, acc => masksF r (acc ++ [mask1 acc o])
def masks (ops : Array Oper) : List Nat := masksF ops.toList []

theorem masksF_spec : ∀ (l : List Oper) (acc : List Nat), (∀ k, k < acc.length -> (masksF l acc)[k]? = acc[k]?) /\
  ∀ k o, l[k]? = some o -> (masksF l acc)[acc.length + k]? = some (mask1 ((masksF l acc).take (acc.length + k)) o)
 | [], acc => ⟨fun k _ => rfl, fun k o h => by simp at h⟩
 | o :: r, acc => by
  obtain ⟨h1, h2⟩ := masksF_spec r (acc ++ [mask1 acc o])
  refine ⟨fun k hk => ?_, fun k o' h => ?_⟩
  ·show (masksF r (acc ++ [mask1 acc o]))[k]? = _
   rw [h1 k (by simp; omega), List.getElem?_append_left hk]
  ·show (masksF r (acc ++ [mask1 acc o]))[acc.length + k]? = some (mask1 ((masksF r (acc ++ [mask1 acc o])).take _) o')
   cases k with
   | zero =>
    simp at h; subst h
    rw [Nat.add_zero, h1 acc.length (by simp), List.getElem?_append_right (Nat.le_refl _)]
    simp only [Nat.sub_self, List.getElem?_cons_zero]
    congr 2
    apply List.ext_getElem?
    intro j
    rw [List.getElem?_take]
    by_cases hj : j < acc.length
    ·rw [if_pos hj, h1 j (by simp; omega), List.getElem?_append_left hj]
    ·rw [if_neg hj, List.getElem?_eq_none (by omega)]
   | succ k =>
    have := h2 k o' (by simpa using h)
    rw [List.length_append] at this
    simp only [List.length_cons, List.length_nil] at this
    rw [show acc.length + (k + 1) = acc.length + (0 + 1) + k by omega]
    exact this
theorem mask1_bit {acc : List Nat} {o : Oper} {j : Nat} (h : (mask1 acc o).testBit j = true) : ∃ e, e ∈ o.after.toList /\ Region.binds .any e = true /\ (e.on = j \/ (acc.getD e.on 0).testBit j = true) := by
 unfold mask1 at h
 have key : ∀ (l : List Edge) (z : Nat), (l.foldl (fun s e => bif Region.binds .any e then s ||| 2 ^ e.on ||| acc.getD e.on 0 else s) z).testBit j = true -> z.testBit j = true \/ ∃ e, e ∈ l /\ Region.binds .any e = true /\ (e.on = j \/ (acc.getD e.on 0).testBit j = true) := by
  intro l
  induction l with
  | nil => intro z h; exact .inl h
  | cons e r ih =>
   intro z h
   rcases ih _ h with h | ⟨e', h1, h2⟩
   ·cases hb : Region.binds .any e with
    | false => dsimp only at h; rw [hb] at h; exact .inl h
    | true =>
     dsimp only at h
     rw [hb] at h
     simp only [cond_true, Nat.testBit_or, Nat.testBit_two_pow, Bool.or_eq_true, decide_eq_true_eq] at h
     rcases h with (h | h) | h
     ·exact .inl h
     ·exact .inr ⟨e, by simp, hb, .inl h⟩
     ·exact .inr ⟨e, by simp, hb, .inr h⟩
   ·exact .inr ⟨e', by simp [h1], h2⟩
 rcases key _ _ h with h | h
 ·simp at h
 ·exact h

section
variable [Interp] (P : Program)
def kindOf : Op -> Nat
 | .move _ | .assign _ | .pick .. | .build .. | .buildSlice .. | .nilCheck _ | .binOp .. | .unOp .. | .makeFunc .. | .slice .. | .fieldAddr .. | .field .. | .indexAddr .. | .index .. | .extract .. => 0
 | .load .. | .lookup .. => 1
 | .convert src dst _ =>
  match P.underlying src, P.underlying dst with
  | some (.slice _), _ | _, some (.slice _) => 2
  | _, _ => 0
 | .call c =>
  match c.callee with
  | .builtin .len => 1
  | .builtin .max | .builtin .min => 0
  | _ => 2
 | _ => 2
def eff0 (o : Oper) : Bool := Nat.beq (kindOf P o.op) 2
end
class Fg where
 fg : Bool
instance fg0 : Fg := ⟨false⟩
def isCallV : Op -> Bool
 | .call c => match c.callee with | .value _ => true | _ => false
 | _ => false
def eff [Fg] (P : Program) (o : Oper) : Bool := eff0 P o && !(Fg.fg && isCallV o.op)

def tmpsOf : List Operand -> List Nat
 | [] => []
 | .tmp t :: r => t :: tmpsOf r
 | _ :: r => tmpsOf r
def readsOf (ops : Array Oper) (o : Oper) : List Nat :=
 tmpsOf o.op.operands.toList ++ match o.guard with
  | some (j, _) => ((ops[j]?).bind (·.dst)).toList
  | none => []
def dstIs (o : Oper) (t : Nat) : Bool :=
 match o.dst with
 | some d => Nat.beq d t
 | none => false

def bitOf (ms : List Nat) (i j : Nat) : Bool := (ms.getD i 0).testBit j

def isPair (pr : Option (Nat × Nat)) (p q : Nat) : Bool :=
 match pr with
 | some (a, b) => Nat.beq a p && Nat.beq b q
 | none => false
def loosePair [Fg] (P : Program) (ops : Array Oper) : Option (Nat × Nat) :=
 let ms := masks ops
 let l := (ops.toList.zipIdx).filter fun x => eff P x.1
 (l.flatMap fun y => l.filterMap fun x => if Nat.ble (x.2 + 1) y.2 && !bitOf ms y.2 x.2 then some (x.2, y.2) else none).head?
def drawStatic [Fg] (P : Program) (pr : Option (Nat × Nat)) (ops : Array Oper) : Bool :=
 let ms := masks ops
 let l := ops.toList.zipIdx
 l.all fun (o, i) =>
  (o.after.toList.all fun e => !Region.binds .any e || Nat.ble (e.on + 1) i) &&
  ((readsOf ops o).all fun t => l.all fun (q, j) => !dstIs q t || bitOf ms i j || bitOf ms j i || Nat.beq i j) &&
  (match o.dst with | some d => l.all fun (q, j) => Nat.beq i j || !dstIs q d | none => true) &&
  (!eff P o || l.all fun (q, j) => !eff P q || Nat.ble i j || bitOf ms i j || isPair pr j i)

def Back (ops : Array Oper) : Prop := ∀ (i : Nat) (o : Oper), ops[i]? = some o -> ∀ (e : Edge), e ∈ o.after.toList -> Region.binds .any e = true -> e.on < i
theorem bit_lt_dep {ops : Array Oper} (D : Nat -> Prop) (hlt : Back ops) (hcl : ∀ (i : Nat) (o : Oper), ops[i]? = some o -> D i -> ∀ (e : Edge), e ∈ o.after.toList -> Region.binds .any e = true -> D e.on) :
  ∀ (i j : Nat), i < ops.size -> bitOf (masks ops) i j = true -> (∀ (o : Oper), ops[i]? = some o -> ∀ (e : Edge), e ∈ o.after.toList -> Region.binds .any e = true -> D e.on) -> D j := by
 intro i
 induction i using Nat.strongRecOn with
 | _ i ih =>
  intro j hi hb hd
  have ho : ops[i]? = some ops[i] := Array.getElem?_eq_getElem hi
  have hsp := (masksF_spec ops.toList []).2 i ops[i] (by rw [Array.getElem?_toList]; exact ho)
  simp only [List.length_nil, Nat.zero_add] at hsp
  unfold bitOf at hb
  rw [show masks ops = masksF ops.toList [] from rfl, List.getD_eq_getElem?_getD, hsp] at hb
  obtain ⟨e, h1, h2, h3⟩ := mask1_bit hb
  have hlt' := hlt i _ ho e h1 h2
  have hde := hd _ ho e h1 h2
  rcases h3 with rfl | h3
  ·exact hde
  ·refine ih e.on hlt' j (by omega) ?_ fun o' ho' e' he' hb' => hcl e.on o' ho' hde e' he' hb'
   unfold bitOf
   rw [List.getD_eq_getElem?_getD, List.getElem?_take, if_pos hlt'] at h3
   rw [List.getD_eq_getElem?_getD]; exact h3
theorem bit_lt {ops : Array Oper} (hlt : Back ops) {i j : Nat} (hi : i < ops.size) (hb : bitOf (masks ops) i j = true) : j < i := by
 exact bit_lt_dep (fun k => k < i) hlt (fun k o ho hk e he hb => Nat.lt_trans (hlt k o ho e he hb) hk) i j hi hb (fun o ho e he hb => hlt i o ho e he hb)

def Valid (ops : Array Oper) : List Nat -> List Nat -> Prop
 | D, [] => ∀ i, i < ops.size -> i ∈ D
 | D, i :: rest => i < ops.size /\ i ∉ D /\ (∀ (o : Oper), ops[i]? = some o -> ∀ (e : Edge), e ∈ o.after.toList -> Region.binds .any e = true -> e.on ∈ D) /\ Valid ops (i :: D) rest

theorem go_valid {ops : Array Oper} (hlt : Back ops) : ∀ (fuel t : Nat) (listed : Array Bool) (acc D : List Nat), listed.size = ops.size -> (∀ i, i < ops.size -> (listed.getD i true = true ↔ i ∈ D)) ->
  ((List.range ops.size).filter fun i => !listed.getD i true).length = fuel -> ∃ L, Region.linearise.go .any ops fuel t listed acc = acc.reverse ++ L /\ Valid ops D L
 | 0, t, listed, acc, D, hsz, hD, hf => by
  refine ⟨[], by simp [Region.linearise.go], fun i hi => (hD i hi).1 ?_⟩
  have := List.length_eq_zero_iff.1 hf
  rw [List.filter_eq_nil_iff] at this
  have := this i (List.mem_range.2 hi)
  simpa using this
 | fuel + 1, t, listed, acc, D, hsz, hD, hf => by
  unfold Region.linearise.go
  simp only
  generalize hrs : (List.range ops.size).filter (fun i => !listed.getD i true && ((ops[i]?).map (·.after.all fun e => !Region.binds .any e || listed.getD e.on false)).getD false) = rs
  -- there is one whose edges are all met
  have hne : rs ≠ [] := by
   intro e
   subst e
   have hex : ∃ i, i < ops.size /\ listed.getD i true = false := by
    rcases hq : (List.range ops.size).filter (fun i => !listed.getD i true) with _ | ⟨i, r⟩
    ·rw [hq] at hf; simp at hf
    ·have : i ∈ (List.range ops.size).filter (fun i => !listed.getD i true) := by rw [hq]; simp
     rw [List.mem_filter] at this
     exact ⟨i, List.mem_range.1 this.1, by simpa using this.2⟩
   have hmin : ∃ i, i < ops.size /\ listed.getD i true = false /\ ∀ j, j < i -> listed.getD j true = true := by
    obtain ⟨i, h1, h2⟩ := hex
    induction i using Nat.strongRecOn with
    | _ i ih =>
     by_cases hall : ∀ j, j < i -> listed.getD j true = true
     ·exact ⟨i, h1, h2, hall⟩
     ·rw [Classical.not_forall] at hall
      obtain ⟨j, hj⟩ := hall
      rw [Classical.not_imp] at hj
      exact ih j hj.1 (by omega) (by simpa using hj.2)
   obtain ⟨i, h1, h2, h3⟩ := hmin
   rw [List.filter_eq_nil_iff] at hrs
   refine hrs i (List.mem_range.2 h1) ?_
   rw [h2]
   simp only [Bool.not_false, Bool.true_and]
   rw [Array.getElem?_eq_getElem h1]
   simp only [Option.map_some, Option.getD_some, Array.all_eq_true']
   intro e he
   by_cases hbe : Region.binds .any e = true
   case neg => simp [hbe]
   have hel := hlt i _ (Array.getElem?_eq_getElem h1) e (by simpa using he) hbe
   have h4 := h3 e.on hel
   have : listed.getD e.on false = true := by
    rw [Array.getD_eq_getD_getElem?] at h4 ⊢
    rw [Array.getElem?_eq_getElem (by omega)] at h4 ⊢
    exact h4
   rw [this]; simp
  have hpos : 0 < rs.length := List.length_pos_iff.2 hne
  have hmod := Nat.mod_lt t hpos
  rw [List.getElem?_eq_getElem hmod]
  simp only
  have hmem : rs[t % rs.length] ∈ rs := List.getElem_mem hmod
  generalize rs[t % rs.length] = i at hmem
  rw [<- hrs, List.mem_filter, List.mem_range] at hmem
  obtain ⟨hi, hc⟩ := hmem
  rw [Bool.and_eq_true] at hc
  obtain ⟨hc1, hc2⟩ := hc
  have hc1 : listed.getD i true = false := by simpa using hc1
  rw [Array.getElem?_eq_getElem hi] at hc2
  simp only [Option.map_some, Option.getD_some, Array.all_eq_true'] at hc2
  have hget : ∀ j, j < ops.size -> (listed.setIfInBounds i true).getD j true = if j = i then true else listed.getD j true := by
   intro j hj
   rw [Array.getD_eq_getD_getElem?, Array.getD_eq_getD_getElem?]
   by_cases e : j = i
   ·subst e; rw [if_pos rfl, Array.getElem?_setIfInBounds_self, if_pos (by omega)]; rfl
   ·rw [if_neg e, Array.getElem?_setIfInBounds_ne (Ne.symm e)]
  obtain ⟨L, h1, h2⟩ := go_valid hlt fuel (t / rs.length) (listed.setIfInBounds i true) (i :: acc) (i :: D) (by simp [hsz]) (fun j hj => by
    rw [hget j hj]
    by_cases e : j = i
    ·simp [e]
    ·rw [if_neg e, hD j hj]; simp [e])
   (by
    have key : ((List.range ops.size).filter fun j => !listed.getD j true).length = ((List.range ops.size).filter fun j => !(listed.setIfInBounds i true).getD j true).length + 1 := by
     have hnd : (List.range ops.size).Nodup := List.nodup_range
     have e1 : (List.range ops.size).filter (fun j => !(listed.setIfInBounds i true).getD j true) = ((List.range ops.size).filter fun j => !listed.getD j true).filter (fun j => j != i) := by
      rw [List.filter_filter]
      apply List.filter_congr
      intro j hj
      rw [hget j (List.mem_range.1 hj)]
      by_cases e : j = i
      ·simp [e]
      ·simp [e]
     rw [e1]
     have hnd2 := hnd.filter (fun j => !listed.getD j true)
     have hmem2 : i ∈ (List.range ops.size).filter (fun j => !listed.getD j true) := by rw [List.mem_filter, List.mem_range]; exact ⟨hi, by rw [hc1]; rfl⟩
     have e2 : ((List.range ops.size).filter (fun j => !listed.getD j true)).filter (fun j => j != i) = ((List.range ops.size).filter (fun j => !listed.getD j true)).erase i := (List.Nodup.erase_eq_filter hnd2 i).symm
     rw [e2, List.length_erase_of_mem hmem2]
     have := List.length_pos_of_mem hmem2
     omega
    omega)
  refine ⟨i :: L, by rw [h1]; simp, hi, fun h => ?_, fun o ho e he hb => ?_, h2⟩
  ·have := (hD i hi).2 h; rw [hc1] at this; cases this
  ·rw [Array.getElem?_eq_getElem hi] at ho; cases ho
   have := hc2 e (by simpa using he)
   rw [hb] at this
   simp only [Bool.not_true, Bool.false_or] at this
   have hel := hlt i _ (Array.getElem?_eq_getElem hi) e he hb
   refine (hD e.on (by omega)).1 ?_
   rw [Array.getD_eq_getD_getElem?] at this ⊢
   rw [Array.getElem?_eq_getElem (by omega)] at this ⊢
   exact this
theorem schedule_valid {ops : Array Oper} (hlt : Back ops) (t : Nat) : Valid ops [] (Region.schedule true ops t) := by
 obtain ⟨L, h1, h2⟩ := go_valid hlt ops.size t (Array.replicate ops.size false) [] [] (by simp) (fun i hi => by simp [Array.getD_eq_getD_getElem?, hi]) (by
  rw [List.filter_eq_self.2]
  ·simp
  ·intro i hi; rw [List.mem_range] at hi; simp [Array.getD_eq_getD_getElem?, hi])
 have : Region.schedule true ops t = L := by
  unfold Region.schedule Region.linearise
  simp only [Bool.true_or, if_true]
  rw [h1]; simp
 rw [this]; exact h2
end Go.Ab
/- What a call has made of its own may be forgotten, where all that was there stands as it stood. -/
namespace Go.Ab
open Go Go.RowKit

def mEq : List (Value × AV) -> List (Value × AV) -> Bool
 | [], [] => true
 | (k, x) :: r, (l, y) :: t => vEq k l && aEq x y && mEq r t
 | _, _ => false
def oEq : Option AObj -> Option AObj -> Bool
 | some (.box a k), some (.box b l) => lEq a b && Nat.beq k l
 | some (.fz a k), some (.fz b l) => lEq a b && Nat.beq k l
 | some (.row (.c a) k), some (.row (.c b) l) => Nat.beq a b && Nat.beq k l
 | some (.row (.e x a) k), some (.row (.e y b) l) => eEq x y && Nat.beq a b && Nat.beq k l
 | some (.sym (.map a b e)), some (.sym (.map c d f)) => decide (a = c) && decide (b = d) && eEq e f
 | some (.sym (.arr a e)), some (.sym (.arr c f)) => decide (a = c) && eEq e f
 | some (.ar a e k), some (.ar b f l) => eEq e f && Nat.beq a b && Nat.beq k l
 | some (.map a), some (.map b) => mEq a b
 | some .dead, some .dead => true
 | some .defs, some .defs => true
 | none, none => true
 | _, _ => false
def subSt (s s' : St) : Bool := Nat.ble s.n s'.n && (List.range s.n).all fun i => oEq (s.get i) (s'.get i)
def frzL (g : AV -> Option AV) : List AV -> Option (List AV)
 | [] => some []
 | c :: r =>
  match g c, frzL g r with
  | some x, some y => if isCell c && !(isCell x) then none else some (x :: y)
  | _, _ => none
def frzG (s : St) (free : Nat -> Bool) : Nat -> AV -> Option AV
 | 0, _ => none
 | k + 1, c =>
  match c with
  | .v x => some (.v x)
  | .e0 => some .e0
  | .sy x b => some (.sy x b)
  | .x t e => some (.x t e)
  | .d t e _ => some (.d t e none)
  | .rd t e o => some (.rd t e o)
  | .ref cs => (frzL (frzG s free k) cs).map .ref
  | .sl cs len _ => (frzL (frzG s free k) cs).map (.sl · len none)
  | .agg cs => (frzL (frzG s free k) cs).map .agg
  | .tup cs => (frzL (frzG s free k) cs).map .tup
  | .iface t x => (frzG s free k x).map (.iface t)
  | .fn (.func f) a b =>
   match frzL (frzG s free k) a, frzL (frzG s free k) b with
   | some a, some b => some (.fn (.func f) a b)
   | _, _ => none
  | .mg b len =>
   match s.get b with
   | some (.box cs _) => if free b then (frzL (frzG s free k) cs).map (.sl · len none) else none
   | _ => none
  | .ms b off len =>
   match s.get b with
   | some (.box cs _) => if free b then (frzL (frzG s free k) (cs.drop off)).map (.sl · len none) else none
   | _ => none
  | .box b off =>
   match s.get b with
   | some (.box cs _) => if free b then (frzL (frzG s free k) (cs.drop off)).map .ref else none
   | _ => none
  | .so b off len _ wd =>
   match s.get b with
   | some (.ar t e _) => if free b && isLit0 off && enOk s.k len e && Nat.beq (s.k.shape t).length wd then some (.d t e none) else none
   | _ => none
  | _ => none
def frz (s : St) (n k : Nat) (c : AV) : Option AV := frzG s (Nat.ble n) k c
def fgCall (call : Call) : Call := fun fr args s =>
 match fr with
 | .func f =>
  match call (.func f) args s with
  | some (x, s') =>
   match frz s' s.n 1000 x with
   | some y => if subSt s s' then some (y, s) else none
   | none => none
  | none => none
 | _ => none

theorem mEq_eq : ∀ {a b : List (Value × AV)}, mEq a b = true -> a = b
 | [], [], _ => rfl
 | (k, x) :: r, (l, y) :: t, h => by
  unfold mEq at h
  simp only [Bool.and_eq_true] at h
  rw [vEq_eq h.1.1, aEq_eq h.1.2, mEq_eq h.2]
 | [], _ :: _, h => by cases h
 | (_, _) :: _, [], h => by cases h
theorem oEq_eq {a b : Option AObj} (h : oEq a b = true) : a = b := by
 unfold oEq at h
 split at h <;> first | rfl | (cases h; done) | (simp only [Bool.and_eq_true] at h; first | rw [lEq_eq h.1, nbe h.2] | rw [nbe h.1, nbe h.2] | rw [eEq_eq h.1.1, nbe h.1.2, nbe h.2]) | (simp only [Bool.and_eq_true, decide_eq_true_eq] at h; first | rw [h.1.1, h.1.2, eEq_eq h.2] | rw [h.1, eEq_eq h.2]) | rw [mEq_eq h]
theorem subSt_get {s s' : St} (h : subSt s s' = true) : s.n <= s'.n /\ ∀ i, i < s.n -> s'.get i = s.get i := by
 unfold subSt at h
 rw [Bool.and_eq_true, List.all_eq_true] at h
 exact ⟨Nat.le_of_ble_eq_true h.1, fun i hi => (oEq_eq (h.2 i (List.mem_range.2 hi))).symm⟩

section
variable [Interp] {w w' : World} {s s' : St} {M M' : Mp} (hn : s.n <= s'.n) (hget : ∀ i, i < s.n -> s'.get i = s.get i) (hk : s'.k = s.k)
include hn hget hk
theorem Imm.forget {b off : Nat} (h : Imm s' M' b off) : Imm s M' b off := ⟨fun i o hi hg hb => h.1 i o (Nat.lt_of_lt_of_le hi hn) (by rw [hget i hi]; exact hg) hb, h.2⟩
mutual
theorem VR.forget : ∀ {c : AV} {u v : Value}, VR w s M c u -> VR w' s' M' c v -> VR w' s M' c v
 | .v _, _, _, h, k => by unfold VR at k ⊢; exact k
 | .e0, _, _, h, k => by unfold VR at k ⊢; exact k
 | .ref cs, _, _, h, k => by
  unfold VR at h k ⊢
  obtain ⟨_, _, _, h⟩ := h; obtain ⟨b, off, e, k⟩ := k
  exact ⟨b, off, e, VRs.forget h k⟩
 | .box i off, _, _, h, k => by unfold VR at h k ⊢; exact ⟨h.1, k.2⟩
 | .sl cs len tok, _, _, h, k => by
  unfold VR at h k ⊢
  obtain ⟨_, _, _, _, _, h, h'⟩ := h; obtain ⟨b, off, cap, e, hl, k, k'⟩ := k
  exact ⟨b, off, cap, e, hl, VRs.forget h k, fun t ht => ⟨(h' t ht).1, fun tip e' hg => (k' t ht).2 tip e' (by rw [hget t (h' t ht).1]; exact hg)⟩⟩
 | .ms i off len, _, _, h, k => by unfold VR at h k ⊢; exact ⟨h.1, k.2⟩
 | .mg i len, _, _, h, k => by unfold VR at h k ⊢; exact ⟨h.1, k.2⟩
 | .mp i, _, _, h, k => by unfold VR at h k ⊢; exact ⟨h.1, k.2⟩
 | .fn f a b, _, _, h, k => by
  unfold VR at h k ⊢
  obtain ⟨_, _, _, _, h0, h1, h2⟩ := h; obtain ⟨f', a', b', e, k0, k1, k2⟩ := k
  refine ⟨f', a', b', e, ?_, VRl.forget h1 k1, VRl.forget h2 k2⟩
  unfold renFn at h0 k0 ⊢
  split at h0
  ·exact k0
  ·rename_i l
   split at h0
   ·rename_i hl
    simp only [if_pos (Nat.lt_of_lt_of_le hl hn)] at k0
    simp only [if_pos hl]; exact k0
   ·cases h0
  ·cases h0
 | .agg cs, _, _, h, k => by
  unfold VR at h k ⊢
  obtain ⟨_, _, h⟩ := h; obtain ⟨vs, e, k⟩ := k
  exact ⟨vs, e, VRl.forget h k⟩
 | .tup cs, _, _, h, k => by
  unfold VR at h k ⊢
  obtain ⟨_, _, h⟩ := h; obtain ⟨vs, e, k⟩ := k
  exact ⟨vs, e, VRl.forget h k⟩
 | .iface t x, _, _, h, k => by
  unfold VR at h k ⊢
  obtain ⟨_, _, h⟩ := h; obtain ⟨v, e, k⟩ := k
  exact ⟨v, e, VR.forget h k⟩
 | .pan _, _, _, h, k => by unfold VR at h; exact h.elim
 | .any, _, _, h, k => by unfold VR at k ⊢; exact k
 | .x _ _, _, _, h, k => by unfold VR at k ⊢; exact k
 | .d _ _ _, _, _, h, k => by
  unfold VR at h k ⊢; rw [<- hk]
  exact ⟨k.1.mono fun b off v h1 h2 => ⟨h1, Imm.forget hn hget hk h2⟩, k.2.1, fun t ht => ⟨(h.2.2 t ht).1, fun tip e hg => (k.2.2 t ht).2 tip e (by rw [hget t (h.2.2 t ht).1]; exact hg)⟩⟩
 | .so _ _ _ _ _, _, _, h, k => by unfold VR at h k ⊢; exact ⟨h.1, k.2⟩
 | .po _ _ _, _, _, h, k => by unfold VR at h k ⊢; exact ⟨h.1, k.2⟩
 | .rd _ _ _, _, _, h, k => by unfold VR at k ⊢; rw [<- hk]; obtain ⟨b, off, cs, e, e2, k, k2⟩ := k; exact ⟨b, off, cs, e, e2, DVs.mono (fun b off v h1 h2 => ⟨h1, Imm.forget hn hget hk h2⟩) k, k2⟩
 | .sy _ _, _, _, h, k => by unfold VR at k ⊢; exact k
theorem VRs.forget : ∀ {cs : List AV} {b off b' off' : Nat}, VRs w s M cs b off -> VRs w' s' M' cs b' off' -> VRs w' s M' cs b' off'
 | [], _, _, _, _, _, _ => by unfold VRs; trivial
 | c :: r, _, _, _, _, h, k => by
  unfold VRs at h k ⊢
  obtain ⟨⟨_, _, h1⟩, _, _, h4⟩ := h; obtain ⟨⟨v, k0, k1⟩, k2, k3, k4⟩ := k
  exact ⟨⟨v, k0, VR.forget h1 k1⟩, k2, Imm.forget hn hget hk k3, VRs.forget h4 k4⟩
theorem VRl.forget : ∀ {cs : List AV} {us vs : List Value}, VRl w s M cs us -> VRl w' s' M' cs vs -> VRl w' s M' cs vs
 | [], _, _, h, k => by unfold VRl at k ⊢; exact k
 | c :: r, _, _, h, k => by
  unfold VRl at h k ⊢
  obtain ⟨_, _, _, h1, h2⟩ := h; obtain ⟨v, t, e, k1, k2⟩ := k
  exact ⟨v, t, e, VR.forget h1 k1, VRl.forget h2 k2⟩
end
theorem MR.forget : ∀ {es : List (Value × AV)} {us vs : List MapEntry}, MR w s M es us -> MR w' s' M' es vs -> MR w' s M' es vs
 | [], _, _, h, k => by unfold MR at k ⊢; exact k
 | (_, _) :: r, _, _, h, k => by
  unfold MR at h k ⊢
  obtain ⟨_, _, _, _, h1, h2⟩ := h; obtain ⟨e, t, e1, e2, k1, k2⟩ := k
  exact ⟨e, t, e1, e2, VR.forget hn hget hk h1 k1, MR.forget h2 k2⟩
theorem sim_forget {G : Nat -> Option (List AV)} {B0 : Nat} {w0 : World} (hs : Sim G B0 w0 w s M) (hs' : Sim G B0 w0 w' s' M') (hE : Ext w s M w' s' M') : Sim G B0 w0 w' s M' /\ Ext w s M w' s M' := by
 have hE2 : Ext w s M w' s M' := ⟨fun b off v h1 h2 => ⟨(hE.cells b off v h1 h2).1, Imm.forget hn hget hk (hE.cells b off v h1 h2).2⟩, Nat.le_refl _, hE.map, fun _ _ _ _ h => h, ⟨hE.frm.size, hE.frm.blocks, fun i o hi hg hl hb => hE.frm.old i o (Nat.lt_of_lt_of_le hi hn) (by rw [hget i hi]; exact hg) hl hb⟩, hE.keep.1, hE.keep.2.1, rfl⟩
 refine ⟨⟨hs'.below, hs.size, hs.bound, fun i hi => hs'.blk i (Nat.lt_of_lt_of_le hi hn), fun i j oi oj hi hj gi gj => hs'.inj i j oi oj (Nat.lt_of_lt_of_le hi hn) (Nat.lt_of_lt_of_le hj hn) (by rw [hget i hi]; exact gi) (by rw [hget j hj]; exact gj), fun i o hi hg => ?_, fun g cs hg => (hs.glob g cs hg).ext hE2, fun e he => by rw [hE.keep.1]; exact hs.fx e he, fun b off ho => ⟨(hs'.out b off ho).1, fun i hi => (hs'.out b off ho).2 i (Nat.lt_of_lt_of_le hi hn)⟩⟩, hE2⟩
 have h := hs.obj i o hi hg
 have k := hs'.obj i o (Nat.lt_of_lt_of_le hi hn) (by rw [hget i hi]; exact hg)
 cases o with
 | box cs esz => obtain ⟨_, _, _, _, h2, _⟩ := h; obtain ⟨c, e', fr, a1, a2, a3⟩ := k; exact ⟨c, e', fr, a1, VRl.forget hn hget hk h2 a2, a3⟩
 | fz cs esz => obtain ⟨_, _, _, _, h2, _⟩ := h; obtain ⟨c, e', fr, a1, a2, a3⟩ := k; exact ⟨c, e', fr, a1, VRl.forget hn hget hk h2 a2, a3⟩
 | row tip esz => exact k
 | map es => obtain ⟨_, _, _, h2⟩ := h; obtain ⟨c, q, a1, a2⟩ := k; exact ⟨c, q, a1, MR.forget hn hget hk h2 a2⟩
 | dead => trivial
 | loop T ps asg body st pend => obtain ⟨_, _, _, _, _, _, _, _, h8⟩ := h; obtain ⟨rc, a1, a2, a3, a4, a5, a6, a7, a8⟩ := k; exact ⟨rc, a1, a2, a3, a4, a5, a6, a7, fun t => VR.forget hn hget hk (h8 t) (a8 t)⟩
 | defs => exact k
 | sym _ => exact k
 | ar t e z => exact arR_same (fun b off v h1 h2 => ⟨h1, Imm.forget hn hget hk h2⟩) rfl hk.symm rfl k
end

section
variable [Interp] {G : Nat -> Option (List AV)} {B0 : Nat} {w0 w' : World} {s s' : St} {M' : Mp} {free : Nat -> Bool} (himm : ∀ b off, Imm s' M' b off -> Imm s M' b off)
 (hown : ∀ b o, b < s'.n -> s'.get b = some o -> o.live -> free b = true -> ∀ off, Imm s M' (M'.blk b) off) (hk : s'.k = s.k) (hs : Sim G B0 w0 w' s' M')
include himm hown hk hs
theorem frzL_VRl {g : AV -> Option AV} (hg : ∀ {c y : AV} {v : Value}, g c = some y -> VR w' s' M' c v -> VR w' s M' y v) : ∀ {cs ys : List AV} {vs : List Value}, frzL g cs = some ys -> VRl w' s' M' cs vs -> VRl w' s M' ys vs
 | [], ys, vs, h, k => by
  simp only [frzL, Option.some.injEq] at h
  subst h; unfold VRl at k ⊢; exact k
 | c :: r, ys, vs, h, k => by
  unfold frzL at h
  split at h
  ·rename_i x y h1 h2
   split at h
   ·cases h
   ·cases h
    unfold VRl at k ⊢
    obtain ⟨v, t, e, k1, k2⟩ := k
    exact ⟨v, t, e, hg h1 k1, frzL_VRl hg h2 k2⟩
  ·cases h
theorem frzL_VRs {g : AV -> Option AV} (hg : ∀ {c y : AV} {v : Value}, g c = some y -> VR w' s' M' c v -> VR w' s M' y v) : ∀ {cs ys : List AV} {b off : Nat}, frzL g cs = some ys -> VRs w' s' M' cs b off -> VRs w' s M' ys b off
 | [], ys, _, _, h, k => by
  simp only [frzL, Option.some.injEq] at h
  subst h; unfold VRs; trivial
 | c :: r, ys, b, off, h, k => by
  unfold frzL at h
  split at h
  ·rename_i x y h1 h2
   split at h
   ·cases h
   ·rename_i hc
    cases h
    unfold VRs at k ⊢
    obtain ⟨⟨v, k0, k1⟩, k2, k3, k4⟩ := k
    refine ⟨⟨v, k0, hg h1 k1⟩, ?_, himm _ _ k3, frzL_VRs hg h2 k4⟩
    rw [k2] at hc
    simpa using hc
  ·cases h
theorem frzL_row {g : AV -> Option AV} (hg : ∀ {c y : AV} {v : Value}, g c = some y -> VR w' s' M' c v -> VR w' s M' y v) {b : Nat} (hb : b < s'.n) (hnb : free b = true) {cs ys : List AV} {k off : Nat} (hgb : s'.get b = some (.box cs k)) (h : frzL g (cs.drop off) = some ys) :
  VRs w' s M' ys (M'.blk b) off := by
 obtain ⟨c, e, fr, h1, h2, h3, _, _⟩ := hs.obj b _ hb hgb
 have himm2 : ∀ i, Imm s M' (M'.blk b) i := hown b _ hb hgb trivial hnb
 have key : ∀ (ds ys : List AV) (us : List Value) (off : Nat), frzL g ds = some ys -> VRl w' s' M' ds us -> ds.all isCell = true -> (∀ j v, us[j]? = some v -> w'.cell? ⟨M'.blk b, off + j, none⟩ = some v) -> VRs w' s M' ys (M'.blk b) off := by
  intro ds
  induction ds with
  | nil =>
   intro ys us off h _ _ _
   simp only [frzL, Option.some.injEq] at h
   subst h; unfold VRs; trivial
  | cons d r ih =>
   intro ys us off h k hc hcell
   unfold frzL at h
   split at h
   ·rename_i x y g1 g2
    split at h
    ·cases h
    ·rename_i hcx
     cases h
     unfold VRl at k
     obtain ⟨v, t, rfl, k1, k2⟩ := k
     simp only [List.all_cons, Bool.and_eq_true] at hc
     unfold VRs
     refine ⟨⟨v, by simpa using hcell 0 v rfl, hg g1 k1⟩, ?_, himm2 off, ih y t (off + 1) g2 k2 hc.2 fun j u hj => ?_⟩
     ·rw [hc.1] at hcx
      simpa using hcx
     ·have := hcell (j + 1) u (by simpa using hj)
      rw [show off + 1 + j = off + (j + 1) by omega]; exact this
   ·cases h
 refine key (cs.drop off) ys ((c.toList.take cs.length).drop off) off h (h2.drop off) ?_ fun j v hj => ?_
 ·rw [List.all_eq_true] at h3 ⊢
  exact fun x hx => h3 x (List.mem_of_mem_drop hx)
 ·rw [List.getElem?_drop, List.getElem?_take] at hj
  split at hj
  ·simp only [World.cell?, h1]
   simpa using hj
  ·cases hj
theorem frzG_VR : ∀ (k : Nat) {c y : AV} {v : Value}, frzG s' free k c = some y -> VR w' s' M' c v -> VR w' s M' y v
 | 0, _, _, _, h, _ => by cases h
 | k + 1, c, y, v, h, hv => by
  have ih : ∀ {c y : AV} {v : Value}, frzG s' free k c = some y -> VR w' s' M' c v -> VR w' s M' y v := frzG_VR k
  unfold frzG at h
  split at h
  ·cases h; unfold VR at hv ⊢; exact hv
  ·cases h; unfold VR at hv ⊢; exact hv
  ·cases h; unfold VR at hv ⊢; exact hv
  ·cases h; unfold VR at hv ⊢; exact hv
  ·cases h; unfold VR at hv ⊢; rw [<- hk]; exact ⟨hv.1.mono fun b off v h1 h2 => ⟨h1, himm _ _ h2⟩, hv.2.1, fun t ht => by cases ht⟩
  ·cases h; unfold VR at hv ⊢; rw [<- hk]; obtain ⟨b, off, cs, e, e2, k1, k2⟩ := hv; exact ⟨b, off, cs, e, e2, DVs.mono (fun b off v h1 h2 => ⟨h1, himm _ _ h2⟩) k1, k2⟩
  ·obtain ⟨ys, h1, rfl⟩ := Option.map_eq_some_iff.1 h
   unfold VR at hv ⊢
   obtain ⟨b, off, e, hv⟩ := hv
   exact ⟨b, off, e, frzL_VRs himm hown hk hs ih h1 hv⟩
  ·obtain ⟨ys, h1, rfl⟩ := Option.map_eq_some_iff.1 h
   unfold VR at hv ⊢
   obtain ⟨b, off, cap, e, hl, hv, _⟩ := hv
   exact ⟨b, off, cap, e, hl, frzL_VRs himm hown hk hs ih h1 hv, fun t ht => by cases ht⟩
  ·obtain ⟨ys, h1, rfl⟩ := Option.map_eq_some_iff.1 h
   unfold VR at hv ⊢
   obtain ⟨vs, e, hv⟩ := hv
   exact ⟨vs, e, frzL_VRl himm hown hk hs ih h1 hv⟩
  ·obtain ⟨ys, h1, rfl⟩ := Option.map_eq_some_iff.1 h
   unfold VR at hv ⊢
   obtain ⟨vs, e, hv⟩ := hv
   exact ⟨vs, e, frzL_VRl himm hown hk hs ih h1 hv⟩
  ·obtain ⟨ys, h1, rfl⟩ := Option.map_eq_some_iff.1 h
   unfold VR at hv ⊢
   obtain ⟨u, e, hv⟩ := hv
   exact ⟨u, e, ih h1 hv⟩
  ·split at h
   ·rename_i a b h1 h2
    cases h
    unfold VR at hv ⊢
    obtain ⟨f', a', b', e, k0, k1, k2⟩ := hv
    exact ⟨f', a', b', e, k0, frzL_VRl himm hown hk hs ih h1 k1, frzL_VRl himm hown hk hs ih h2 k2⟩
   ·cases h
  ·rename_i b len
   split at h
   ·rename_i cs q hgb
    split at h
    ·rename_i hb
     obtain ⟨ys, h1, rfl⟩ := Option.map_eq_some_iff.1 h
     unfold VR at hv ⊢
     obtain ⟨k0, k1, e⟩ := hv
     exact ⟨M'.blk b, 0, M'.cap b, e, k1, frzL_row himm hown hk hs ih k0 hb hgb (by simpa using h1), fun t ht => by cases ht⟩
    ·cases h
   ·cases h
  ·rename_i b off len
   split at h
   ·rename_i cs q hgb
    split at h
    ·rename_i hb
     obtain ⟨ys, h1, rfl⟩ := Option.map_eq_some_iff.1 h
     unfold VR at hv ⊢
     obtain ⟨k0, cap, k1, e⟩ := hv
     exact ⟨M'.blk b, off, cap, e, k1, frzL_row himm hown hk hs ih k0 hb hgb h1, fun t ht => by cases ht⟩
    ·cases h
   ·cases h
  ·rename_i b off
   split at h
   ·rename_i cs q hgb
    split at h
    ·rename_i hb
     obtain ⟨ys, h1, rfl⟩ := Option.map_eq_some_iff.1 h
     unfold VR at hv ⊢
     obtain ⟨k0, e⟩ := hv
     exact ⟨M'.blk b, off, e, frzL_row himm hown hk hs ih k0 hb hgb h1⟩
    ·cases h
   ·cases h
  ·rename_i b off en wh wd
   split at h
   ·rename_i t e z hgb
    split at h
    ·rename_i hb
     cases h
     simp only [Bool.and_eq_true] at hb
     obtain ⟨⟨⟨hb1, hb2⟩, hb3⟩, hb4⟩ := hb
     unfold VR at hv ⊢
     obtain ⟨k0, n, n', m, cap, p1, p2, rfl, hle, hn', _⟩ := hv
     obtain ⟨c, ty, fr, rows, a1, a2, a3, a4, a5⟩ := hs.obj b _ k0 hgb
     rw [isLit0_den hb2] at p1
     injection p1 with p1
     injection p1 with _ p1
     have hn : n = 0 := by omega
     subst hn
     rw [Nat.zero_add] at p2
     have hm := enOk_sound hs hb3 p2
     rw [a2] at hm
     have hm : m = rows.length := hm
     subst hm
     rw [a2]
     refine ⟨?_, by rw [<- hk]; unfold fits; exact a3, fun t ht => by cases ht⟩
     have himm2 : ∀ i, Imm s M' (M'.blk b) i := hown b _ k0 hgb trivial hb1
     unfold DV
     refine .inr ⟨_, n' * wd, cap, rfl, hle, ?_⟩
     cases rows with
     | nil => unfold DVr; trivial
     | cons d0 r0 =>
      rw [hn' (by simp), Nat.zero_mul]
      refine DVr_of (fun d hd => (fitsR_row a3 d hd).imp fun _ h => h.1) (a4.mono fun b off v h1 h2 => ⟨h1, himm _ _ h2⟩) fun j v hj => ⟨?_, himm2 _⟩
      have := (at_block a1).take _ j v hj
      rw [Nat.zero_add] at this ⊢
      exact this
    ·cases h
   ·cases h
  ·cases h
end

theorem imm_prefix [Interp] {G : Nat -> Option (List AV)} {B0 : Nat} {w0 w' : World} {s s' : St} {M' : Mp} (hn : s.n <= s'.n) (hget : ∀ i, i < s.n -> s'.get i = s.get i) (hs : Sim G B0 w0 w' s' M') :
  ∀ b ob, b < s'.n -> s'.get b = some ob -> ob.live -> Nat.ble s.n b = true -> ∀ off, Imm s M' (M'.blk b) off := by
 intro b ob hb hgb hlv hnb off
 have hnb := Nat.le_of_ble_eq_true hnb
 refine ⟨fun j o hj hgj hbk => ?_, out_own hs hb⟩
 have e1 := hs.inj j b o ob (by omega) hb (by rw [hget j hj]; exact hgj) hgb
 cases o with
 | dead => trivial
 | _ => exact absurd (e1 trivial hlv hbk) (by omega)
theorem frz_VR [Interp] {G : Nat -> Option (List AV)} {B0 : Nat} {w0 w' : World} {s s' : St} {M' : Mp} (hn : s.n <= s'.n) (hget : ∀ i, i < s.n -> s'.get i = s.get i) (hk : s'.k = s.k) (hs : Sim G B0 w0 w' s' M') (k : Nat) {c y : AV} {v : Value} (h : frz s' s.n k c = some y) (hv : VR w' s' M' c v) : VR w' s M' y v :=
 frzG_VR (fun b off hi => Imm.forget hn hget hk hi) (imm_prefix hn hget hs) hk hs k h hv

theorem fgCall_ok [Interp] {P : Program} {G : Nat -> Option (List AV)} {B0 : Nat} {w0 : World} {call : Call} (h : CallOk P G B0 w0 call) : CallOk P G B0 w0 (fgCall call) := by
 intro fr args s r s' hc w M vs hs hv
 unfold fgCall at hc
 split at hc
 ·rename_i f
  split at hc
  ·rename_i x s1 h1
   split at hc
   ·rename_i y hy
    split at hc
    ·rename_i hb
     cases hc
     obtain ⟨hn, hget⟩ := subSt_get hb
     refine (h (.func f) args s x s1 h1 w M vs hs hv).mono ?_
     rintro e w' ⟨M', hd, k2, k3⟩
     obtain ⟨q1, q2⟩ := sim_forget hn hget k3.keep.2.2 hs k2 k3
     refine ⟨M', ?_, q1, q2⟩
     rcases hd with ⟨v, rfl, k1⟩ | ⟨y', v, hy', rfl, k1⟩
     ·exact .inl ⟨v, rfl, frz_VR hn hget k3.keep.2.2 k2 1000 hy k1⟩
     ·exfalso
      unfold isPan at hy'
      split at hy'
      ·simp [frz, frzG] at hy
      ·cases hy'
    ·cases hc
   ·cases hc
  ·cases hc
 ·cases hc

theorem fg_state1 {P : Program} {G : Nat -> Option (List AV)} {call : Call} {o : Oper} {T : Tm} {s s' : St} {x : AV} {c : Go.Call} {f : Operand} (hop : o.op = .call c) (hc : c.callee = .value f) (h : evOp1 P G (fgCall call) o T s = some (x, s')) : s' = s := by
 have key : ∀ fr args y s1, fgCall call fr args s = some (y, s1) -> s1 = s := fun fr args y s1 h => by
  unfold fgCall at h
  split at h
  ·split at h
   ·split at h
    ·split at h
     ·cases h; rfl
     ·cases h
    ·cases h
   ·cases h
  ·cases h
 simp only [evOp1, hop, hc, Option.bind_eq_bind, Option.bind_eq_some_iff] at h
 obtain ⟨args, h1, cf, h2, h⟩ := h
 split at h
 ·unfold callA at h
  split at h
  ·cases h
  ·split at h
   ·exact key _ _ _ _ h
   ·split at h
    ·split at h
     ·cases h; rfl
     ·cases h
    ·simp only [Option.bind_eq_bind, Option.bind_eq_some_iff] at h
     obtain ⟨_, _, _, _, h⟩ := h
     split at h
     ·simp only [Option.bind_eq_some_iff, Option.pure_def, Option.some.injEq, Prod.mk.injEq] at h
      obtain ⟨_, _, _, h⟩ := h
      exact h.symm
     ·cases h
 ·exact key _ _ _ _ h
 ·cases h
theorem fg_state {P : Program} {G : Nat -> Option (List AV)} {call : Call} {o : Oper} {T : Tm} {s s' : St} {x : AV} {c : Go.Call} {f : Operand} (hop : o.op = .call c) (hc : c.callee = .value f) (h : evOp P G (fgCall call) o T s = some (x, s')) : s' = s := by
 unfold evOp at h
 split at h
 ·rename_i x1 s2 h1
  cases h
  exact fg_state1 hop hc h1
 ·split at h
  ·rename_i x1 s2 h1
   cases h
   have e1 : evSym0 P G o T s = none := by unfold evSym0; rw [hop]; simp only [hc]
   unfold evSym at h1
   rw [e1] at h1
   simp only at h1
   have e2 : evArr P G o T s = none := by unfold evArr; rw [hop]; simp only [hc]
   rw [e2] at h1
   simp only at h1
   unfold evMore at h1
   rw [hop] at h1
   simp only [hc] at h1
   cases h1
  ·cases h
end Go.Ab
/- Regions whose order is drawn, evaluated: any order comes to the same. -/
namespace Go.Ab
open Go Go.RowKit

section
variable [Interp] [fgI : Fg] (P : Program) (G : Nat -> Option (List AV))
def evRec (call : Ab.Call) (ops : Array Oper) : List Nat -> Tm -> St -> Option (List Tm × Tm × List St × St)
 | [], T, s => some ([], T, [], s)
 | i :: rest, T, s =>
  match fetch ops T i with
  | none => none
  | some o =>
   match (if Region.wanted o (yieldedA ops T) then evOp P G call o T s else some (und, s)) with
   | none => none
   | some (x, s') =>
    match (if (isPan x).isNone then putT T o.dst x else none) with
    | none => none
    | some T' =>
     match evRec call ops rest T' s' with
     | none => none
     | some (Ts, Tf, ss, sf) => some (T :: Ts, Tf, (if eff P o then s' :: ss else ss), sf)

def evOps0 (call : Ab.Call) (ops : Array Oper) : List Nat -> Tm -> St -> Option (Tm × St)
 | [], T, s => some (T, s)
 | i :: rest, T, s =>
  match fetch ops T i with
  | none => none
  | some o =>
   if Region.wanted o (yieldedA ops T) then
    match evOp P G call o T s with
    | some (x, s') =>
     match (if (isPan x).isNone then putT T o.dst x else none) with
     | some T' => evOps0 call ops rest T' s'
     | none => none
    | none => none
   else match putT T o.dst und with
    | some T' => evOps0 call ops rest T' s
    | none => none

def effAt (ops : Array Oper) (j : Nat) : Bool := match ops[j]? with | some o => eff P o | none => false
def cnt (ops : Array Oper) (f : Nat -> Bool) (i : Nat) : Nat := (List.range i).countP fun j => effAt P ops j && f j

def dynOk (call : Ab.Call) (ops : Array Oper) (Ts : List Tm) (Tf : Tm) (sts : List St) : Bool :=
 let ms := masks ops
 Nat.ble sts.length 1 ||
 ops.toList.zipIdx.all fun (o, i) =>
  match Ts[i]? with
  | none => false
  | some Ti =>
   eff P o || !Region.wanted o (yieldedA ops Ti) ||
   (List.range sts.length).all fun p =>
    !(Nat.ble (cnt P ops (fun j => bitOf ms i j) ops.size) p) || !(Nat.ble p (cnt P ops (fun j => !bitOf ms j i) ops.size)) ||
    match sts[p]? with
    | some s =>
     match evOp P G call o Ti s with
     | some (y, _) => (isPan y).isNone && (match o.dst with | some d => aEq y (gt Tf d) | none => true)
     | none => false
    | none => false

def storeTo (T : Tm) (o : Oper) : Option Nat :=
 match o.op with
 | .store _ a _ => match opd G T a with
  | some (.box b _) => some b
  | _ => none
 | _ => none
def allocCall (op oq : Oper) : Bool :=
 match op.op, oq.op with
 | .alloc _, .call c => match c.callee with | .value _ => true | _ => false
 | _, _ => false
def callAlloc (op oq : Oper) : Bool := allocCall oq op
def allocPair (ops : Array Oper) (pr : Option (Nat × Nat)) : Bool :=
 match pr with
 | some (p, q) => match ops[p]?, ops[q]? with | some op, some oq => allocCall op oq || callAlloc op oq | _, _ => false
 | none => false
def pairOk (call : Ab.Call) (ops : Array Oper) (Ts : List Tm) (Tf : Tm) (sts : List St) (pr : Option (Nat × Nat)) : Bool :=
 match pr with
 | none => true
 | some (p, q) =>
  match ops[p]?, ops[q]?, Ts[p]?, Ts[q]? with
  | some op, some oq, some Tp, some Tq =>
   Region.wanted op (yieldedA ops Tp) && Region.wanted oq (yieldedA ops Tq) && Nat.beq (cnt P ops (fun _ => true) q) (cnt P ops (fun _ => true) p + 1) && Nat.ble (p + 1) q && eff P op && eff P oq &&
   (match sts[cnt P ops (fun _ => true) p]? with
    | some sp =>
     match evOp P G call oq Tq sp with
     | some (y, alt) =>
      (match storeTo G Tp op, storeTo G Tq oq with
       | some b, some c => !Nat.beq b c && Nat.ble (b + 1) Tr.lid && Nat.ble (c + 1) Tr.lid
       | _, _ => false) &&
      ops.toList.zipIdx.all fun (o, i) =>
       match Ts[i]? with
       | none => false
       | some Ti =>
        eff P o || !Region.wanted o (yieldedA ops Ti) || bitOf (masks ops) i p || bitOf (masks ops) q i ||
        match evOp P G call o Ti alt with
        | some (y, _) => (isPan y).isNone && (match o.dst with | some d => aEq y (gt Tf d) | none => true)
        | none => false
     | none => false
    | none => false)
  | _, _, _, _ => false
def evDrawnG (call : Ab.Call) (ops : Array Oper) (T : Tm) (s : St) : Option (Tm × St) :=
 let pr := loosePair P ops
 if drawStatic P pr ops then
  match evRec P G call ops (List.range ops.size) { T with mu := (T.mu.1, true) } s with
  | some (Ts, Tf, ss, sf) => if dynOk P G call ops Ts Tf (s :: ss) && pairOk P G call ops Ts Tf (s :: ss) pr then some ({ Tf with mu := T.mu }, sf) else none
  | none => none
 else none

end
section
variable [Interp] (P : Program) (G : Nat -> Option (List AV))
def evPure (call : Ab.Call) (ops : Array Oper) : List Nat -> Tm -> St -> Option Tm
 | [], T, s => some T
 | i :: rest, T, s =>
  match fetch ops T i with
  | none => none
  | some o =>
   if eff P o then none else
   if Region.wanted o (yieldedA ops T) then
    match evOp P G call o T s with
    | some (x, s') =>
     if (isPan x).isNone && T.mu.2 then
      match putT T o.dst x with
      | some T' => evPure call ops rest T' s
      | none => none
     else none
    | none => none
   else match putT T o.dst und with
    | some T' => evPure call ops rest T' s
    | none => none
def clearT : List Oper -> Tm -> Option Tm
 | [], T => some T
 | o :: r, T =>
  match putT T o.dst .any with
  | some T' => clearT r T'
  | none => none
def evPan (call : Ab.Call) : Drawn := fun ops T s =>
 match (ops.toList.zipIdx.filter fun x => eff P x.1).head? with
 | none => none
 | some (oi, i) =>
  let ms := masks ops
  if drawStatic P (loosePair P ops) ops && (ops.toList.zipIdx.all fun x => !eff P x.1 || (Nat.beq x.2 i || bitOf ms x.2 i)) then
   match evPure P G call ops ((List.range ops.size).filter fun k => !Nat.beq k i && !bitOf ms k i) { T with mu := (T.mu.1, true) } s with
   | some Tf =>
    if gk ops Tf oi && Region.wanted oi (yieldedA ops Tf) then
     match evOp P G call oi Tf s with
     | some (x, s') =>
      match isPan x with
      | some y =>
       let lo := ((List.range ops.size).filter fun k => !Nat.beq k i && !bitOf ms k i).filterMap (ops[·]?)
       match clearT lo T with
       | some T' => some (some y, T', s')
       | none => none
      | none => none
     | none => none
    else none
   | none => none
  else none

def evDrawn (call : Ab.Call) (ops : Array Oper) (T : Tm) (s : St) : Option (Tm × St) :=
 if allocPair ops (loosePair P ops) then evDrawnG (fgI := ⟨true⟩) P G (fgCall call) ops T s
 else evDrawnG P G call ops T s
def allocAt (ops : Array Oper) : Option (Nat × Oper × TypeId × Nat) :=
 ops.toList.zipIdx.findSome? fun (o, i) => match o.op, o.dst with
  | .alloc t, some d => some (i, o, t, d)
  | _, _ => none
def stubOp (o : Oper) : Oper := { o with op := .move (.const (.int .i64 0)) }
def firstRead (ops : Array Oper) (d : Nat) : Nat :=
 ((List.range ops.size).find? fun i => match ops[i]? with | some o => (readsOf ops o).any (Nat.beq d) | none => false).getD ops.size
def stubOps (ops : Array Oper) (ia m : Nat) (oa : Oper) : Array Oper := ((ops.toList.take m).set ia (stubOp oa)).toArray
def staticA (ops : Array Oper) (ia m d : Nat) : Bool :=
 Nat.ble (ia + 1) m && Nat.ble m ops.size &&
 ops.toList.zipIdx.all fun (o, i) => o.guard.isNone && (o.after.toList.all fun e => !Region.binds .any e || Nat.ble (e.on + 1) i) &&
  (Nat.ble m i || !(readsOf ops o).any (Nat.beq d)) && (Nat.ble (i + 1) m || (List.range i).all fun j => bitOf (masks ops) i j)
def evDrawnA (call : Ab.Call) (ops : Array Oper) (T : Tm) (s : St) : Option (Tm × St) :=
 match allocAt ops with
 | none => none
 | some (ia, oa, t, d) =>
  let m := firstRead ops d
  if staticA ops ia m d then
   match evDrawnG P G call (stubOps ops ia m oa) T s, zeroCellsT P t with
   | some (Tf, sf), some z =>
    if sf.room then
     match putT Tf (some d) (.box sf.n 0) with
     | some T' => evOps0 P G call ops (List.range' m (ops.size - m)) T' (sf.new (.box z (codeOf t 0)))
     | none => none
    else none
   | _, _ => none
  else none
def evDrawnB (call : Ab.Call) (ops : Array Oper) (T : Tm) (s : St) : Option (Tm × St) :=
 if allocPair ops (loosePair P ops) then
  match evDrawnA P G call ops T s with
  | some r => some r
  | none => evDrawn P G call ops T s
 else evDrawn P G call ops T s
def evDrawnX (call : Ab.Call) : Drawn := fun ops T s =>
 match evDrawnB P G call ops T s with
 | some (T', s') => some (none, T', s')
 | none => evPan P G call ops T s
end

section
variable [Interp] {P : Program} {G : Nat -> Option (List AV)}

theorem opds_congr {T T' : Tm} : ∀ {xs : List Operand}, (∀ x ∈ xs, opd G T x = opd G T' x) -> opds G T xs = opds G T' xs
 | [], _ => rfl
 | x :: r, h => by
  have ih := opds_congr (xs := r) fun y hy => h y (by simp [hy])
  simp only [opds, h x (by simp), ih]
theorem parts_congr {T T' : Tm} : ∀ {xs : List (Nat × Operand)}, (∀ x ∈ xs.map (·.2), opd G T x = opd G T' x) -> parts G T xs = parts G T' xs
 | [], _ => rfl
 | (i, x) :: r, h => by
  have ih := parts_congr (xs := r) fun y hy => h y (by simp only [List.map_cons, List.mem_cons]; exact .inr hy)
  simp only [parts, h x (by simp), ih]
theorem allScalar_congr {T T' : Tm} {xs : List Operand} (h : ∀ x ∈ xs, opd G T x = opd G T' x) : allScalar G T xs = allScalar G T' xs := by
 unfold allScalar
 induction xs with
 | nil => rfl
 | cons x r ih => simp only [List.all_cons, h x (by simp), ih fun y hy => h y (by simp [hy])]

theorem exec_congr {ρ ρ' : Operand -> Value} {o : Oper} (h : ∀ x ∈ o.op.operands.toList, ρ x = ρ' x)
  (hk : (∃ a b c d e, o.op = .binOp a b c d e) \/ (∃ a b c, o.op = .unOp a b c) \/ (∃ a b c, o.op = .convert a b c) \/ (∃ a b c, o.op = .index a b c) \/ (∃ a b c d e, o.op = .slice a b c d e) \/ ∃ c b, o.op = .call c /\ c.callee = .builtin b) : execOp ρ o = execOp ρ' o := by
 rcases hk with ⟨a, b, c, d, e, hop⟩ | ⟨a, b, c, hop⟩ | ⟨a, b, c, hop⟩ | ⟨a, b, c, hop⟩ | ⟨a, b, c, d, e, hop⟩ | ⟨c, b, hop, hc⟩
 ·have h1 := h c (by simp [hop, Op.operands]); have h2 := h d (by simp [hop, Op.operands]); simp only [execOp, hop, h1, h2]
 ·have h1 := h c (by simp [hop, Op.operands]); simp only [execOp, hop, h1]
 ·have h1 := h c (by simp [hop, Op.operands]); simp only [execOp, hop, h1]
 ·have h1 := h b (by simp [hop, Op.operands]); have h2 := h c (by simp [hop, Op.operands]); simp only [execOp, hop, h1, h2]
 ·have h1 := h b (by simp [hop, Op.operands])
  have h2 : c.map ρ = c.map ρ' := by cases c with | none => rfl | some x => simp only [Option.map_some]; rw [h x (by simp [hop, Op.operands])]
  have h3 : d.map ρ = d.map ρ' := by cases d with | none => rfl | some x => simp only [Option.map_some]; rw [h x (by simp [hop, Op.operands])]
  have h4 : e.map ρ = e.map ρ' := by cases e with | none => rfl | some x => simp only [Option.map_some]; rw [h x (by simp [hop, Op.operands])]
  simp only [execOp, hop, h1, h2, h3, h4]
 ·have h1 : c.args.map ρ = c.args.map ρ' := by
   apply Array.map_congr_left
   intro x hx
   refine h x ?_
   rw [hop]
   simp only [Op.operands, Go.Call.operands, hc]
   simp [hx]
  simp only [execOp, hop, resolve, hc, h1]
theorem scalarOp_congr {T T' : Tm} {o : Oper} (h : ∀ x ∈ o.op.operands.toList, opd G T x = opd G T' x)
  (hk : (∃ a b c d e, o.op = .binOp a b c d e) \/ (∃ a b c, o.op = .unOp a b c) \/ (∃ a b c, o.op = .convert a b c) \/ (∃ a b c, o.op = .index a b c) \/ (∃ a b c d e, o.op = .slice a b c d e) \/ ∃ c b, o.op = .call c /\ c.callee = .builtin b) : scalarOp P G T o = scalarOp P G T' o := by
 unfold scalarOp
 rw [exec_congr (ρ' := fun x => ((opd G T' x).bind toValue).getD undef) (fun x hx => by rw [h x hx]) hk]

theorem bnd_congr {T T' : Tm} {x : Option Operand} (d : Nat) (h : ∀ y ∈ x.toList, opd G T y = opd G T' y) : bnd G T x d = bnd G T' x d := by
 cases x with
 | none => rfl
 | some y => simp only [bnd, h y (by simp)]
theorem bnd0_congr {T T' : Tm} {x : Option Operand} (h : ∀ y ∈ x.toList, opd G T y = opd G T' y) : bnd0 G T x = bnd0 G T' x := by
 cases x with
 | none => rfl
 | some y => simp only [bnd0, h y (by simp)]

theorem evOp1_congr {call : Ab.Call} {o : Oper} {T T' : Tm} {s : St} (hmu : T.mu = T'.mu) (h : ∀ x ∈ o.op.operands.toList, opd G T x = opd G T' x) : evOp1 P G call o T s = evOp1 P G call o T' s := by
 cases hop : o.op <;> rw [hop] at h <;> simp only [Op.operands] at h
 case move x => have h1 := h x (by simp); simp only [evOp1, hop, h1]
 case assign x => have h1 := h x (by simp); simp only [evOp1, hop, h1]
 case pick c a b => have h1 := h c (by simp); have h2 := h a (by simp); have h3 := h b (by simp); simp only [evOp1, hop, h1, h2, h3]
 case alloc t => simp only [evOp1, hop]
 case box t x => have h1 := h x (by simp); simp only [evOp1, hop, h1]
 case build t ps => have h1 := parts_congr (G := G) (T := T) (T' := T') (xs := ps.toList) (by simpa using h); simp only [evOp1, hop, h1]
 case buildSlice t n ps => have h1 := parts_congr (G := G) (T := T) (T' := T') (xs := ps.toList) (by simpa using h); simp only [evOp1, hop, h1, hmu]
 case load t x => have h1 := h x (by simp); simp only [evOp1, hop, h1]
 case store t a x => have h1 := h a (by simp); have h2 := h x (by simp); simp only [evOp1, hop, h1, h2]
 case nilCheck x => have h1 := h x (by simp); simp only [evOp1, hop, h1]
 case binOp op t x y yt =>
  have h1 := h x (by simp); have h2 := h y (by simp)
  have h3 := allScalar_congr (G := G) (T := T) (T' := T') (xs := [x, y]) (by simpa using ⟨h1, h2⟩)
  have h4 := scalarOp_congr (P := P) (G := G) (T := T) (T' := T') (o := o) (by rw [hop]; simpa [Op.operands] using ⟨h1, h2⟩) (.inl ⟨_, _, _, _, _, hop⟩)
  simp only [evOp1, hop, h1, h2, h3, h4]
 case unOp op t x =>
  have h1 := h x (by simp)
  have h3 := allScalar_congr (G := G) (T := T) (T' := T') (xs := [x]) (by simpa using h1)
  have h4 := scalarOp_congr (P := P) (G := G) (T := T) (T' := T') (o := o) (by rw [hop]; simpa [Op.operands] using h1) (.inr (.inl ⟨_, _, _, hop⟩))
  simp only [evOp1, hop, h1, h3, h4]
 case convert a b x =>
  have h1 := h x (by simp)
  have h3 := allScalar_congr (G := G) (T := T) (T' := T') (xs := [x]) (by simpa using h1)
  have h4 := scalarOp_congr (P := P) (G := G) (T := T) (T' := T') (o := o) (by rw [hop]; simpa [Op.operands] using h1) (.inr (.inr (.inl ⟨_, _, _, hop⟩)))
  simp only [evOp1, hop, h1, h3, h4]
 case makeFunc fn a b =>
  have h1 := opds_congr (G := G) (T := T) (T' := T') (xs := a.toList) (fun x hx => h x (by simp at hx ⊢; exact .inl hx))
  have h2 := opds_congr (G := G) (T := T) (T' := T') (xs := b.toList) (fun x hx => h x (by simp at hx ⊢; exact .inr hx))
  simp only [evOp1, hop, h1, h2]
 case makeInterface t x => have h1 := h x (by simp); simp only [evOp1, hop, h1]
 case typeAssert x a b ok => have h1 := h x (by simp); simp only [evOp1, hop, h1]
 case panic x => have h1 := h x (by simp); simp only [evOp1, hop, h1]
 case makeMap t r => simp only [evOp1, hop]
 case makeSlice t a b => have h1 := h a (by simp); have h2 := h b (by simp); simp only [evOp1, hop, h1, h2]
 case slice t x lo hi mx =>
  have h1 := h x (by simp)
  have hl : ∀ y ∈ lo.toList, opd G T y = opd G T' y := fun y hy => h y (by simp at hy ⊢; simp [hy])
  have hh : ∀ y ∈ hi.toList, opd G T y = opd G T' y := fun y hy => h y (by simp at hy ⊢; simp [hy])
  have hm : ∀ y, mx = some y -> opd G T y = opd G T' y := fun y hy => h y (by simp [hy])
  have h3 := allScalar_congr (G := G) (T := T) (T' := T') (xs := x :: (lo.toList ++ hi.toList)) (fun y hy => by
   rw [List.mem_cons, List.mem_append] at hy
   rcases hy with rfl | hy | hy
   ·exact h1
   ·exact hl y hy
   ·exact hh y hy)
  have h4 := scalarOp_congr (P := P) (G := G) (T := T) (T' := T') (o := o) (by rw [hop]; exact h) (.inr (.inr (.inr (.inr (.inl ⟨_, _, _, _, _, hop⟩)))))
  have b1 := fun d => bnd_congr (G := G) (T := T) (T' := T') d hl
  have b2 := fun d => bnd_congr (G := G) (T := T) (T' := T') d hh
  have b3 := bnd0_congr (G := G) (T := T) (T' := T') hh
  have b4 : opdO G T lo = opdO G T' lo := by
   cases lo with
   | none => rfl
   | some y => simp only [opdO, hl y (by simp)]
  have b5 : opdO G T hi = opdO G T' hi := by
   cases hi with
   | none => rfl
   | some y => simp only [opdO, hh y (by simp)]
  cases mx with
  | none => simp only [evOp1, hop, h1, h3, h4, b1, b2, b4, b5]
  | some m => have h5 := hm m rfl; simp only [evOp1, hop, h1, h3, h4, b1, b2, b3, b4, b5, h5]
 case fieldAddr st x i => have h1 := h x (by simp); simp only [evOp1, hop, h1]
 case field st x i => have h1 := h x (by simp); simp only [evOp1, hop, h1]
 case indexAddr t a b => have h1 := h a (by simp); have h2 := h b (by simp); simp only [evOp1, hop, h1, h2]
 case index t a b =>
  have h1 := h a (by simp); have h2 := h b (by simp)
  have h3 := allScalar_congr (G := G) (T := T) (T' := T') (xs := [a, b]) (by simpa using ⟨h1, h2⟩)
  have h4 := scalarOp_congr (P := P) (G := G) (T := T) (T' := T') (o := o) (by rw [hop]; simpa [Op.operands] using ⟨h1, h2⟩) (.inr (.inr (.inr (.inl ⟨_, _, _, hop⟩))))
  simp only [evOp1, hop, h1, h2, h3, h4]
 case lookup t a b ok => have h1 := h a (by simp); have h2 := h b (by simp); simp only [evOp1, hop, h1, h2]
 case mapUpdate t m k x => have h1 := h m (by simp); have h2 := h k (by simp); have h3 := h x (by simp); simp only [evOp1, hop, h1, h2, h3]
 case insert t m k x => have h1 := h m (by simp); have h2 := h k (by simp); have h3 := h x (by simp); simp only [evOp1, hop, h1, h2, h3]
 case extract x i => have h1 := h x (by simp); simp only [evOp1, hop, h1]
 case call c =>
  have h1 := opds_congr (G := G) (T := T) (T' := T') (xs := c.args.toList) (fun x hx => h x (by
   simp only [Go.Call.operands]
   cases c.callee <;> simp at hx ⊢ <;> simp [hx]))
  have h3 := allScalar_congr (G := G) (T := T) (T' := T') (xs := c.args.toList) (fun x hx => h x (by
   simp only [Go.Call.operands]
   cases c.callee <;> simp at hx ⊢ <;> simp [hx]))
  cases hc : c.callee with
  | builtin b =>
   have h4 := scalarOp_congr (P := P) (G := G) (T := T) (T' := T') (o := o) (by rw [hop]; exact h) (.inr (.inr (.inr (.inr (.inr ⟨c, b, hop, hc⟩)))))
   cases b <;> simp only [evOp1, hop, hc, h1, h3, h4, hmu]
  | invoke r n =>
   have h5 := h r (by simp [Go.Call.operands, hc])
   simp only [evOp1, hop, hc, h1, h5]
  | value f =>
   have h5 := h f (by simp [Go.Call.operands, hc])
   simp only [evOp1, hop, hc, h1, h5]
 all_goals simp only [evOp1, hop]

theorem evSym0_congr {o : Oper} {T T' : Tm} {s : St} (h : ∀ x ∈ o.op.operands.toList, opd G T x = opd G T' x) : evSym0 P G o T s = evSym0 P G o T' s := by
 unfold evSym0
 split
 ·rename_i src dst x hop
  rw [hop] at h
  rw [h x (by simp [Op.operands])]
 ·rename_i t x ix hop
  rw [hop] at h
  rw [h x (by simp [Op.operands]), h ix (by simp [Op.operands])]
 ·rename_i t a b ok hop
  rw [hop] at h
  rw [h a (by simp [Op.operands]), h b (by simp [Op.operands])]
 ·rename_i t m k x hop
  rw [hop] at h
  rw [h m (by simp [Op.operands]), h k (by simp [Op.operands]), h x (by simp [Op.operands])]
 ·rename_i t m k x hop
  rw [hop] at h
  rw [h m (by simp [Op.operands]), h k (by simp [Op.operands]), h x (by simp [Op.operands])]
 ·rename_i c hop
  rw [hop] at h
  have hx : ∀ x ∈ c.args.toList, opd G T x = opd G T' x := fun x hx => h x (by
   simp only [Op.operands, Go.Call.operands]
   cases c.callee <;> simp at hx ⊢ <;> simp [hx])
  split
  ·cases c.argTypes[0]? with
   | none => rfl
   | some t0 =>
    cases c.argTypes[1]? with
    | none => rfl
    | some t1 =>
     simp only [Option.bind_eq_bind, Option.bind_some]
     split
     ·rename_i hargs
      rw [hargs] at hx
      rw [hx _ (by simp), hx _ (by simp)]
     ·rfl
  ·cases c.argTypes[0]? with
   | none => rfl
   | some t0 =>
    simp only [Option.bind_eq_bind, Option.bind_some]
    split
    ·rename_i hargs
     rw [hargs] at hx
     rw [hx _ (by simp)]
    ·rfl
  ·rfl
 ·rfl
theorem opdO_congr' {T T' : Tm} {x : Option Operand} (h : ∀ y ∈ x.toList, opd G T y = opd G T' y) : opdO G T x = opdO G T' x := by
 cases x with
 | none => rfl
 | some y => simp only [opdO, h y (by simp)]
theorem evArr_congr {o : Oper} {T T' : Tm} {s : St} (h : ∀ x ∈ o.op.operands.toList, opd G T x = opd G T' x) : evArr P G o T s = evArr P G o T' s := by
 unfold evArr
 split
 ·rename_i t x ix hop
  rw [hop] at h
  rw [h x (by simp [Op.operands]), h ix (by simp [Op.operands])]
 ·rename_i t x hop
  rw [hop] at h
  rw [h x (by simp [Op.operands])]
 ·rename_i t p x hop
  rw [hop] at h
  rw [h p (by simp [Op.operands]), h x (by simp [Op.operands])]
 ·rename_i t x lo hi mx hop
  rw [hop] at h
  have e1 : opdO G T lo = opdO G T' lo := opdO_congr' fun y hy => h y (by simp only [Op.operands]; simp at hy ⊢; simp [hy])
  have e2 : opdO G T hi = opdO G T' hi := opdO_congr' fun y hy => h y (by simp only [Op.operands]; simp at hy ⊢; simp [hy])
  rw [h x (by simp [Op.operands]), e1, e2]
 ·rename_i src dst x hop
  rw [hop] at h
  rw [h x (by simp [Op.operands])]
 ·rename_i c hop
  rw [hop] at h
  have hx : ∀ x ∈ c.args.toList, opd G T x = opd G T' x := fun x hx => h x (by
   simp only [Op.operands, Go.Call.operands]
   cases c.callee <;> simp at hx ⊢ <;> simp [hx])
  split
  ·cases c.argTypes[0]? with
   | none => rfl
   | some t0 =>
    simp only [Option.bind_eq_bind, Option.bind_some]
    split
    ·rename_i hargs
     rw [hargs] at hx
     rw [hx _ (by simp)]
    ·rfl
  ·cases c.argTypes[0]? with
   | none => rfl
   | some t0 =>
    cases c.argTypes[1]? with
    | none => rfl
    | some t1 =>
     simp only [Option.bind_eq_bind, Option.bind_some]
     split
     ·rename_i hargs
      rw [hargs] at hx
      rw [hx _ (by simp), hx _ (by simp)]
     ·rfl
  ·rfl
 ·rfl
theorem evMore_congr {o : Oper} {T T' : Tm} {s : St} (h : ∀ x ∈ o.op.operands.toList, opd G T x = opd G T' x) : evMore P G o T s = evMore P G o T' s := by
 unfold evMore
 split
 ·rename_i t l c hop
  have h1 := h l (by rw [hop]; simp [Op.operands])
  have h2 := h c (by rw [hop]; simp [Op.operands])
  rw [h1, h2]
 ·rename_i c hop
  rw [hop] at h
  have hx : ∀ x ∈ c.args.toList, opd G T x = opd G T' x := fun x hx => h x (by
   simp only [Op.operands, Go.Call.operands]
   cases c.callee <;> simp at hx ⊢ <;> simp [hx])
  split
  ·cases c.argTypes[0]? with
   | none => rfl
   | some t0 =>
    simp only [Option.bind_eq_bind, Option.bind_some]
    split
    ·rename_i e ox oy hu hargs
     rw [hargs] at hx
     rw [hx _ (by simp), hx _ (by simp)]
    ·rfl
  ·rfl
 ·rfl
theorem evSym_congr {o : Oper} {T T' : Tm} {s : St} (h : ∀ x ∈ o.op.operands.toList, opd G T x = opd G T' x) : evSym P G o T s = evSym P G o T' s := by
 unfold evSym
 rw [evSym0_congr h, evArr_congr h, evMore_congr h]
theorem evOp_congr {call : Ab.Call} {o : Oper} {T T' : Tm} {s : St} (hmu : T.mu = T'.mu) (h : ∀ x ∈ o.op.operands.toList, opd G T x = opd G T' x) : evOp P G call o T s = evOp P G call o T' s := by
 unfold evOp
 rw [evOp1_congr hmu h, evSym_congr h]

theorem noneff_state1 {call : Ab.Call} {o : Oper} {T : Tm} {s s1 : St} {x : AV} (hpu : T.mu.2 = true) (hk : eff0 P o = false) (h : evOp1 P G call o T s = some (x, s1)) : s1 = s := by
 unfold eff0 at hk
 cases hop : o.op <;> rw [hop] at hk <;> simp only [kindOf] at hk <;> (try (exact absurd hk (by decide)))
 case move =>
  simp only [evOp1, hop, Option.bind_eq_bind, Option.bind_eq_some_iff, Option.pure_def, Option.map_eq_some_iff, Prod.mk.injEq, Option.some.injEq] at h
  repeat' (first | (exact h.2.symm) | (exact h.2.2.symm) | (cases h; done) | (cases h; rfl) | (obtain ⟨_, _, h⟩ := h) | (split at h) | (simp only [Option.bind_eq_some_iff, Option.map_eq_some_iff, Option.some.injEq, Prod.mk.injEq, reduceCtorEq] at h))
 case assign =>
  simp only [evOp1, hop, Option.bind_eq_bind, Option.bind_eq_some_iff, Option.pure_def, Option.map_eq_some_iff, Prod.mk.injEq, Option.some.injEq] at h
  repeat' (first | (exact h.2.symm) | (exact h.2.2.symm) | (cases h; done) | (cases h; rfl) | (obtain ⟨_, _, h⟩ := h) | (split at h) | (simp only [Option.bind_eq_some_iff, Option.map_eq_some_iff, Option.some.injEq, Prod.mk.injEq, reduceCtorEq] at h))
 case pick =>
  simp only [evOp1, hop, Option.bind_eq_bind, Option.bind_eq_some_iff, Option.pure_def, Option.map_eq_some_iff, Prod.mk.injEq, Option.some.injEq] at h
  repeat' (first | (exact h.2.symm) | (exact h.2.2.symm) | (cases h; done) | (cases h; rfl) | (obtain ⟨_, _, h⟩ := h) | (split at h) | (simp only [Option.bind_eq_some_iff, Option.map_eq_some_iff, Option.some.injEq, Prod.mk.injEq, reduceCtorEq] at h))
 case build =>
  simp only [evOp1, hop, Option.bind_eq_bind, Option.bind_eq_some_iff, Option.pure_def, Option.map_eq_some_iff, Prod.mk.injEq, Option.some.injEq] at h
  repeat' (first | (exact h.2.symm) | (exact h.2.2.symm) | (cases h; done) | (cases h; rfl) | (obtain ⟨_, _, h⟩ := h) | (split at h) | (simp only [Option.bind_eq_some_iff, Option.map_eq_some_iff, Option.some.injEq, Prod.mk.injEq, reduceCtorEq] at h))
 case buildSlice =>
  simp only [evOp1, hop, hpu, if_true, Option.bind_eq_bind, Option.bind_eq_some_iff, Option.pure_def, Option.map_eq_some_iff, Prod.mk.injEq, Option.some.injEq] at h
  repeat' (first | (exact h.2.symm) | (exact h.2.2.symm) | (cases h; done) | (cases h; rfl) | (obtain ⟨_, _, h⟩ := h) | (split at h) | (simp only [Option.bind_eq_some_iff, Option.map_eq_some_iff, Option.some.injEq, Prod.mk.injEq, reduceCtorEq] at h))
 case nilCheck =>
  simp only [evOp1, hop, Option.bind_eq_bind, Option.bind_eq_some_iff, Option.pure_def, Option.map_eq_some_iff, Prod.mk.injEq, Option.some.injEq] at h
  repeat' (first | (exact h.2.symm) | (exact h.2.2.symm) | (cases h; done) | (cases h; rfl) | (obtain ⟨_, _, h⟩ := h) | (split at h) | (simp only [Option.bind_eq_some_iff, Option.map_eq_some_iff, Option.some.injEq, Prod.mk.injEq, reduceCtorEq] at h))
 case binOp =>
  simp only [evOp1, hop, Option.bind_eq_bind, Option.bind_eq_some_iff, Option.pure_def, Option.map_eq_some_iff, Prod.mk.injEq, Option.some.injEq] at h
  repeat' (first | (exact h.2.symm) | (exact h.2.2.symm) | (cases h; done) | (cases h; rfl) | (obtain ⟨_, _, h⟩ := h) | (split at h) | (simp only [Option.bind_eq_some_iff, Option.map_eq_some_iff, Option.some.injEq, Prod.mk.injEq, reduceCtorEq] at h))
 case unOp =>
  simp only [evOp1, hop, Option.bind_eq_bind, Option.bind_eq_some_iff, Option.pure_def, Option.map_eq_some_iff, Prod.mk.injEq, Option.some.injEq] at h
  repeat' (first | (exact h.2.symm) | (exact h.2.2.symm) | (cases h; done) | (cases h; rfl) | (obtain ⟨_, _, h⟩ := h) | (split at h) | (simp only [Option.bind_eq_some_iff, Option.map_eq_some_iff, Option.some.injEq, Prod.mk.injEq, reduceCtorEq] at h))
 case makeFunc =>
  simp only [evOp1, hop, Option.bind_eq_bind, Option.bind_eq_some_iff, Option.pure_def, Option.map_eq_some_iff, Prod.mk.injEq, Option.some.injEq] at h
  repeat' (first | (exact h.2.symm) | (exact h.2.2.symm) | (cases h; done) | (cases h; rfl) | (obtain ⟨_, _, h⟩ := h) | (split at h) | (simp only [Option.bind_eq_some_iff, Option.map_eq_some_iff, Option.some.injEq, Prod.mk.injEq, reduceCtorEq] at h))
 case slice =>
  simp only [evOp1, hop, Option.bind_eq_bind, Option.bind_eq_some_iff, Option.pure_def, Option.map_eq_some_iff, Prod.mk.injEq, Option.some.injEq] at h
  repeat' (first | (exact h.2.symm) | (exact h.2.2.symm) | (cases h; done) | (cases h; rfl) | (obtain ⟨_, _, h⟩ := h) | (split at h) | (simp only [Option.bind_eq_some_iff, Option.map_eq_some_iff, Option.some.injEq, Prod.mk.injEq, reduceCtorEq] at h))
 case fieldAddr =>
  simp only [evOp1, hop, Option.bind_eq_bind, Option.bind_eq_some_iff, Option.pure_def, Option.map_eq_some_iff, Prod.mk.injEq, Option.some.injEq] at h
  repeat' (first | (exact h.2.symm) | (exact h.2.2.symm) | (cases h; done) | (cases h; rfl) | (obtain ⟨_, _, h⟩ := h) | (split at h) | (simp only [Option.bind_eq_some_iff, Option.map_eq_some_iff, Option.some.injEq, Prod.mk.injEq, reduceCtorEq] at h))
 case field =>
  simp only [evOp1, hop, Option.bind_eq_bind, Option.bind_eq_some_iff, Option.pure_def, Option.map_eq_some_iff, Prod.mk.injEq, Option.some.injEq] at h
  repeat' (first | (exact h.2.symm) | (exact h.2.2.symm) | (cases h; done) | (cases h; rfl) | (obtain ⟨_, _, h⟩ := h) | (split at h) | (simp only [Option.bind_eq_some_iff, Option.map_eq_some_iff, Option.some.injEq, Prod.mk.injEq, reduceCtorEq] at h))
 case indexAddr =>
  simp only [evOp1, hop, Option.bind_eq_bind, Option.bind_eq_some_iff, Option.pure_def, Option.map_eq_some_iff, Prod.mk.injEq, Option.some.injEq] at h
  repeat' (first | (exact h.2.symm) | (exact h.2.2.symm) | (cases h; done) | (cases h; rfl) | (obtain ⟨_, _, h⟩ := h) | (split at h) | (simp only [Option.bind_eq_some_iff, Option.map_eq_some_iff, Option.some.injEq, Prod.mk.injEq, reduceCtorEq] at h))
 case index =>
  simp only [evOp1, hop, Option.bind_eq_bind, Option.bind_eq_some_iff, Option.pure_def, Option.map_eq_some_iff, Prod.mk.injEq, Option.some.injEq] at h
  repeat' (first | (exact h.2.symm) | (exact h.2.2.symm) | (cases h; done) | (cases h; rfl) | (obtain ⟨_, _, h⟩ := h) | (split at h) | (simp only [Option.bind_eq_some_iff, Option.map_eq_some_iff, Option.some.injEq, Prod.mk.injEq, reduceCtorEq] at h))
 case extract =>
  simp only [evOp1, hop, Option.bind_eq_bind, Option.bind_eq_some_iff, Option.pure_def, Option.map_eq_some_iff, Prod.mk.injEq, Option.some.injEq] at h
  repeat' (first | (exact h.2.symm) | (exact h.2.2.symm) | (cases h; done) | (cases h; rfl) | (obtain ⟨_, _, h⟩ := h) | (split at h) | (simp only [Option.bind_eq_some_iff, Option.map_eq_some_iff, Option.some.injEq, Prod.mk.injEq, reduceCtorEq] at h))
 case load =>
  simp only [evOp1, hop, Option.bind_eq_bind, Option.bind_eq_some_iff, Option.pure_def, Option.map_eq_some_iff, Prod.mk.injEq, Option.some.injEq] at h
  repeat' (first | (exact h.2.symm) | (exact h.2.2.symm) | (cases h; done) | (cases h; rfl) | (obtain ⟨_, _, h⟩ := h) | (split at h) | (simp only [Option.bind_eq_some_iff, Option.map_eq_some_iff, Option.some.injEq, Prod.mk.injEq, reduceCtorEq] at h))
 case lookup =>
  simp only [evOp1, hop, Option.bind_eq_bind, Option.bind_eq_some_iff, Option.pure_def, Option.map_eq_some_iff, Prod.mk.injEq, Option.some.injEq] at h
  repeat' (first | (exact h.2.symm) | (exact h.2.2.symm) | (cases h; done) | (cases h; rfl) | (obtain ⟨_, _, h⟩ := h) | (split at h) | (simp only [Option.bind_eq_some_iff, Option.map_eq_some_iff, Option.some.injEq, Prod.mk.injEq, reduceCtorEq] at h))
 case convert src dst y =>
  have key : (∀ e, P.underlying src ≠ some (.slice e)) /\ (∀ e, P.underlying dst ≠ some (.slice e)) := by
   refine ⟨fun e he => ?_, fun e he => ?_⟩
   ·rw [he] at hk; simp at hk
   ·rw [he] at hk
    cases hs : P.underlying src with
    | none => rw [hs] at hk; simp at hk
    | some d => rw [hs] at hk; cases d <;> simp at hk
  simp only [evOp1, hop, Option.bind_eq_bind] at h
  split at h
  ·rename_i h2; exact absurd h2 (key.2 _)
  ·rename_i h2 _; exact absurd h2 (key.1 _)
  ·rename_i h2 _; exact absurd h2 (key.1 _)
  ·simp only [Option.bind_eq_some_iff] at h
   obtain ⟨c, _, h⟩ := h
   unfold toUnsafe at h
   split at h
   ·split at h
    ·split at h
     ·cases h; rfl
     ·cases h
    ·cases h
   ·cases h
  ·simp only [Option.bind_eq_some_iff] at h
   obtain ⟨c, _, h⟩ := h
   unfold fromUnsafe at h
   split at h
   ·split at h
    ·split at h
     ·cases h; rfl
     ·cases h
    ·cases h
   ·cases h
  ·split at h
   ·simp only [Option.map_eq_some_iff, Prod.mk.injEq] at h
    obtain ⟨_, _, _, h⟩ := h
    exact h.symm
   ·simp only [Option.bind_eq_some_iff, Option.pure_def, Option.some.injEq, Prod.mk.injEq] at h
    obtain ⟨_, _, _, _, _, h⟩ := h
    exact h.symm
 case call c =>
  have key : c.callee = .builtin .len \/ c.callee = .builtin .max \/ c.callee = .builtin .min := by
   cases hc : c.callee with
   | builtin b => cases b <;> rw [hc] at hk <;> first | (exact .inl rfl) | (exact .inr (.inl rfl)) | (exact .inr (.inr rfl)) | (simp at hk)
   | invoke r n => rw [hc] at hk; simp at hk
   | value f => rw [hc] at hk; simp at hk
  rcases key with hc | hc | hc <;> simp only [evOp1, hop, hc, Option.bind_eq_bind] at h <;>
   (repeat' (first | (exact h.2.symm) | (exact h.2.2.symm) | (cases h; done) | (cases h; rfl) | (obtain ⟨_, _, h⟩ := h) | (split at h) | (simp only [Option.bind_eq_some_iff, Option.map_eq_some_iff, Option.some.injEq, Prod.mk.injEq, reduceCtorEq, Option.pure_def] at h)))
theorem noneff_sym0 {o : Oper} {T : Tm} {s s1 : St} {x : AV} (hk : eff0 P o = false) (h : evSym0 P G o T s = some (x, s1)) : s1 = s := by
 unfold evSym0 at h
 split at h
 ·(repeat' (first | (exact rfl) | (exact h.2.symm) | (cases h; done) | (cases h; exact rfl) | (obtain ⟨_, _, h⟩ := h) | (split at h) | (simp only [Option.bind_eq_bind, Option.bind_eq_some_iff, Option.pure_def, Option.some.injEq, Prod.mk.injEq] at h)))
 ·(repeat' (first | (exact rfl) | (exact h.2.symm) | (cases h; done) | (cases h; exact rfl) | (obtain ⟨_, _, h⟩ := h) | (split at h) | (simp only [Option.bind_eq_bind, Option.bind_eq_some_iff, Option.pure_def, Option.some.injEq, Prod.mk.injEq] at h)))
 ·simp only [Option.bind_eq_bind, Option.bind_eq_some_iff, Option.pure_def, Option.some.injEq, Prod.mk.injEq] at h
  obtain ⟨_, _, _, _, _, _, _, h⟩ := h
  exact h.symm
 ·rename_i hop
  unfold eff0 at hk; rw [hop] at hk; exact absurd hk (by simp [kindOf])
 ·rename_i hop
  unfold eff0 at hk; rw [hop] at hk; exact absurd hk (by simp [kindOf])
 ·rename_i c hop
  split at h
  ·rename_i hc
   unfold eff0 at hk; rw [hop] at hk; simp [kindOf, hc] at hk
  ·simp only [Option.bind_eq_bind, Option.bind_eq_some_iff] at h
   obtain ⟨_, _, h⟩ := h
   split at h
   ·simp only [Option.bind_eq_some_iff] at h
    obtain ⟨_, _, h⟩ := h
    split at h
    ·split at h
     ·simp only [Option.pure_def, Option.some.injEq, Prod.mk.injEq] at h
      exact h.2.symm
     ·cases h
    ·cases h
   ·cases h
  ·cases h
 ·cases h
theorem noneff_arr {o : Oper} {T : Tm} {s s1 : St} {x : AV} (hk : eff0 P o = false) (h : evArr P G o T s = some (x, s1)) : s1 = s := by
 unfold evArr at h
 split at h
 ·simp only [Option.bind_eq_bind, Option.bind_eq_some_iff, Option.pure_def, Option.some.injEq, Prod.mk.injEq] at h
  obtain ⟨_, _, _, _, _, _, _, h⟩ := h
  exact h.symm
 ·simp only [Option.bind_eq_bind, Option.bind_eq_some_iff, Option.pure_def, Option.some.injEq, Prod.mk.injEq] at h
  obtain ⟨_, _, _, _, _, h⟩ := h
  exact h.symm
 ·rename_i hop
  unfold eff0 at hk; rw [hop] at hk; exact absurd hk (by simp [kindOf])
 ·split at h
  ·cases h
  ·simp only [Option.bind_eq_bind, Option.bind_eq_some_iff, Option.pure_def, Option.some.injEq, Prod.mk.injEq] at h
   obtain ⟨_, _, _, _, _, _, _, _, _, h⟩ := h
   exact h.symm
 ·rename_i src dst y hop
  split at h
  ·rename_i he _
   unfold eff0 at hk; rw [hop] at hk; simp only [kindOf] at hk; rw [he] at hk; simp at hk
  ·rename_i hs he
   unfold eff0 at hk; rw [hop] at hk; simp only [kindOf] at hk; rw [hs, he] at hk; simp at hk
  ·cases h
 ·rename_i c hop
  split at h
  ·simp only [Option.bind_eq_bind, Option.bind_eq_some_iff] at h
   obtain ⟨_, _, h⟩ := h
   split at h
   ·simp only [Option.bind_eq_some_iff] at h
    obtain ⟨_, _, h⟩ := h
    split at h
    ·split at h
     ·simp only [Option.some.injEq, Prod.mk.injEq] at h
      exact h.2.symm
     ·split at h
      ·simp only [Option.some.injEq, Prod.mk.injEq] at h
       exact h.2.symm
      ·cases h
    ·cases h
   ·cases h
  ·rename_i hc
   unfold eff0 at hk; rw [hop] at hk; simp [kindOf, hc] at hk
  ·cases h
 ·cases h
theorem noneff_more {o : Oper} {T : Tm} {s s1 : St} {x : AV} (hk : eff0 P o = false) (h : evMore P G o T s = some (x, s1)) : s1 = s := by
 unfold evMore at h
 split at h
 ·rename_i hop
  unfold eff0 at hk; rw [hop] at hk; exact absurd hk (by simp [kindOf])
 ·rename_i c hop
  split at h
  ·rename_i hc
   unfold eff0 at hk; rw [hop] at hk; simp [kindOf, hc] at hk
  ·cases h
 ·cases h
theorem noneff_sym {o : Oper} {T : Tm} {s s1 : St} {x : AV} (hk : eff0 P o = false) (h : evSym P G o T s = some (x, s1)) : s1 = s := by
 unfold evSym at h
 split at h
 ·rename_i r hr
  cases h
  exact noneff_sym0 hk hr
 ·split at h
  ·rename_i r hr
   cases h
   exact noneff_arr hk hr
  ·exact noneff_more hk h
theorem noneff_state [Fg] {call : Ab.Call} (hfg : Fg.fg = true -> ∃ c0, call = fgCall c0) {o : Oper} {T : Tm} {s s1 : St} {x : AV} (hpu : T.mu.2 = true) (hk : eff P o = false) (h : evOp P G call o T s = some (x, s1)) : s1 = s := by
 cases hk0 : eff0 P o with
 | false =>
  unfold evOp at h
  split at h
  ·rename_i x1 s2 h1
   cases h
   exact noneff_state1 hpu hk0 h1
  ·split at h
   ·rename_i x1 s2 h1
    cases h
    exact noneff_sym hk0 h1
   ·cases h
 | true =>
  unfold eff at hk
  rw [hk0, Bool.true_and, Bool.not_eq_false', Bool.and_eq_true] at hk
  obtain ⟨c0, rfl⟩ := hfg hk.1
  have hc := hk.2
  unfold isCallV at hc
  split at hc
  ·rename_i c hop
   split at hc
   ·rename_i f hcf
    exact fg_state hop hcf h
   ·cases hc
  ·cases hc
end
end Go.Ab
/- Two stores into different boxes commute. -/
namespace Go.Ab
open Go Go.RowKit
namespace Tr
variable {α : Type}
theorem setF_comm : ∀ (f : Nat) (s : Tr α) (t u : Nat) (x y : Option α), t + 1 < 2 ^ f -> u + 1 < 2 ^ f -> t ≠ u -> setF f (setF f s t x) u y = setF f (setF f s u y) t x
 | 0, s, t, u, x, y, h, _, _ => by simp at h
 | f + 1, s, t, u, x, y, ht, hu, hne => by
  have hp : 2 ^ (f + 1) = 2 * 2 ^ f := by rw [Nat.pow_succ]; omega
  have n0 : ∀ {a : Nat}, a ≠ 0 -> Nat.beq a 0 = false := fun h => nbf h
  have o1 : ∀ {a : Nat}, a % 2 = 1 -> Nat.beq (a % 2) 1 = true := fun h => by rw [h]; rfl
  have o0 : ∀ {a : Nat}, ¬ a % 2 = 1 -> Nat.beq (a % 2) 1 = false := fun h => nbf h
  have hR : ∀ (s : Tr α) (z : Option α), setF (f + 1) s 0 z = .nd s.left z s.right := fun s z => by unfold setF; rfl
  have hL : ∀ (s : Tr α) (a : Nat) (z : Option α), a ≠ 0 -> a % 2 = 1 -> setF (f + 1) s a z = .nd (setF f s.left (a / 2) z) s.val s.right := fun s a z h1 h2 => by
   conv => lhs; unfold setF
   rw [n0 h1, o1 h2]; rfl
  have hG : ∀ (s : Tr α) (a : Nat) (z : Option α), a ≠ 0 -> ¬ a % 2 = 1 -> setF (f + 1) s a z = .nd s.left s.val (setF f s.right (a / 2 - 1) z) := fun s a z h1 h2 => by
   conv => lhs; unfold setF
   rw [n0 h1, o0 h2]; rfl
  by_cases t0 : t = 0
  ·subst t0
   have u0 : u ≠ 0 := fun e => hne e.symm
   by_cases u1 : u % 2 = 1
   ·rw [hR, hL _ _ _ u0 u1, hL _ _ _ u0 u1, hR]; rfl
   ·rw [hR, hG _ _ _ u0 u1, hG _ _ _ u0 u1, hR]; rfl
  ·by_cases u0 : u = 0
   ·subst u0
    by_cases t1 : t % 2 = 1
    ·rw [hR, hL _ _ _ t0 t1, hL _ _ _ t0 t1, hR]; rfl
    ·rw [hR, hG _ _ _ t0 t1, hG _ _ _ t0 t1, hR]; rfl
   ·by_cases t1 : t % 2 = 1 <;> by_cases u1 : u % 2 = 1
    ·rw [hL _ _ _ t0 t1, hL _ _ _ u0 u1, hL _ _ _ u0 u1, hL _ _ _ t0 t1]
     have e := setF_comm f s.left (t / 2) (u / 2) x y (by omega) (by omega) (by omega)
     exact congrArg (fun l => Tr.nd l s.val s.right) e
    ·rw [hL _ _ _ t0 t1, hG _ _ _ u0 u1, hG _ _ _ u0 u1, hL _ _ _ t0 t1]; rfl
    ·rw [hG _ _ _ t0 t1, hL _ _ _ u0 u1, hL _ _ _ u0 u1, hG _ _ _ t0 t1]; rfl
    ·rw [hG _ _ _ t0 t1, hG _ _ _ u0 u1, hG _ _ _ u0 u1, hG _ _ _ t0 t1]
     have e := setF_comm f s.right (t / 2 - 1) (u / 2 - 1) x y (by omega) (by omega) (by omega)
     exact congrArg (fun r => Tr.nd s.left s.val r) e
end Tr
theorem St.put_comm {s : St} {b c : Nat} {x y : AObj} (hb : b < Tr.lid) (hc : c < Tr.lid) (hne : b ≠ c) : (s.put b x).put c y = (s.put c y).put b x := by
 unfold St.put
 simp only [St.mk.injEq, true_and]
 exact ⟨Tr.setF_comm 31 s.o b c (some x) (some y) (by unfold Tr.lid at hb; omega) (by unfold Tr.lid at hc; omega) hne, trivial⟩

section
variable [Interp] {P : Program} {G : Nat -> Option (List AV)}
theorem store_form1 {call : Ab.Call} {o : Oper} {T : Tm} {s s' : St} {x : AV} {b : Nat} (hb : storeTo G T o = some b) (h : evOp1 P G call o T s = some (x, s')) :
  x = und /\ ∃ obj, s' = s.put b obj /\ ∀ s2 : St, s2.get b = s.get b -> evOp1 P G call o T s2 = some (und, s2.put b obj) := by
 unfold storeTo at hb
 split at hb
 ·rename_i t a y hop
  split at hb
  ·rename_i b' off ha
   cases hb
   simp only [evOp1, hop, Option.bind_eq_bind, Option.bind_eq_some_iff] at h
   obtain ⟨c, h1, n, h2, q, h3, h⟩ := h
   rw [ha] at h3
   cases h3
   simp only at h
   split at h
   ·rename_i cs e hg
    split at h
    ·rename_i hc
     simp only [Option.some.injEq, Prod.mk.injEq] at h
     obtain ⟨rfl, rfl⟩ := h
     refine ⟨rfl, _, rfl, fun s2 h2g => ?_⟩
     simp only [evOp1, hop, Option.bind_eq_bind, h1, h2, ha, Option.bind_some, h2g, hg]
     rw [if_pos hc]
    ·cases h
   ·cases h
  ·cases hb
 ·cases hb
theorem store_form {call : Ab.Call} {o : Oper} {T : Tm} {s s' : St} {x : AV} {b : Nat} (hb : storeTo G T o = some b) (h : evOp P G call o T s = some (x, s')) :
  x = und /\ ∃ obj, s' = s.put b obj /\ ∀ s2 : St, s2.get b = s.get b -> evOp P G call o T s2 = some (und, s2.put b obj) := by
 unfold evOp at h
 split at h
 ·rename_i x1 s1 h1
  cases h
  obtain ⟨rfl, obj, rfl, k⟩ := store_form1 hb h1
  exact ⟨rfl, obj, rfl, fun s2 h2 => by unfold evOp; rw [k s2 h2]; rfl⟩
 ·exfalso
  unfold storeTo at hb
  split at hb
  ·rename_i tv pv yv hop
   split at hb
   ·rename_i ha
    have e1 : evSym0 P G o T s = none := by unfold evSym0; rw [hop]
    unfold evSym at h
    rw [e1] at h
    simp only at h
    have e2 : evArr P G o T s = none := by
     unfold evArr
     rw [hop]
     simp only [ha, Option.bind_eq_bind, Option.bind_some, arStore]
     cases hq : opd G T yv <;> rfl
    rw [e2] at h
    simp only at h
    unfold evMore at h
    rw [hop] at h
    cases h
   ·cases hb
  ·cases hb
theorem stores_comm {call : Ab.Call} {op oq : Oper} {Tp Tq : Tm} {sp s1 s2 : St} {x y : AV} {b c : Nat} (hbl : b < Tr.lid) (hcl : c < Tr.lid) (hp : storeTo G Tp op = some b) (hq : storeTo G Tq oq = some c) (hne : b ≠ c)
  (h1 : evOp P G call op Tp sp = some (x, s1)) (h2 : evOp P G call oq Tq s1 = some (y, s2)) :
  x = und /\ y = und /\ ∃ alt, evOp P G call oq Tq sp = some (und, alt) /\ evOp P G call op Tp alt = some (und, s2) := by
 obtain ⟨rfl, p, rfl, kp⟩ := store_form hp h1
 obtain ⟨rfl, q, rfl, kq⟩ := store_form hq h2
 refine ⟨rfl, rfl, sp.put c q, kq sp ?_, ?_⟩
 ·rw [St.get_put _ _ _ _ hbl, if_neg (Ne.symm hne)]
 ·rw [kp (sp.put c q) (by rw [St.get_put _ _ _ _ hcl, if_neg hne]), St.put_comm hbl hcl hne]
end
end Go.Ab
