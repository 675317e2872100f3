/- From a row's list of package variables, and its parameters, to the evaluator's values; and from 'nothing below has turned' to a row's last step. -/
import Derived.Test.YtgdaplfalohpbaaDoorAbDraw3
import Derived.Carry
import Derived.ChangeShapes
import Derived.ChangeSame
import Derived.OpenShut
import Derived.MakeChecks
import Derived.LaidLaws
namespace Go.Ab
set_option linter.unusedVariables false
set_option linter.unusedSimpArgs false
set_option linter.constructorNameAsVariable false
open Go Go.RowKit Go.WideShapes Go.ChangeShapes

section flat
variable (P : Program)
mutual
def flatT : Nat → TypeId → DataW Unit → Option (List Value)
  | 0, _, _ => none
  | n + 1, t, d => match P.underlying t, d with
    | some .bool, .lit (.bool b) => some [.bool b]
    | some (.int _), .lit (.int k z) => some [.int k z]
    | some .string, .lit (.string bs) => some [.string ⟨bs.toArray⟩]
    | some (.struct fs), .agg ds => (flatF n fs.toList ds 0).bind fun vs => bif Nat.beq vs.length (P.cellsOf t) then some vs else none
    | some (.array m e), .agg ds => (flatL n e (P.cellsOf e) ds).bind fun vs => bif Nat.beq ds.length m && Nat.beq vs.length (P.cellsOf t) then some vs else none
    | _, _ => none
def flatF : Nat → List Field → List (DataW Unit) → Nat → Option (List Value)
  | 0, _, _, _ => none
  | _, [], [], _ => some []
  | n + 1, f :: fs, d :: ds, off => (flatT n f.type d).bind fun a => bif Nat.beq f.offset off && Nat.beq a.length (P.cellsOf f.type) then (flatF n fs ds (off + a.length)).bind fun b => some (a ++ b) else none
  | _, _, _, _ => none
def flatL : Nat → TypeId → Nat → List (DataW Unit) → Option (List Value)
  | 0, _, _, _ => none
  | _, _, _, [] => some []
  | n + 1, e, k, d :: ds => (flatT n e d).bind fun a => bif Nat.beq a.length k then (flatL n e k ds).bind fun b => some (a ++ b) else none
end
end flat

variable {P : Program} {enc : TypeId × Value → Unit} {w : World} {base : Nat} {sp : Nat → Bool} {held : Bool}
theorem and_nbe {a b c d : Nat} (h : (Nat.beq a b && Nat.beq c d) = true) : a = b ∧ c = d := by
  rw [Bool.and_eq_true] at h
  exact ⟨nbe h.1, nbe h.2⟩

mutual
theorem flatT_eq : ∀ (n : Nat) (t : TypeId) (d : DataW Unit) (vs : List Value), flatT P n t d = some vs → ∀ (m : Nat) (cs : List Value) (p : List MemPlace), DataW.trod enc P w base sp held m t cs = some (d, p) → cs = vs
  | 0, _, _, _, h => by simp [flatT] at h
  | n + 1, t, d, vs, h => fun m cs p hd => by
    unfold flatT at h
    split at h
    · rename_i b ht
      cases h
      cases m with
      | zero => simp [DataW.trod] at hd
      | succ m =>
        unfold DataW.trod at hd
        rw [ht] at hd
        split at hd <;> simp_all
    · rename_i k z ht
      cases h
      obtain ⟨z', rfl, e, _⟩ := DataW.trod_int ht hd
      cases (Prod.mk.inj e).1
      rfl
    · rename_i bs ht
      cases h
      cases m with
      | zero => simp [DataW.trod] at hd
      | succ m =>
        unfold DataW.trod at hd
        rw [ht] at hd
        split at hd <;> simp_all
        rename_i s _
        obtain ⟨hsz, hs, hp⟩ := hd
        subst hs
        rfl
    · rename_i fs ds ht
      rw [Option.bind_eq_some_iff] at h
      obtain ⟨us, hf, h⟩ := h
      cases hb : Nat.beq us.length (P.cellsOf t) with
      | false => rw [hb] at h; cases h
      | true =>
        rw [hb] at h
        cases h
        obtain ⟨xs, m', _, hx, hl, hlen, hel⟩ := DataW.trod_struct ht hd
        have hds : ds = xs.map (·.1) := (DataW.agg.inj (Prod.mk.inj hx).1)
        subst hds
        have := flatF_eq n fs.toList (xs.map (·.1)) 0 vs hf m' cs xs rfl (by simpa using hlen) (fun i f hi => hel i f (by simpa using hi))
        simp only [List.drop_zero] at this
        rw [← this, List.take_of_length_le]
        rw [hl, nbe hb]
        exact Nat.le_refl _
    · rename_i k e ds ht
      rw [Option.bind_eq_some_iff] at h
      obtain ⟨us, hf, h⟩ := h
      cases hb : Nat.beq ds.length k && Nat.beq us.length (P.cellsOf t) with
      | false => rw [hb] at h; cases h
      | true =>
        rw [hb] at h
        cases h
        obtain ⟨hk, hu⟩ := and_nbe hb
        obtain ⟨xs, m', _, hx, hl, hlen, hel⟩ := DataW.trod_array ht hd
        have hds : ds = xs.map (·.1) := (DataW.agg.inj (Prod.mk.inj hx).1)
        subst hds
        have := flatL_eq n e (xs.map (·.1)) vs hf m' cs xs 0 rfl (fun i hi => by simpa using hel i (by omega))
        simp only [Nat.zero_mul, List.drop_zero] at this
        rw [← this, List.take_of_length_le]
        rw [hl, hu]
        exact Nat.le_refl _
    · cases h
theorem flatF_eq : ∀ (n : Nat) (fs : List Field) (ds : List (DataW Unit)) (off : Nat) (us : List Value), flatF P n fs ds off = some us →
    ∀ (m : Nat) (cs : List Value) (xs : List (DataW Unit × List MemPlace)), ds = xs.map (·.1) → xs.length = fs.length →
    (∀ (i : Nat) (f : Field), fs[i]? = some f → DataW.trod enc P w base sp held m f.type ((cs.drop f.offset).take (P.cellsOf f.type)) = xs[i]?) → (cs.drop off).take us.length = us
  | 0, _, _, _, _, h => by simp [flatF] at h
  | n + 1, [], [], off, us, h => fun m cs xs _ _ _ => by
    cases h
    rfl
  | n + 1, f :: fs, d :: ds, off, us, h => fun m cs xs hds hlen hel => by
    unfold flatF at h
    rw [Option.bind_eq_some_iff] at h
    obtain ⟨a, ha, h⟩ := h
    cases hb : Nat.beq f.offset off && Nat.beq a.length (P.cellsOf f.type) with
    | false => rw [hb] at h; cases h
    | true =>
      rw [hb, cond_true, Option.bind_eq_some_iff] at h
      obtain ⟨b, hb', h⟩ := h
      cases h
      obtain ⟨ho, hal⟩ := and_nbe hb
      cases xs with
      | nil => cases hds
      | cons x xs =>
        simp only [List.map_cons, List.cons.injEq] at hds
        obtain ⟨rfl, rfl⟩ := hds
        have h0 := hel 0 f rfl
        simp only [List.getElem?_cons_zero] at h0
        have e1 := flatT_eq n f.type x.1 a ha m _ x.2 h0
        have e2 := flatF_eq n fs (xs.map (·.1)) (off + a.length) b hb' m cs xs rfl (by simpa using hlen) (fun i g hi => by simpa using hel (i + 1) g (by simpa using hi))
        rw [ho, ← hal] at e1
        rw [List.length_append, List.take_add, e1, List.drop_drop, e2]
  | n + 1, [], _ :: _, _, _, h => by simp [flatF] at h
  | n + 1, _ :: _, [], _, _, h => by simp [flatF] at h
theorem flatL_eq : ∀ (n : Nat) (e : TypeId) (ds : List (DataW Unit)) (us : List Value), flatL P n e (P.cellsOf e) ds = some us →
    ∀ (m : Nat) (cs : List Value) (xs : List (DataW Unit × List MemPlace)) (j : Nat), ds = xs.map (·.1) →
    (∀ i, i < xs.length → DataW.trod enc P w base sp held m e ((cs.drop ((j + i) * P.cellsOf e)).take (P.cellsOf e)) = xs[i]?) → (cs.drop (j * P.cellsOf e)).take us.length = us
  | 0, _, _, _, h => by simp [flatL] at h
  | n + 1, e, [], us, h => fun m cs xs j _ _ => by
    cases h
    rfl
  | n + 1, e, d :: ds, us, h => fun m cs xs j hds hel => by
    unfold flatL at h
    rw [Option.bind_eq_some_iff] at h
    obtain ⟨a, ha, h⟩ := h
    cases hb : Nat.beq a.length (P.cellsOf e) with
    | false => rw [hb] at h; cases h
    | true =>
      rw [hb, cond_true, Option.bind_eq_some_iff] at h
      obtain ⟨b, hb', h⟩ := h
      cases h
      have hal := nbe hb
      cases xs with
      | nil => cases hds
      | cons x xs =>
        simp only [List.map_cons, List.cons.injEq] at hds
        obtain ⟨rfl, rfl⟩ := hds
        have h0 := hel 0 (Nat.succ_pos _)
        simp only [List.getElem?_cons_zero, Nat.add_zero] at h0
        have e1 := flatT_eq n e x.1 a ha m _ x.2 h0
        have e2 := flatL_eq n e (xs.map (·.1)) b hb' m cs xs (j + 1) rfl (fun i hi => by
          have := hel (i + 1) (Nat.succ_lt_succ hi)
          rw [List.getElem?_cons_succ] at this
          rw [← this, Nat.add_assoc, Nat.add_comm 1 i])
        rw [← hal] at e1
        rw [List.length_append, List.take_add, ← hal, e1, List.drop_drop]
        rw [← hal, Nat.add_mul, Nat.one_mul] at e2
        rw [e2]
end

/-- The evaluator's cells for scalar values. -/
def leaves (vs : List Value) : List AV := vs.map .v
theorem VRs_leaves {w : World} {s : St} {M : Mp} {g : Nat} (hi : ∀ off, Imm s M g off) : ∀ (vs : List Value) (off : Nat), (∀ i v, vs[i]? = some v → w.cell? ⟨g, off + i, none⟩ = some v) → (vs.all scalar = true) → VRs w s M (leaves vs) g off
  | [], _, _, _ => trivial
  | v :: vs, off, h, hs => by
    rw [List.all_cons, Bool.and_eq_true] at hs
    refine ⟨⟨v, h 0 v rfl, rfl, hs.1⟩, ?_, hi off, VRs_leaves hi vs (off + 1) (fun i u hu => ?_) hs.2⟩
    · rfl
    · have := h (i + 1) u (by simpa using hu)
      rw [← this, Nat.add_assoc, Nat.add_comm 1 i]

/-- WHAT ONE ROW OF THE LIST GIVES. -/
theorem cells_of_laid {W : World} {name : String} {d : DataW Unit} {rest : List (String × DataW Unit)} {ps : List MemPlace} {g t n : Nat} {vs : List Value} (hg : P.globalNamed name = some g) (hty : (P.globals[g]?).map (·.type) = some t)
    (hf : flatT P n t d = some vs) (h : DataW.LaidVars P W ((name, d) :: rest) ps) : (∀ (i : Nat) v, vs[i]? = some v → W.cell? ⟨g, 0 + i, none⟩ = some v) ∧ ∃ q, DataW.LaidVars P W rest q := by
  obtain ⟨g', t', cs, fuel, p, q, hg', ht', hvar, hd, hr, _⟩ := h
  obtain rfl := Option.some.inj (hg.symm.trans hg')
  obtain rfl := Option.some.inj (hty.symm.trans ht')
  refine ⟨fun i v hv => ?_, q, hr⟩
  have e := flatT_eq n t d vs hf fuel cs.toList p hd
  rw [Nat.zero_add, World.var?_cell hg hvar i, ← Array.getElem?_toList, e, hv]

/-- THE START: any world, nothing of the call's own. -/
theorem Sim.start {G : Nat → Option (List AV)} {W : World} (hG : ∀ M g cs, G g = some cs → VRs W ⟨0, .lf⟩ M cs g 0) (M : Mp) : Sim G W.heap.size W W ⟨0, .lf⟩ M where
  below := Below.refl _ _
  size := Nat.le_refl _
  bound := Nat.zero_le _
  blk := fun _ hi => absurd hi (Nat.not_lt_zero _)
  inj := fun _ _ _ _ hi => absurd hi (Nat.not_lt_zero _)
  obj := fun _ _ hi => absurd hi (Nat.not_lt_zero _)
  glob := hG M
theorem imm_start (M : Mp) (b off : Nat) : Imm ⟨0, .lf⟩ M b off := fun _ _ hi => absurd hi (Nat.not_lt_zero _)

/-- A call that the evaluator runs to 'true'. -/
def isTrue (r : Option (AV × St)) : Bool := match r with | some (.v (.bool true), _) => true | _ => false
theorem calls_of_true {G : Nat → Option (List AV)} {W : World} {f : FuncId} {args : List AV} {vs : Array Value} {K k : Nat} (hP : NoNum P) (hmix : P.follows .mixedOrders = true)
    (hG : ∀ M g cs, G g = some cs → VRs W ⟨0, .lf⟩ M cs g 0) (hv : ∀ M, VRl W ⟨0, .lf⟩ M args vs.toList)
    (h : isTrue (evFn P G (evDrawn P G) K (fun _ _ _ => none) k (.func f) args ⟨0, .lf⟩) = true) :
    Calls P f vs W fun e W' => e = .returned (.bool true) ∧ Below W.heap.size W W' := by
  have hd : ∀ call, CallOk P G W.heap.size W call → DrawnOk P G W.heap.size W (evDrawn P G call) := fun call hc => drawn_sound hP hmix hc
  have ho : CallOk P G W.heap.size W (fun _ _ _ => none) := fun fr args s r s' h => by cases h
  have hc := fn_sound hP K ho hd k
  cases hr : evFn P G (evDrawn P G) K (fun _ _ _ => none) k (.func f) args ⟨0, .lf⟩ with
  | none => rw [hr] at h; cases h
  | some q =>
    obtain ⟨r, s'⟩ := q
    rw [hr] at h
    have hrt : r = .v (.bool true) := by
      unfold isTrue at h
      split at h
      · rename_i e; cases e; rfl
      · cases h
    subst hrt
    have M : Mp := ⟨id, id⟩
    have := hc (.func f) args ⟨0, .lf⟩ _ s' hr W M vs (Sim.start hG M) (hv M)
    refine (callsIn_wide.1 this).mono fun e W' hq => ?_
    obtain ⟨v, M', rfl, hvr, hs', _⟩ := hq
    exact ⟨by rw [hvr.1], hs'.below⟩

/-- A struct's cells, as its type allows them. -/
theorem cells_of_wide {W : World} {r : Reach} {t : TypeId} {v : Value} {fs : Array Field} {ts : List TypeId} (ht : P.underlying t = some (.struct fs)) (hts : P.cellTypes P.depth t = some ts) (hn : P.cellsOf t = ts.length)
    (h : Value.okWide P W r base t v) : ∃ cs : Array Value, v = .agg cs ∧ cs.size = ts.length ∧ ∀ (i : Nat) x u, cs[i]? = some x → ts[i]? = some u → Cell.okWide P W r base u x := by
  unfold Value.okWide at h
  rw [ht] at h
  obtain ⟨cs, rfl, hsz, ts', hts', _, hc⟩ := h
  obtain rfl := Option.some.inj (hts.symm.trans hts')
  refine ⟨cs, rfl, hsz.trans hn, fun i x u hx hu => ?_⟩
  obtain ⟨u', hu', hk⟩ := hc i x hx
  have hi : i < ts.length := (List.getElem?_eq_some_iff.1 hu).1
  rw [Nat.mod_eq_of_lt hi, hu] at hu'
  obtain rfl := Option.some.inj hu'
  exact hk
theorem wide_int {W : World} {r : Reach} {u : TypeId} {x : Value} {k : IntKind} (hu : P.underlying u = some (.int k)) (h : Cell.okWide P W r base u x) : ∃ z, x = .int k z := by
  unfold Cell.okWide Cell.ok at h
  rw [hu] at h
  cases x <;> simp_all
theorem wide_bool {W : World} {r : Reach} {u : TypeId} {x : Value} (hu : P.underlying u = some .bool) (h : Cell.okWide P W r base u x) : ∃ z, x = .bool z := by
  unfold Cell.okWide Cell.ok at h
  rw [hu] at h
  cases x <;> simp_all
theorem wide_string {W : World} {r : Reach} {u : TypeId} {x : Value} (hu : P.underlying u = some .string) (h : Cell.okWide P W r base u x) : ∃ z, x = .string z := by
  unfold Cell.okWide Cell.ok at h
  rw [hu] at h
  cases x <;> simp_all

/-- Arguments whose world has not turned below read as they did. -/
theorem trodAll_below {H : Type} {enc : TypeId × Value → H} (hl : laidOutB P = true) {W W' : World} (hb : Below W.heap.size W W') : ∀ (ts : List TypeId) (vs : List Value) (ds : List (DataW H)) (ps : List MemPlace),
    (ts.all fun t => P.readableRec t && decide (t < P.types.size)) = true → DataW.TrodAll enc P W 0 (fun _ => true) true ts vs ds ps → (∀ x ∈ ps, x.block < W.heap.size) →
    DataW.TrodAll enc P W' 0 (fun b => decide (b < W.heap.size)) true ts vs ds ps
  | [], [], [], ps, _, h, _ => h
  | t :: ts, v :: vs, d :: ds, ps, ht, h, hlt => by
    obtain ⟨p, q, h1, h2, rfl⟩ := h
    rw [List.all_cons, Bool.and_eq_true, Bool.and_eq_true, decide_eq_true_eq] at ht
    exact ⟨p, q, Below.trod hl ht.1.1 ht.1.2 h1 hb (fun x hx => hlt x (List.mem_append_left _ hx)), trodAll_below hl hb ts vs ds q ht.2 h2 (fun x hx => hlt x (List.mem_append_right _ hx)), rfl⟩

/-- THE LAST STEP of a row 'true; the input reads as it did'. -/
theorem post_true {H : Type} {enc : TypeId × Value → H} {f : Func} {s : ChangeSpec} {apart fresh handsOn : Bool} {W W' : World} {args : Array Value} {ds gs : List (DataW H)} {before : List MemPlace} {t : TypeId}
    (hl : laidOutB P = true) (hts : (f.params.toList.all fun t => P.readableRec t && decide (t < P.types.size)) = true) (hrt : f.resultTypes = #[t]) (ht : P.underlying t = some .bool)
    (hW : DataW.Whole enc P f.params.toList s.vars apart W args.toList ds gs before) (hvars : s.vars = []) (hres : (s.fn H (ds ++ gs)).results = [.lit (.bool true)]) (hargs : (s.fn H (ds ++ gs)).args = ds) (hv : (s.fn H (ds ++ gs)).vars = [])
    (hb : Below W.heap.size W W') : s.post enc P f apart fresh handsOn false W args (.bool true) W' := by
  have hlt : ∀ p ∈ before, p.block < W.heap.size := fun p hp => hW.lt p hp
  have hW' := hW
  obtain ⟨p, q, hA, hV, rfl, hz, hn⟩ := hW
  refine ⟨ds, gs, p ++ q, [], p, [], hW', ?_, ?_, ?_, hb.frame _, fun h => by cases h⟩
  · rw [hres, hrt]
    exact trodAll_mk1 (shut_bool ht true)
  · rw [hargs]
    exact trodAll_below hl hb _ _ _ _ hts hA (fun x hx => hlt x (List.mem_append_left _ hx))
  · rw [hvars, hv]
    rfl
end Go.Ab
