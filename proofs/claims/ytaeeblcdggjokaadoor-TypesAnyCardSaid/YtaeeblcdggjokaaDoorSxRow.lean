/- From a row's list of package variables, and its parameters, to the evaluator's values; and from 'nothing below has turned' to a row's last step. -/
import Derived.Test.YtaeeblcdggjokaaDoorSxPan
import Derived.Carry
import Derived.ChangeShapes
import Derived.ChangeSame
import Derived.OpenShut
import Derived.MakeChecks
import Derived.LaidLaws
namespace Go.Ab
set_option linter.unusedVariables false
set_option linter.unusedSimpArgs false
set_option linter.unusedSectionVars false
set_option linter.constructorNameAsVariable false
open Go Go.RowKit Go.WideShapes Go.ChangeShapes
variable [Interp]

section flat
variable (P : Program)
mutual
def flatT : Nat → TypeId → DataW Unit → Option (List Value)
  | 0, _, _ => none
  | n + 1, t, d => match P.underlying t, d with
    | some .bool, .lit (.bool b) => some [.bool b]
    | some (.int _), .lit (.int k z) => some [.int k z]
    | some .string, .lit (.string bs) => some [.string ⟨bs.toArray⟩]
    | some (.struct fs), .agg ds => (flatF n fs.toList ds 0).bind fun vs => bif Nat.beq vs.length (P.cellsOf t) then some vs else none
    | some (.array m e), .agg ds => (flatL n e (P.cellsOf e) ds).bind fun vs => bif Nat.beq ds.length m && Nat.beq vs.length (P.cellsOf t) then some vs else none
    | _, _ => none
def flatF : Nat → List Field → List (DataW Unit) → Nat → Option (List Value)
  | 0, _, _, _ => none
  | _, [], [], _ => some []
  | n + 1, f :: fs, d :: ds, off => (flatT n f.type d).bind fun a => bif Nat.beq f.offset off && Nat.beq a.length (P.cellsOf f.type) then (flatF n fs ds (off + a.length)).bind fun b => some (a ++ b) else none
  | _, _, _, _ => none
def flatL : Nat → TypeId → Nat → List (DataW Unit) → Option (List Value)
  | 0, _, _, _ => none
  | _, _, _, [] => some []
  | n + 1, e, k, d :: ds => (flatT n e d).bind fun a => bif Nat.beq a.length k then (flatL n e k ds).bind fun b => some (a ++ b) else none
end
end flat

variable {P : Program} {enc : TypeId × Value → Unit} {w : World} {base : Nat} {sp : Nat → Bool} {held : Bool}
theorem and_nbe {a b c d : Nat} (h : (Nat.beq a b && Nat.beq c d) = true) : a = b ∧ c = d := by
  rw [Bool.and_eq_true] at h
  exact ⟨nbe h.1, nbe h.2⟩

mutual
theorem flatT_eq : ∀ (n : Nat) (t : TypeId) (d : DataW Unit) (vs : List Value), flatT P n t d = some vs → ∀ (m : Nat) (cs : List Value) (p : List MemPlace), DataW.trod enc P w base sp held m t cs = some (d, p) → cs = vs
  | 0, _, _, _, h => by simp [flatT] at h
  | n + 1, t, d, vs, h => fun m cs p hd => by
    unfold flatT at h
    split at h
    · rename_i b ht
      cases h
      cases m with
      | zero => simp [DataW.trod] at hd
      | succ m =>
        unfold DataW.trod at hd
        rw [ht] at hd
        split at hd <;> simp_all
    · rename_i k z ht
      cases h
      obtain ⟨z', rfl, e, _⟩ := DataW.trod_int ht hd
      cases (Prod.mk.inj e).1
      rfl
    · rename_i bs ht
      cases h
      cases m with
      | zero => simp [DataW.trod] at hd
      | succ m =>
        unfold DataW.trod at hd
        rw [ht] at hd
        split at hd <;> simp_all
        rename_i s _
        obtain ⟨hsz, hs, hp⟩ := hd
        subst hs
        rfl
    · rename_i fs ds ht
      rw [Option.bind_eq_some_iff] at h
      obtain ⟨us, hf, h⟩ := h
      cases hb : Nat.beq us.length (P.cellsOf t) with
      | false => rw [hb] at h; cases h
      | true =>
        rw [hb] at h
        cases h
        obtain ⟨xs, m', _, hx, hl, hlen, hel⟩ := DataW.trod_struct ht hd
        have hds : ds = xs.map (·.1) := (DataW.agg.inj (Prod.mk.inj hx).1)
        subst hds
        have := flatF_eq n fs.toList (xs.map (·.1)) 0 vs hf m' cs xs rfl (by simpa using hlen) (fun i f hi => hel i f (by simpa using hi))
        simp only [List.drop_zero] at this
        rw [← this, List.take_of_length_le]
        rw [hl, nbe hb]
        exact Nat.le_refl _
    · rename_i k e ds ht
      rw [Option.bind_eq_some_iff] at h
      obtain ⟨us, hf, h⟩ := h
      cases hb : Nat.beq ds.length k && Nat.beq us.length (P.cellsOf t) with
      | false => rw [hb] at h; cases h
      | true =>
        rw [hb] at h
        cases h
        obtain ⟨hk, hu⟩ := and_nbe hb
        obtain ⟨xs, m', _, hx, hl, hlen, hel⟩ := DataW.trod_array ht hd
        have hds : ds = xs.map (·.1) := (DataW.agg.inj (Prod.mk.inj hx).1)
        subst hds
        have := flatL_eq n e (xs.map (·.1)) vs hf m' cs xs 0 rfl (fun i hi => by simpa using hel i (by omega))
        simp only [Nat.zero_mul, List.drop_zero] at this
        rw [← this, List.take_of_length_le]
        rw [hl, hu]
        exact Nat.le_refl _
    · cases h
theorem flatF_eq : ∀ (n : Nat) (fs : List Field) (ds : List (DataW Unit)) (off : Nat) (us : List Value), flatF P n fs ds off = some us →
    ∀ (m : Nat) (cs : List Value) (xs : List (DataW Unit × List MemPlace)), ds = xs.map (·.1) → xs.length = fs.length →
    (∀ (i : Nat) (f : Field), fs[i]? = some f → DataW.trod enc P w base sp held m f.type ((cs.drop f.offset).take (P.cellsOf f.type)) = xs[i]?) → (cs.drop off).take us.length = us
  | 0, _, _, _, _, h => by simp [flatF] at h
  | n + 1, [], [], off, us, h => fun m cs xs _ _ _ => by
    cases h
    rfl
  | n + 1, f :: fs, d :: ds, off, us, h => fun m cs xs hds hlen hel => by
    unfold flatF at h
    rw [Option.bind_eq_some_iff] at h
    obtain ⟨a, ha, h⟩ := h
    cases hb : Nat.beq f.offset off && Nat.beq a.length (P.cellsOf f.type) with
    | false => rw [hb] at h; cases h
    | true =>
      rw [hb, cond_true, Option.bind_eq_some_iff] at h
      obtain ⟨b, hb', h⟩ := h
      cases h
      obtain ⟨ho, hal⟩ := and_nbe hb
      cases xs with
      | nil => cases hds
      | cons x xs =>
        simp only [List.map_cons, List.cons.injEq] at hds
        obtain ⟨rfl, rfl⟩ := hds
        have h0 := hel 0 f rfl
        simp only [List.getElem?_cons_zero] at h0
        have e1 := flatT_eq n f.type x.1 a ha m _ x.2 h0
        have e2 := flatF_eq n fs (xs.map (·.1)) (off + a.length) b hb' m cs xs rfl (by simpa using hlen) (fun i g hi => by simpa using hel (i + 1) g (by simpa using hi))
        rw [ho, ← hal] at e1
        rw [List.length_append, List.take_add, e1, List.drop_drop, e2]
  | n + 1, [], _ :: _, _, _, h => by simp [flatF] at h
  | n + 1, _ :: _, [], _, _, h => by simp [flatF] at h
theorem flatL_eq : ∀ (n : Nat) (e : TypeId) (ds : List (DataW Unit)) (us : List Value), flatL P n e (P.cellsOf e) ds = some us →
    ∀ (m : Nat) (cs : List Value) (xs : List (DataW Unit × List MemPlace)) (j : Nat), ds = xs.map (·.1) →
    (∀ i, i < xs.length → DataW.trod enc P w base sp held m e ((cs.drop ((j + i) * P.cellsOf e)).take (P.cellsOf e)) = xs[i]?) → (cs.drop (j * P.cellsOf e)).take us.length = us
  | 0, _, _, _, h => by simp [flatL] at h
  | n + 1, e, [], us, h => fun m cs xs j _ _ => by
    cases h
    rfl
  | n + 1, e, d :: ds, us, h => fun m cs xs j hds hel => by
    unfold flatL at h
    rw [Option.bind_eq_some_iff] at h
    obtain ⟨a, ha, h⟩ := h
    cases hb : Nat.beq a.length (P.cellsOf e) with
    | false => rw [hb] at h; cases h
    | true =>
      rw [hb, cond_true, Option.bind_eq_some_iff] at h
      obtain ⟨b, hb', h⟩ := h
      cases h
      have hal := nbe hb
      cases xs with
      | nil => cases hds
      | cons x xs =>
        simp only [List.map_cons, List.cons.injEq] at hds
        obtain ⟨rfl, rfl⟩ := hds
        have h0 := hel 0 (Nat.succ_pos _)
        simp only [List.getElem?_cons_zero, Nat.add_zero] at h0
        have e1 := flatT_eq n e x.1 a ha m _ x.2 h0
        have e2 := flatL_eq n e (xs.map (·.1)) b hb' m cs xs (j + 1) rfl (fun i hi => by
          have := hel (i + 1) (Nat.succ_lt_succ hi)
          rw [List.getElem?_cons_succ] at this
          rw [← this, Nat.add_assoc, Nat.add_comm 1 i])
        rw [← hal] at e1
        rw [List.length_append, List.take_add, ← hal, e1, List.drop_drop]
        rw [← hal, Nat.add_mul, Nat.one_mul] at e2
        rw [e2]
end

/-- The evaluator's cells for scalar values. -/
def leaves (vs : List Value) : List AV := vs.map .v
theorem VRs_leaves {w : World} {s : St} {M : Mp} {g : Nat} (hi : ∀ off, Imm s M g off) : ∀ (vs : List Value) (off : Nat), (∀ i v, vs[i]? = some v → w.cell? ⟨g, off + i, none⟩ = some v) → (vs.all scalar = true) → VRs w s M (leaves vs) g off
  | [], _, _, _ => trivial
  | v :: vs, off, h, hs => by
    rw [List.all_cons, Bool.and_eq_true] at hs
    refine ⟨⟨v, h 0 v rfl, rfl, hs.1⟩, ?_, hi off, VRs_leaves hi vs (off + 1) (fun i u hu => ?_) hs.2⟩
    · rfl
    · have := h (i + 1) u (by simpa using hu)
      rw [← this, Nat.add_assoc, Nat.add_comm 1 i]

/-- WHAT ONE ROW OF THE LIST GIVES. -/
theorem cells_of_laid {W : World} {name : String} {d : DataW Unit} {rest : List (String × DataW Unit)} {ps : List MemPlace} {g t n : Nat} {vs : List Value} (hg : P.globalNamed name = some g) (hty : (P.globals[g]?).map (·.type) = some t)
    (hf : flatT P n t d = some vs) (h : DataW.LaidVars P W ((name, d) :: rest) ps) : (∀ (i : Nat) v, vs[i]? = some v → W.cell? ⟨g, 0 + i, none⟩ = some v) ∧ ∃ q, DataW.LaidVars P W rest q := by
  obtain ⟨g', t', cs, fuel, p, q, hg', ht', hvar, hd, hr, _⟩ := h
  obtain rfl := Option.some.inj (hg.symm.trans hg')
  obtain rfl := Option.some.inj (hty.symm.trans ht')
  refine ⟨fun i v hv => ?_, q, hr⟩
  have e := flatT_eq n t d vs hf fuel cs.toList p hd
  rw [Nat.zero_add, World.var?_cell hg hvar i, ← Array.getElem?_toList, e, hv]

/- The tables of a row's list that hold plain data: their numbers, their cells. -/
def laidTabs (P : Program) : List (String × DataW Unit) → List (Nat × List Value)
  | [] => []
  | (name, d) :: rest =>
    match P.globalNamed name with
    | none => laidTabs P rest
    | some g =>
      match (P.globals[g]?).map (·.type) with
      | none => laidTabs P rest
      | some t =>
        match flatT P 1000 t d with
        | some vs => if vs.all scalar then (g, vs) :: laidTabs P rest else laidTabs P rest
        | none => laidTabs P rest
def tabsG : List (Nat × List Value) → Nat → Option (List AV)
  | [], _ => none
  | (h, vs) :: r, g => bif Nat.beq h g then some (leaves vs) else tabsG r g
def TabsMet (L : List (Nat × List Value)) (W : World) : Prop := ∀ g vs, (g, vs) ∈ L → vs.all scalar = true ∧ ∀ (i : Nat) v, vs[i]? = some v → W.cell? ⟨g, 0 + i, none⟩ = some v
theorem tabs_of_laid {W : World} : ∀ {laid : List (String × DataW Unit)} {ps : List MemPlace}, DataW.LaidVars P W laid ps → TabsMet (laidTabs P laid) W
  | [], ps, h => fun g vs hm => by cases hm
  | (name, d) :: rest, ps, h => by
    have hr : ∃ q, DataW.LaidVars P W rest q := by obtain ⟨_, _, _, _, _, q, _, _, _, _, hr, _⟩ := h; exact ⟨q, hr⟩
    obtain ⟨q, hr⟩ := hr
    have ih := tabs_of_laid hr
    intro g vs hm
    unfold laidTabs at hm
    split at hm
    · exact ih g vs hm
    · rename_i g' hg
      split at hm
      · exact ih g vs hm
      · rename_i t hty
        split at hm
        · rename_i vs' hf
          split at hm
          · rename_i hs
            rw [List.mem_cons] at hm
            rcases hm with e | hm
            · cases e
              exact ⟨hs, (cells_of_laid hg hty hf h).1⟩
            · exact ih g vs hm
          · exact ih g vs hm
        · exact ih g vs hm
/-- A start: nothing from outside. -/
def Mp.start : Mp := ⟨id, id, fun _ => .nil, fun _ _ => False⟩
theorem imm_start (M : Mp) (b off : Nat) (ho : ¬ M.out b off) : Imm none0 M b off := ⟨fun _ _ hi => absurd hi (Nat.not_lt_zero _), ho⟩
theorem tabsG_mem : ∀ {L : List (Nat × List Value)} {g : Nat} {cs : List AV}, tabsG L g = some cs → ∃ vs, (g, vs) ∈ L ∧ cs = leaves vs
  | [], g, cs, h => by cases h
  | (k, vs) :: r, g, cs, h => by
    unfold tabsG at h
    cases e : Nat.beq k g with
    | true =>
      rw [e] at h
      cases h
      obtain rfl := Nat.eq_of_beq_eq_true e
      exact ⟨vs, by simp, rfl⟩
    | false =>
      rw [e] at h
      obtain ⟨us, h1, h2⟩ := tabsG_mem h
      exact ⟨us, by simp [h1], h2⟩
theorem glob_of_tabs {L : List (Nat × List Value)} {W : World} (h : TabsMet L W) : ∀ M : Mp, (∀ b off, ¬ M.out b off) → ∀ g cs, tabsG L g = some cs → VRs W none0 M cs g 0 := by
  intro M ho g cs hg
  obtain ⟨vs, hm, rfl⟩ := tabsG_mem hg
  obtain ⟨h1, h2⟩ := h g vs hm
  exact VRs_leaves (fun off => imm_start M g off (ho g off)) vs 0 h2 h1
theorem tabsG_first {L : List (Nat × List Value)} {g : Nat} {vs : List Value} (h : (g, vs) ∈ L) (hn : (L.map (·.1)).Nodup) : tabsG L g = some (leaves vs) := by
  induction L with
  | nil => cases h
  | cons x r ih =>
    obtain ⟨k, us⟩ := x
    rw [List.map_cons, List.nodup_cons] at hn
    unfold tabsG
    rw [List.mem_cons] at h
    rcases h with e | h
    · cases e; rw [nbt]; rfl
    · have hne : k ≠ g := fun e => hn.1 (by subst e; exact List.mem_map.2 ⟨_, h, rfl⟩)
      rw [nbf hne]
      exact ih h hn.2
theorem leaves_cells {w : World} {s : St} {M : Mp} {g : Nat} {vs : List Value} (h : VRs w s M (leaves vs) g 0) : ∀ (i : Nat) v, vs[i]? = some v → w.cell? ⟨g, 0 + i, none⟩ = some v := by
  intro i v hv
  obtain ⟨u, h1, h2, _⟩ := h.get i (.v v) (by simp [leaves, hv])
  rw [(VR_v.1 h2).1] at h1
  exact h1
theorem tabs_of_sim {B0 : Nat} {w0 w : World} {s : St} {M : Mp} {L : List (Nat × List Value)} (hn : (L.map (·.1)).Nodup) (hsc : (L.all fun x => x.2.all scalar) = true) (h : Sim (tabsG L) B0 w0 w s M) : TabsMet L w := by
  intro g vs hm
  exact ⟨(List.all_eq_true.1 hsc) (g, vs) hm, leaves_cells (h.glob g _ (tabsG_first hm hn))⟩

/-- A function without parameters, of which it is known that it answers true and leaves what there was. -/
def trueOrc (f : Nat) : Call := fun fr args s =>
  match fr, args with
  | .func g, [] => if Nat.beq g f then some (.v (.bool true), s) else none
  | _, _ => none
theorem trueOrc_ok {L : List (Nat × List Value)} {B0 : Nat} {w0 : World} {f : Nat} (hn : (L.map (·.1)).Nodup) (hsc : (L.all fun x => x.2.all scalar) = true)
    (h : ∀ W, TabsMet L W → Calls P f #[] W fun e W' => e = .returned (.bool true) ∧ Below W.heap.size W W') : CallOk P (tabsG L) B0 w0 (trueOrc f) := by
  intro fr args s r s' hr w M vs hs hv
  unfold trueOrc at hr
  split at hr
  · rename_i g
    split at hr
    · rename_i e
      obtain rfl := Nat.eq_of_beq_eq_true e
      cases hr
      have hvs : vs = #[] := by
        unfold VRl at hv
        apply Array.toList_inj.1
        exact hv
      subst hvs
      refine (callsIn_wide.2 (h w (tabs_of_sim hn hsc hs))).mono fun e W' ⟨he, hb⟩ => ?_
      obtain ⟨h1, h2⟩ := sim_frame hs hb
      exact ⟨M, .inl ⟨_, he, VR_v_of rfl⟩, h1, h2⟩
    · cases hr
  · cases hr

/-- THE START: any world, nothing of the call's own. -/
theorem Sim.start {G : Nat → Option (List AV)} {W : World} (hG : ∀ M : Mp, (∀ b off, ¬ M.out b off) → ∀ g cs, G g = some cs → VRs W none0 M cs g 0) (M : Mp) (ho : ∀ b off, ¬ M.out b off) : Sim G W.heap.size W W none0 M where
  below := Below.refl _ _
  size := Nat.le_refl _
  bound := Nat.zero_le _
  blk := fun _ hi => absurd hi (Nat.not_lt_zero _)
  inj := fun _ _ _ _ hi => absurd hi (Nat.not_lt_zero _)
  obj := fun _ _ hi => absurd hi (Nat.not_lt_zero _)
  glob := hG M ho
  fx := fun _ he => by cases he
  out := fun b off h => absurd h (ho b off)

def noOrc : Call := fun _ _ _ => none
theorem noOrc_ok {G : Nat → Option (List AV)} {B0 : Nat} {w0 : World} : CallOk P G B0 w0 noOrc := fun fr args s r s' h => by cases h
/-- A call that the evaluator runs to 'true'. -/
def isTrue (r : Option (AV × St)) : Bool := match r with | some (.v (.bool true), _) => true | _ => false
theorem calls_of_true {mu : Nat → Bool} {orc : Call} {G : Nat → Option (List AV)} {W : World} {f : FuncId} {args : List AV} {vs : Array Value} {K k : Nat} (ho : CallOk P G W.heap.size W orc) (hP : NoNum P) (hmix : P.follows .mixedOrders = true)
    (hG : ∀ M : Mp, (∀ b off, ¬ M.out b off) → ∀ g cs, G g = some cs → VRs W none0 M cs g 0) (hv : ∀ M, VRl W none0 M args vs.toList)
    (h : isTrue (evFn P G mu (evDrawnX P G) K orc k (.func f) args none0) = true) :
    Calls P f vs W fun e W' => e = .returned (.bool true) ∧ Below W.heap.size W W' := by
  have hd : ∀ call, CallOk P G W.heap.size W call → DrawnOk P G W.heap.size W (evDrawnX P G call) := fun call hc => drawnX_sound hP hmix hc
  have hc := fn_sound (mu := mu) hP K ho hd k
  cases hr : evFn P G mu (evDrawnX P G) K orc k (.func f) args none0 with
  | none => rw [hr] at h; cases h
  | some q =>
    obtain ⟨r, s'⟩ := q
    rw [hr] at h
    have hrt : r = .v (.bool true) := by
      unfold isTrue at h
      split at h
      · rename_i e; cases e; rfl
      · cases h
    subst hrt
    have := hc (.func f) args none0 _ s' hr W Mp.start vs (Sim.start hG Mp.start fun _ _ h => h) (hv _)
    refine (callsIn_wide.1 this).mono fun e W' hq => ?_
    obtain ⟨v, M', rfl, hvr, hs', _⟩ := Done.down hq rfl
    exact ⟨by rw [hvr.1], hs'.below⟩

/-- Code that ends a function with 'true'. -/
def finTrue (P : Program) (G : Nat → Option (List AV)) (run : Code → Tm → St → Option (Ex × Tm × St)) (fn : Func) (r : Option (Ex × Tm × St)) : Bool :=
  match r with
  | some (.normal, T, s) | some (.ret, T, s) =>
    match killAll s T.ds with
    | some s => isTrue (finA P G run fn T none s)
    | none => false
  | _ => false
def thenA (run : Code → Tm → St → Option (Ex × Tm × St)) (X : Code) (r : Option (Ex × Tm × St)) : Option (Ex × Tm × St) :=
  match r with
  | some (.normal, T, s) => run X T s
  | r => r

/-- A call whose function first asks one question, of which the answer is not known. -/
theorem calls_guarded {mu : Nat → Bool} {orc : Call} {G : Nat → Option (List AV)} {W : World} {f : FuncId} {fn : Func} {args : List AV} {vs : Array Value} {K k : Nat} (ho : CallOk P G W.heap.size W orc) (hP : NoNum P) (hmix : P.follows .mixedOrders = true)
    (hG : ∀ M : Mp, (∀ b off, ¬ M.out b off) → ∀ g cs, G g = some cs → VRs W none0 M cs g 0) (hv : ∀ M, VRl W none0 M args vs.toList)
    {A C X : Code} {id : Nat} {ops : Array Oper} {T0 : Tm} {s0 s1 : St} {F : Bool → Tm} {e : Bool} (hfn : P.funcs[f]? = some fn) (hbody : fn.body = some (.seq A (.seq (.seq (.region id ops false) C) X))) (hle : Nat.ble (args.length + fn.ntmps) Tr.lid = true)
    (hA : evCode P G (evDrawnX P G) (evFn P G mu (evDrawnX P G) K orc k) false K A (initT args fn.ntmps) none0 = some (.normal, T0, s0))
    (hR : evOps P G (evFn P G mu (evDrawnX P G) K orc k) true ops (List.range ops.size) T0 s0 = some (none, F e, s1))
    (hB : ∀ b, finTrue P G (evCode P G (evDrawnX P G) (evFn P G mu (evDrawnX P G) K orc k) false K) fn (thenA (evCode P G (evDrawnX P G) (evFn P G mu (evDrawnX P G) K orc k) false K) X (evCode P G (evDrawnX P G) (evFn P G mu (evDrawnX P G) K orc k) false K C (F b) s1)) = true) :
    Calls P f vs W fun e W' => e = .returned (.bool true) ∧ Below W.heap.size W W' := by
  have hd : ∀ call, CallOk P G W.heap.size W call → DrawnOk P G W.heap.size W (evDrawnX P G call) := fun call hc => drawnX_sound hP hmix hc
  have hc := fn_sound (mu := mu) hP K ho hd k
  generalize evFn P G mu (evDrawnX P G) K orc k = self at hA hR hB hc
  have hgo : Goes P G W.heap.size W none (evCode P G (evDrawnX P G) self false K) := (code_sound hP hc (hd _ hc) (rb := false) (ro := none) (fun _ => rfl) K).1
  generalize evCode P G (evDrawnX P G) self false K = run at hA hB hgo
  have ⟨M, hM⟩ : ∃ M : Mp, M = Mp.start := ⟨_, rfl⟩
  have hs : Sim G W.heap.size W W none0 M := by subst hM; exact Sim.start hG Mp.start fun _ _ h => h
  have hT := initT_sound (w := W) (s := none0) (M := M) fn.ntmps (Nat.le_of_ble_eq_true hle) (hv M)
  refine callsIn_wide.1 (callsIn_of_wp_marks (F := FW none) (n := 0) (R := fun e W' => e = .returned (.bool true) ∧ Below W.heap.size W W') hfn hbody trivial ?_)
  refine wpIn_seq ?_
  refine hgo A _ _ _ T0 s0 hA W M _ _ hs hT fun e0 a0 w0 M0 k0 k1 k2 k3 => ?_
  obtain rfl : e0 = .normal := k0
  refine wpIn_seq (wpIn_seq (wpIn_region ?_))
  refine ops_sound hP hc (fun _ => rfl) hR k2 k1 fun e1 a1 w1 M1 j0 j1 j2 j3 => ?_
  obtain rfl : e1 = .normal := j0
  have hb := hB e
  -- how it ends
  have fin : ∀ {ex : Ex} {T : Tm} {s : St}, finTrue P G run fn (some (ex, T, s)) = true → ∀ (e : Exit) (a' : Act) (w' : World) (M' : Mp), ExR w' s M' ex e → TmR w' s M' T a' → Sim G W.heap.size W w' s M' →
      bodyPostM (FW none) 0 P fn (fun e W' => e = .returned (.bool true) ∧ Below W.heap.size W W') e a' w' := by
    intro ex T s h e a' w' M' q0 q1 q2
    have key : (match killAll s T.ds with | some s => isTrue (finA P G run fn T none s) | none => false) = true ∧ (ex = .normal ∨ ex = .ret) := by
      unfold finTrue at h
      split at h
      · rename_i e; cases e; exact ⟨h, .inl rfl⟩
      · rename_i e; cases e; exact ⟨h, .inr rfl⟩
      · cases h
    obtain ⟨key, hex⟩ := key
    have hl : LeavesInM (FW none) 0 P fn a'.tmps (fun e W' => e = .returned (.bool true) ∧ Below W.heap.size W W') a'.defers .returning w' := by
      split at key
      · rename_i s2 hk
        obtain ⟨dv, r1, r2⟩ := q1.defers
        rw [r2]
        refine leaves_marks hk q2 q1.dlt fun w2 g1 g2 => ?_
        cases hf : finA P G run fn T none s2 with
        | none => rw [hf] at key; cases key
        | some q =>
          obtain ⟨r, s3⟩ := q
          rw [hf] at key
          have hrt : r = .v (.bool true) := by
            unfold isTrue at key
            split at key
            · rename_i e; cases e; rfl
            · cases key
          subst hrt
          refine leavesInM_mono (fun e W' hq => ?_) (fin_sound hP hgo hf (r1.ext g2) g1 (q1.ext g2) rfl)
          obtain ⟨v, M', rfl, hvr, hs', _⟩ := Done.down hq rfl
          exact ⟨by rw [hvr.1], hs'.below⟩
      · cases key
    rcases hex with rfl | rfl
    · obtain rfl : e = .normal := q0; exact hl
    · obtain rfl : e = .ret := q0; exact hl
  cases hC : run C (F e) s1 with
  | none => rw [hC] at hb; cases hb
  | some q =>
    obtain ⟨ex, T2, s2⟩ := q
    rw [hC] at hb
    refine hgo C _ _ _ T2 s2 hC w1 M1 _ _ j2 j1 fun e2 a2 w2 M2 i0 i1 i2 i3 => ?_
    by_cases hn : ex = .normal
    · subst hn
      obtain rfl : e2 = .normal := i0
      have hb : finTrue P G run fn (run X T2 s2) = true := hb
      cases hX : run X T2 s2 with
      | none => rw [hX] at hb; cases hb
      | some q =>
        obtain ⟨ex3, T3, s3⟩ := q
        rw [hX] at hb
        exact hgo X _ _ _ T3 s3 hX w2 M2 _ _ i2 i1 fun e3 a3 w3 M3 l0 l1 l2 l3 => fin hb e3 a3 w3 M3 l0 l1 l2
    · have hb : finTrue P G run fn (some (ex, T2, s2)) = true := by
        unfold thenA at hb
        split at hb
        · rename_i e; cases e; exact absurd rfl hn
        · exact hb
      have := fin hb e2 a2 w2 M2 i0 i1 i2
      cases ex with
      | normal => exact absurd rfl hn
      | ret => obtain rfl : e2 = .ret := i0; exact this
      | exit id => cases hb
      | goto l => cases hb
      | panic y => cases hb

/-- A struct's cells, as its type allows them. -/
theorem cells_of_wide {W : World} {r : Reach} {t : TypeId} {v : Value} {fs : Array Field} {ts : List TypeId} (ht : P.underlying t = some (.struct fs)) (hts : P.cellTypes P.depth t = some ts) (hn : P.cellsOf t = ts.length)
    (h : Value.okWide P W r base t v) : ∃ cs : Array Value, v = .agg cs ∧ cs.size = ts.length ∧ ∀ (i : Nat) x u, cs[i]? = some x → ts[i]? = some u → Cell.okWide P W r base u x := by
  unfold Value.okWide at h
  rw [ht] at h
  obtain ⟨cs, rfl, hsz, ts', hts', _, hc⟩ := h
  obtain rfl := Option.some.inj (hts.symm.trans hts')
  refine ⟨cs, rfl, hsz.trans hn, fun i x u hx hu => ?_⟩
  obtain ⟨u', hu', hk⟩ := hc i x hx
  have hi : i < ts.length := (List.getElem?_eq_some_iff.1 hu).1
  rw [Nat.mod_eq_of_lt hi, hu] at hu'
  obtain rfl := Option.some.inj hu'
  exact hk
theorem wide_int {W : World} {r : Reach} {u : TypeId} {x : Value} {k : IntKind} (hu : P.underlying u = some (.int k)) (h : Cell.okWide P W r base u x) : ∃ z, x = .int k z := by
  unfold Cell.okWide Cell.ok at h
  rw [hu] at h
  cases x <;> simp_all
theorem wide_bool {W : World} {r : Reach} {u : TypeId} {x : Value} (hu : P.underlying u = some .bool) (h : Cell.okWide P W r base u x) : ∃ z, x = .bool z := by
  unfold Cell.okWide Cell.ok at h
  rw [hu] at h
  cases x <;> simp_all
theorem wide_string {W : World} {r : Reach} {u : TypeId} {x : Value} (hu : P.underlying u = some .string) (h : Cell.okWide P W r base u x) : ∃ z, x = .string z := by
  unfold Cell.okWide Cell.ok at h
  rw [hu] at h
  cases x <;> simp_all

theorem slice_of_wide {W : World} {r : Reach} {t e : TypeId} {v : Value} (ht : P.underlying t = some (.slice e)) (h : Value.okWide P W r base t v) : v = .slice none 0 0 ∨ ∃ b off len cap, v = .slice (some ⟨b, off, none⟩) len cap ∧ len ≤ cap := by
  unfold Value.okWide at h
  rw [ht] at h
  simp only at h
  unfold Cell.okWide Cell.ok at h
  rw [ht] at h
  cases v <;> try (exact h.elim)
  rename_i a len cap
  cases a with
  | none =>
    cases len <;> cases cap <;> first | exact .inl rfl | exact h.elim
  | some a =>
    obtain ⟨b, off, sp⟩ := a
    obtain ⟨h1, _, _, h2, _⟩ := h
    have h2 : sp = none := h2
    subst h2
    exact .inr ⟨b, off, len, cap, rfl, h1⟩

/-- Arguments whose world has not turned below read as they did. -/
theorem trodAll_below {H : Type} {enc : TypeId × Value → H} (hl : laidOutB P = true) {W W' : World} (hb : Below W.heap.size W W') : ∀ (ts : List TypeId) (vs : List Value) (ds : List (DataW H)) (ps : List MemPlace),
    (ts.all fun t => P.readableRec t && decide (t < P.types.size)) = true → DataW.TrodAll enc P W 0 (fun _ => true) true ts vs ds ps → (∀ x ∈ ps, x.block < W.heap.size) →
    DataW.TrodAll enc P W' 0 (fun b => decide (b < W.heap.size)) true ts vs ds ps
  | [], [], [], ps, _, h, _ => h
  | t :: ts, v :: vs, d :: ds, ps, ht, h, hlt => by
    obtain ⟨p, q, h1, h2, rfl⟩ := h
    rw [List.all_cons, Bool.and_eq_true, Bool.and_eq_true, decide_eq_true_eq] at ht
    exact ⟨p, q, Below.trod hl ht.1.1 ht.1.2 h1 hb (fun x hx => hlt x (List.mem_append_left _ hx)), trodAll_below hl hb ts vs ds q ht.2 h2 (fun x hx => hlt x (List.mem_append_right _ hx)), rfl⟩

/-- THE LAST STEP of a row 'true; the input reads as it did'. -/
theorem post_true {H : Type} {enc : TypeId × Value → H} {f : Func} {s : ChangeSpec} {apart fresh handsOn : Bool} {W W' : World} {args : Array Value} {ds gs : List (DataW H)} {before : List MemPlace} {t : TypeId}
    (hl : laidOutB P = true) (hts : (f.params.toList.all fun t => P.readableRec t && decide (t < P.types.size)) = true) (hrt : f.resultTypes = #[t]) (ht : P.underlying t = some .bool)
    (hW : DataW.Whole enc P f.params.toList s.vars apart W args.toList ds gs before) (hvars : s.vars = []) (hres : (s.fn H (ds ++ gs)).results = [.lit (.bool true)]) (hargs : (s.fn H (ds ++ gs)).args = ds) (hv : (s.fn H (ds ++ gs)).vars = [])
    (hb : Below W.heap.size W W') : s.post enc P f apart fresh handsOn false W args (.bool true) W' := by
  have hlt : ∀ p ∈ before, p.block < W.heap.size := fun p hp => hW.lt p hp
  have hW' := hW
  obtain ⟨p, q, hA, hV, rfl, hz, hn⟩ := hW
  refine ⟨ds, gs, p ++ q, [], p, [], hW', ?_, ?_, ?_, hb.frame _, fun h => by cases h⟩
  · rw [hres, hrt]
    exact trodAll_mk1 (shut_bool ht true)
  · rw [hargs]
    exact trodAll_below hl hb _ _ _ _ hts hA (fun x hx => hlt x (List.mem_append_left _ hx))
  · rw [hvars, hv]
    rfl
end Go.Ab
