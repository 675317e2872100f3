/- The evaluator against the model: regions, code, functions. -/
import Derived.Test.YtaeeblcdggjokaaDoorSxRun
import Derived.RecoverIn
namespace Go.Ab
set_option linter.unusedVariables false
set_option linter.unusedSimpArgs false
set_option linter.unusedSectionVars false
set_option linter.constructorNameAsVariable false
open Go Go.RowKit

section
variable [Interp] {P : Program} {G : Nat → Option (List AV)} {B0 : Nat} {w0 w : World} {s : St} {M : Mp}

theorem yielded_at {ops : Array Oper} {T : Tm} {a : Act} (hT : TmR w s M T a) (j : Nat) (hk : ∀ d, (ops[j]?).bind (·.dst) = some d → known (gt T d) = true) : yielded ops a.tmps j = yieldedA ops T j := by
  unfold yielded yieldedA
  cases hd : (ops[j]?).bind (·.dst) with
  | none => simp
  | some d =>
    simp only [Option.bind_some]
    have hv := hT.get d
    have hkd := hk d hd
    rw [Array.getD_eq_getD_getElem?] at hv
    cases ht : a.tmps[d]? with
    | none =>
      rw [ht] at hv
      simp only [Option.getD_none] at hv
      split
      · rename_i h; cases h
      · split
        · rename_i b hg; rw [hg] at hv; have := (VR_v.1 hv).1; cases this
        · rfl
    | some v =>
      rw [ht] at hv
      simp only [Option.getD_some] at hv
      split
      · rename_i b hb
        cases hb
        split
        · rename_i b' hg; rw [hg] at hv; have := (VR_v.1 hv).1; cases this; rfl
        · rename_i hno
          exfalso
          generalize gt T d = x at hv hno hkd
          cases x with
          | v y => obtain ⟨rfl, _⟩ := VR_v.1 hv; exact hno _ rfl
          | ref _ => unfold VR at hv; obtain ⟨_, _, e, _⟩ := hv; cases e
          | box _ _ => unfold VR at hv; cases hv.2
          | sl _ _ _ => unfold VR at hv; obtain ⟨_, _, _, e, _⟩ := hv; cases e
          | ms _ _ _ => unfold VR at hv; obtain ⟨_, _, _, e⟩ := hv; cases e
          | e0 => unfold VR at hv; obtain ⟨_, _, e⟩ := hv; cases e
          | mg _ _ => unfold VR at hv; cases hv.2.2
          | iface _ _ => unfold VR at hv; obtain ⟨_, e, _⟩ := hv; cases e
          | pan _ => unfold VR at hv; exact hv.elim
          | any => cases hkd
          | x _ _ => cases hkd
          | d _ _ _ => rcases VR_d hv with ⟨_, _, _, e⟩ | ⟨_, _, _, _, _, e, _⟩ <;> cases e
          | rd _ _ _ => unfold VR at hv; obtain ⟨_, _, _, e, _⟩ := hv; cases e
          | so _ _ _ _ => unfold VR at hv; obtain ⟨_, _, _, _, _, _, e, _⟩ := hv; cases e
          | po _ _ => unfold VR at hv; obtain ⟨_, _, _, e⟩ := hv; cases e
          | sy _ _ => unfold VR at hv; exact hv.2.2.1 _ hv.1.symm
          | mp _ => unfold VR at hv; cases hv.2
          | fn _ _ _ => unfold VR at hv; obtain ⟨_, _, _, e, _⟩ := hv; cases e
          | agg _ => unfold VR at hv; obtain ⟨_, e, _⟩ := hv; cases e
          | tup _ => unfold VR at hv; obtain ⟨_, e, _⟩ := hv; cases e
      · rename_i hno
        split
        · rename_i b hg; rw [hg] at hv; have := (VR_v.1 hv).1; subst this; exact absurd rfl (hno b)
        · rfl

theorem fetch_some {ops : Array Oper} {T : Tm} {i : Nat} {o : Oper} (h : fetch ops T i = some o) : ops[i]? = some o ∧ gk ops T o = true := by
  unfold fetch at h
  split at h
  · rename_i o' ho
    split at h
    · rename_i hg; cases h; exact ⟨ho, hg⟩
    · cases h
  · cases h
theorem fetch_of {ops : Array Oper} {T : Tm} {i : Nat} {o : Oper} (h : ops[i]? = some o) (hg : gk ops T o = true) : fetch ops T i = some o := by
  unfold fetch
  rw [h]
  simp only [hg, if_true]
theorem yielded_eq {ops : Array Oper} {T : Tm} {a : Act} (hT : TmR w s M T a) {o : Oper} (hg : gk ops T o = true) : Region.wanted o (yielded ops a.tmps) = Region.wanted o (yieldedA ops T) := by
  unfold gk at hg
  unfold Region.wanted
  cases hgd : o.guard with
  | none => rfl
  | some q =>
    obtain ⟨j, want⟩ := q
    rw [hgd] at hg
    simp only at hg ⊢
    rw [yielded_at hT j fun d hd => by rw [hd] at hg; exact hg]

def exOf : Ex → Exit
  | .normal => .normal
  | .exit id => .exit id
  | .goto l => .goto l
  | .ret => .ret
  | .panic _ => .normal
/-- How code ends. -/
def ExR (w : World) (s : St) (M : Mp) (ex : Ex) (e : Exit) : Prop :=
  match ex with
  | .panic y => ∃ v, e = .panic [{ v, recovered := false }] ∧ VR w s M y v
  | ex => e = exOf ex
def PE (w : World) (s : St) (M : Mp) (p : Option AV) (e : Exit) : Prop :=
  match p with
  | none => e = .normal
  | some y => ∃ v, e = .panic [{ v, recovered := false }] ∧ VR w s M y v

theorem deferA_sound (hs : Sim G B0 w0 w s M) {T : Tm} {a : Act} (hT : TmR w s M T a) {c : Go.Call} {d : Nat × List AV × List AV} (h : deferA G T c = some d) (ty : TypeId) :
    ∃ (args cap : Array Value), (resolve a.eval c ty).run P w = .ok { target := .fn (.func d.1) cap, args := args } w ∧ VRl w s M d.2.1 args.toList ∧ VRl w s M d.2.2 cap.toList := by
  unfold deferA at h
  split at h
  · rename_i f hc
    simp only [Option.bind_eq_bind, Option.bind_eq_some_iff] at h
    obtain ⟨cf, h1, h⟩ := h
    split at h
    · rename_i g first captured
      simp only [Option.bind_eq_some_iff, Option.pure_def, Option.some.injEq] at h
      obtain ⟨args, h2, rfl⟩ := h
      have vf := opd_sound hs hT h1
      have va := opds_sound hs hT h2
      unfold VR at vf
      obtain ⟨f', p', q', ef, e2, k1, k2⟩ := vf
      simp only [renFn, Option.some.injEq] at e2
      subst e2
      refine ⟨p' ++ c.args.map a.eval, q', ?_, ?_, k2⟩
      · simp only [resolve, hc, ef, Deferred.ofValue, Sem.run_pure]
      · rw [Array.toList_append, Array.toList_map]
        exact k1.append va
    · cases h
  · cases h

theorem ops_sound {call : Ab.Call} (hP : NoNum P) (hcall : CallOk P G B0 w0 call) {ops : Array Oper} {dok : Bool} {ro : Option Nat} (hro : dok = true → ro = none) : ∀ {l : List Nat} {T T' : Tm} {s s' : St} {p : Option AV} {w : World} {M : Mp} {a : Act} {Q : Exit → Act → World → Prop}, evOps P G call dok ops l T s = some (p, T', s') →
    Sim G B0 w0 w s M → TmR w s M T a → (∀ e a' w' M', PE w' s' M' p e → TmR w' s' M' T' a' → Sim G B0 w0 w' s' M' → Ext w s M w' s' M' → Q e a' w') → wpOpsIn (FW ro) 0 P ops Q l a w
  | [], T, T', s, s', p, w, M, a, Q, h, hs, hT, hq => by
    simp only [evOps, Option.some.injEq, Prod.mk.injEq] at h
    obtain ⟨rfl, rfl, rfl⟩ := h
    exact hq _ a w M rfl hT hs (Ext.refl _ _ _)
  | i :: rest, T, T', s, s', p, w, M, a, Q, h, hs, hT, hq => by
    unfold evOps at h
    unfold wpOpsIn
    cases hfo : fetch ops T i with
    | none => rw [hfo] at h; cases h
    | some o =>
      obtain ⟨ho, hgk⟩ := fetch_some hfo
      rw [hfo] at h
      rw [ho]
      simp only at h ⊢
      have hy : Region.wanted o (yielded ops a.tmps) = Region.wanted o (yieldedA ops T) := yielded_eq hT hgk
      rw [hy]
      split at h
      · rename_i hw
        rw [if_pos hw]
        split at h
        · -- a call is put off
          rename_i c hop
          split at h
          · rename_i d hds hdst hda
            have hn := hro rfl
            subst hn
            obtain ⟨args, cap, hr, h1, h2⟩ := deferA_sound (P := P) hs hT hda o.type
            refine ⟨fun _ _ => trivial, ?_⟩
            have hrun : ((o.semAt (FW none).round a.eval).run P w) = .ok (.defer { target := .fn (.func d.1) cap, args := args }) w := by
              show ((Oper.semAt none a.eval o).run P w) = _
              simp only [Oper.semAt_none, execOp, hop, Sem.run_bind, hr, Result.andThen_ok, Sem.run_pure]
            rw [hrun, Oper.uponIn_defer, hdst]
            refine ops_sound hP hcall hro h hs (a := { a with defers := _ :: a.defers }) ⟨hT.size, hT.get, ?_, by rw [hds]; exact fun d hd => by cases hd⟩ hq
            obtain ⟨dv, e1, e2⟩ := hT.defers
            rw [hds] at e2
            refine ⟨{ target := .fn (.func d.1) cap, args := args } :: dv, ?_, ?_⟩
            · obtain ⟨g, xs, ys⟩ := d
              exact ⟨args, cap, dv, rfl, h1, h2, e1⟩
            · rw [hds, e2]; rfl
          · cases h
        · rename_i hnd
          split at h
          · rename_i x s1 hx
            refine ⟨fun _ _ => trivial, ?_⟩
            rw [Oper.semAt_eq _ _ _ hnd]
            split at h
            · rename_i y hpan
              simp only [Option.some.injEq, Prod.mk.injEq] at h
              obtain ⟨rfl, rfl, rfl⟩ := h
              refine op_sound hP hcall hs hT hx ro _ _ (fun v w1 M1 hv hs1 hE => ?_) fun y' v w1 M1 hy' hv hs1 hE => ?_
              · exfalso
                cases x <;> simp only [isPan, reduceCtorEq] at hpan
                unfold VR at hv
                exact hv
              · rw [hpan] at hy'; cases hy'
                exact hq _ a w1 M1 ⟨v, rfl, hv⟩ (hT.ext hE) hs1 hE
            · rename_i hpan
              split at h
              · rename_i T1 hp
                refine op_sound hP hcall hs hT hx ro _ _ (fun v w1 M1 hv hs1 hE => ?_) fun y' v w1 M1 hy' hv hs1 hE => by rw [hpan] at hy'; cases hy'
                exact ops_sound hP hcall hro h hs1 ((hT.ext hE).put hp hv) fun e a' w' M' k0 k1 k2 k3 => hq e a' w' M' k0 k1 k2 (hE.trans k3)
              · cases h
          · cases h
      · rename_i hw
        rw [if_neg hw]
        split at h
        · rename_i T1 hp
          exact ⟨fun _ _ => trivial, ops_sound hP hcall hro h hs (hT.put hp VR_und) hq⟩
        · cases h

def DrawnOk (P : Program) (G : Nat → Option (List AV)) (B0 : Nat) (w0 : World) (d : Drawn) : Prop :=
  ∀ ops T s p T' s', d ops T s = some (p, T', s') → ∀ (w : World) (M : Mp) (a : Act) (Q : Exit → Act → World → Prop), Sim G B0 w0 w s M → TmR w s M T a →
    (∀ e a' w' M', PE w' s' M' p e → TmR w' s' M' T' a' → Sim G B0 w0 w' s' M' → Ext w s M w' s' M' → Q e a' w') → ∀ (ro : Option Nat) t, wpOpsIn (FW ro) 0 P ops Q (Region.schedule (P.follows .mixedOrders) ops t) a w.drew

/-- A scope through which the run jumps. -/
def jumpRounds (P : Program) (b : Code) (Q : Exit → Act → World → Prop) : Nat → Code → Act → World → Prop
  | 0, _, _, _ => False
  | n + 1, c, a, w => c.wpIn (FW none) 0 P (fun e a w => match e with | .goto l => ∃ rest, findLabel b l = some rest ∧ jumpRounds P b Q n rest a w | e => Q e a w) a w
theorem wp_scope_rounds {b : Code} {Q : Exit → Act → World → Prop} {a : Act} {w : World} (n : Nat) (h : jumpRounds P b Q n b a w) : (Code.scope b).wpIn (FW none) 0 P Q a w := by
  intro fr k cs hro hb hr
  have hro' : fr.roundOf = none := hro
  have calm : ∀ (a : Act) (td : List Item) (w : World), (lone (fr.atR a td) cs w).fenced P (FW none) := fun a td w => fenced_wide P _
  have s1 : ∀ (c : Code) (a : Act) (w : World), step P (lone (fr.atR a (.code (.scope c) :: k)) cs w) = .next (lone (fr.atR a (.code c :: .inScope c :: k)) cs w) := fun c a w => by
    rw [Frame.atR_of_none hro', Frame.atR_of_none hro']; exact step_scope
  have s2 : ∀ (c : Code) (a : Act) (w : World), step P (lone (fr.atR a (.inScope c :: k)) cs w) = .next (lone (fr.atR a k) cs w) := fun c a w => by
    rw [Frame.atR_of_none hro', Frame.atR_of_none hro']; exact step_inScope
  have key : ∀ n c a w, jumpRounds P b Q n c a w → ∃ e a' w', Q e a' w' ∧ ArrivesIn (Machine.fenced P (FW none)) P (lone (fr.atR a (.code c :: .inScope b :: k)) cs w) fr k cs e a' w' := by
    intro n
    induction n with
    | zero => intro c a w h; exact h.elim
    | succ n ih =>
      intro c a w h
      obtain ⟨e, a₁, w₁, hq, harr⟩ := h fr (.inScope b :: k) cs hro hb hr
      cases e with
      | normal => exact ⟨.normal, a₁, w₁, hq, StepsIn.trans harr (.one (calm _ _ _) (s2 _ _ _))⟩
      | exit id => exact ⟨.exit id, a₁, w₁, hq, fun k' hk => harr.1 k' (by simp [exitTo, hk]), fun hs => by rw [hro'] at hs; cases hs⟩
      | goto l =>
        obtain ⟨rest, hf, hr'⟩ := hq
        obtain ⟨e₂, a₂, w₂, hq₂, harr₂⟩ := ih rest a₁ w₁ hr'
        exact ⟨e₂, a₂, w₂, hq₂, .of_steps (harr.1 _ (by simp [gotoIn, hf])) harr₂⟩
      | ret => exact ⟨_, a₁, w₁, hq, harr.1, fun hs => by rw [hro'] at hs; cases hs⟩
      | panic ch => exact ⟨_, a₁, w₁, hq, harr⟩
      | outgrown => exact ⟨_, a₁, w₁, hq, harr⟩
  obtain ⟨e, a', w', hq, harr⟩ := key n b a w h
  exact ⟨e, a', w', hq, .of_steps (.one (calm _ _ _) (s1 _ _ _)) harr⟩

def Goes (P : Program) (G : Nat → Option (List AV)) (B0 : Nat) (w0 : World) (ro : Option Nat) (self : Code → Tm → St → Option (Ex × Tm × St)) : Prop :=
  ∀ c T s ex T' s', self c T s = some (ex, T', s') → ∀ (w : World) (M : Mp) (a : Act) (Q : Exit → Act → World → Prop), Sim G B0 w0 w s M → TmR w s M T a →
    (∀ e a' w' M', ExR w' s' M' ex e → TmR w' s' M' T' a' → Sim G B0 w0 w' s' M' → Ext w s M w' s' M' → Q e a' w') → c.wpIn (FW ro) 0 P Q a w

theorem cnd_sound (hs : Sim G B0 w0 w s M) {T : Tm} {a : Act} (hT : TmR w s M T a) {x : Operand} {b : Bool} (h : cnd G T s x = some b) : a.eval x = .bool b := by
  unfold cnd at h
  split at h
  · rename_i b' hc
    cases h
    exact (VR_v.1 (opd_sound hs hT hc)).1
  · rename_i e hc
    have hv := opd_sound hs hT hc
    unfold VR at hv
    obtain ⟨h1, h2⟩ := hv
    generalize a.eval x = v at h1 h2
    cases v <;> simp only [tyV, Bool.false_eq_true] at h2
    rename_i b'
    have := ask_sound hs (e := e) (b := b') h1 h
    rw [this]
  · cases h
theorem scope_sound {self : Code → Tm → St → Option (Ex × Tm × St)} (hself : Goes P G B0 w0 none self) {b : Code} : ∀ {n : Nat} {c : Code} {T T' : Tm} {s s' : St} {ex : Ex}, evScope self b n c T s = some (ex, T', s') → ∀ (w : World) (M : Mp) (a : Act) (Q : Exit → Act → World → Prop), Sim G B0 w0 w s M → TmR w s M T a →
    (∀ e a' w' M', ExR w' s' M' ex e → TmR w' s' M' T' a' → Sim G B0 w0 w' s' M' → Ext w s M w' s' M' → Q e a' w') → jumpRounds P b Q n c a w
  | 0, c, T, T', s, s', ex, h, w, M, a, Q, hs, hT, hq => by cases h
  | n + 1, c, T, T', s, s', ex, h, w, M, a, Q, hs, hT, hq => by
    unfold evScope at h
    unfold jumpRounds
    split at h
    · rename_i l T1 s1 hc
      split at h
      · rename_i rest hf
        refine hself c T s _ T1 s1 hc w M a _ hs hT fun e1 a1 w1 M1 k0 k1 k2 k3 => ?_
        obtain rfl : e1 = .goto l := k0
        exact ⟨rest, hf, scope_sound hself h w1 M1 a1 Q k2 k1 fun e a' w' M' j0 j1 j2 j3 => hq e a' w' M' j0 j1 j2 (k3.trans j3)⟩
      · cases h
    · rename_i hno
      refine hself c T s ex T' s' h w M a _ hs hT fun e1 a' w' M' k0 k1 k2 k3 => ?_
      have k := hq e1 a' w' M' k0 k1 k2 k3
      cases ex with
      | goto l => exact absurd h (hno l T' s')
      | normal => obtain rfl : e1 = .normal := k0; exact k
      | exit id => obtain rfl : e1 = .exit id := k0; exact k
      | ret => obtain rfl : e1 = .ret := k0; exact k
      | panic y => obtain ⟨v, rfl, _⟩ := k0; exact k

theorem sim_loop (hs : Sim G B0 w0 w s M) {l : Nat} {T : Tm} {ps : List Nat} {asg body : Code} {st st' : LoopState} {pend pend' : Option Code} (hl : l < s.n) (hg : s.get l = some (.loop T ps asg body st pend)) {rc : Loop} (hrc : w.heap[M.blk l]? = some (.loop rc)) :
    Sim G B0 w0 (w.putObj (M.blk l) (.loop { rc with state := st', pending := pend' })) (s.put l (.loop T ps asg body st' pend')) M ∧ Ext w s M (w.putObj (M.blk l) (.loop { rc with state := st', pending := pend' })) (s.put l (.loop T ps asg body st' pend')) M := by
  have hlt := (hs.blk l hl).2
  have h1 : (w.putObj (M.blk l) (.loop { rc with state := st', pending := pend' })).heap[M.blk l]? = some (.loop { rc with state := st', pending := pend' }) := World.putObj_heap_same hlt
  have h2 : ∀ k, k ≠ M.blk l → (w.putObj (M.blk l) (.loop { rc with state := st', pending := pend' })).heap[k]? = w.heap[k]? := fun k hk => World.putObj_heap_other hk
  have hE : Ext w s M (w.putObj (M.blk l) (.loop { rc with state := st', pending := pend' })) (s.put l (.loop T ps asg body st' pend')) M := ext_write hs hl hg (fun _ _ => by simp) trivial (fun _ _ => by simp) trivial h2 (by simp [World.putObj])
  obtain ⟨rc', a1, a2, a3, a4, a5, a6, a7, a8⟩ := hs.obj l _ hl hg
  rw [hrc] at a1; cases a1
  refine ⟨sim_write hs hl hg (fun _ _ => by simp) trivial (fun _ _ => by simp) trivial h2 (hs.below.trans ⟨rfl, rfl, rfl, by simp [World.putObj], fun k hk => h2 k (by have := (hs.blk l hl).1; omega)⟩) (by simp [World.putObj]) ?_, hE⟩
  exact ⟨_, h1, rfl, rfl, a4, a5, a6, a7, fun t => (a8 t).ext hE⟩

set_option maxHeartbeats 1000000 in
theorem range_sound {call : Ab.Call} (hP : NoNum P) (hcall : CallOk P G B0 w0 call) {T : Tm} {a : Act} {f : Operand} {ps : Array Tmp} {asg body : Code} {g : FuncId} {first captured : List AV} {r3 : AV} {s3 : St} {T1 : Tm} {ps1 : List Nat} {asg1 body1 : Code} {st : LoopState} {pend : Option Code} {Q : Exit → Act → World → Prop}
    (hs : Sim G B0 w0 w s M) (hT : TmR w s M T a) (hle : s.n + 2 ≤ Tr.lid) (hf : opd G T f = some (.fn (.func g) first captured))
    (hcl : callB P call g (first ++ [.fn (.yield (s.n + 1)) [] []] ++ captured) ((s.new .defs).new (.loop T ps.toList asg body .ready none)) = some (r3, s3)) (hg3 : s3.get (s.n + 1) = some (.loop T1 ps1 asg1 body1 st pend)) (hnb : st ≠ .busy)
    (hq : ∀ a' w' M', TmR w' (s3.put (s.n + 1) (.loop T1 ps1 asg1 body1 .exhausted pend)) M' { T with ds := s.n :: T.ds } a' → Sim G B0 w0 w' (s3.put (s.n + 1) (.loop T1 ps1 asg1 body1 .exhausted pend)) M' → Ext w s M w' (s3.put (s.n + 1) (.loop T1 ps1 asg1 body1 .exhausted pend)) M' →
      match (generalizing := false) pend with
      | none => Q .normal a' w'
      | some c => c.wpIn (FW none) 0 P Q a' w') : (Code.rangeFunc f ps asg body).wpIn (FW none) 0 P Q a w := by
  have vf := opd_sound hs hT hf
  unfold VR at vf
  obtain ⟨f', p', q', ef, e2, k1, k2⟩ := vf
  simp only [renFn, Option.some.injEq] at e2
  subst e2
  refine wpIn_rangeFunc fun fn _ => ?_
  -- the two blocks
  have hb1 : s.n < Tr.lid := by omega
  have hE1 := ext_new (w := w) (M := M) hb1 (fun i hi => (hs.blk i hi).2) (.deferred (some [])) .defs 0
  have hs1 := sim_new hs hb1 (.deferred (some [])) .defs 0 (heap_new _ _)
  have hb2 : (s.new .defs).n < Tr.lid := by show s.n + 1 < Tr.lid; omega
  let rc : Loop := { state := .ready, pending := none, fn, tmps := a.tmps, params := ps, assign := asg, body, defers := w.heap.size }
  have hE2 := ext_new (w := w.alloc (.deferred (some []))) (s := s.new .defs) (M := M.add s.n w.heap.size 0) hb2 (fun i hi => (hs1.blk i hi).2) (.loop rc) (.loop T ps.toList asg body .ready none) 0
  have hs2 := sim_new hs1 hb2 (.loop rc) (.loop T ps.toList asg body .ready none) 0 ⟨rc, heap_new _ _, rfl, rfl, rfl, rfl, rfl, hT.size, fun t => ((hT.get t).ext hE1).ext hE2⟩
  have hE12 := hE1.trans hE2
  have hM1 : ((M.add s.n w.heap.size 0).add (s.new .defs).n (w.alloc (.deferred (some []))).heap.size 0).blk (s.n + 1) = w.heap.size + 1 := by simp [Mp.add, St.new]
  have hM0 : ((M.add s.n w.heap.size 0).add (s.new .defs).n (w.alloc (.deferred (some []))).heap.size 0).blk s.n = w.heap.size := by simp [Mp.add, St.new]
  have hvl : VRl ((w.alloc (.deferred (some []))).alloc (.loop rc)) ((s.new .defs).new (.loop T ps.toList asg body .ready none)) ((M.add s.n w.heap.size 0).add (s.new .defs).n (w.alloc (.deferred (some []))).heap.size 0) (first ++ [.fn (.yield (s.n + 1)) [] []] ++ captured) (p' ++ #[Value.func (.yield (w.heap.size + 1)) #[] #[]] ++ q').toList := by
    rw [Array.toList_append, Array.toList_append]
    refine ((k1.ext hE12).append ?_).append (k2.ext hE12)
    refine VRl_cons ?_ VRl_nil
    unfold VR
    refine ⟨_, #[], #[], rfl, ?_, VRl_nil, VRl_nil⟩
    simp only [renFn]
    rw [if_pos (by simp [St.new]), hM1]
  obtain ⟨hinv, hcalls⟩ := callB_calls hP hcall hs2 hvl hcl
  have hres : (resolve a.eval (rangeCall f (w.heap.size + 1)) 0).run P ((w.alloc (.deferred (some []))).alloc (.loop rc)) = .ok { target := .fn (.func g) q', args := p' ++ #[Value.func (.yield (w.heap.size + 1)) #[] #[]] } ((w.alloc (.deferred (some []))).alloc (.loop rc)) := by
    simp only [resolve, rangeCall, ef, Deferred.ofValue, Sem.run_pure]
    simp [Act.eval]
  refine ⟨w.heap.size + 1, [{ target := .collected w.heap.size, args := #[] }], (w.alloc (.deferred (some []))).alloc (.loop rc), { target := .fn (.func g) q', args := p' ++ #[Value.func (.yield (w.heap.size + 1)) #[] #[]] }, (w.alloc (.deferred (some []))).alloc (.loop rc), g, p' ++ #[Value.func (.yield (w.heap.size + 1)) #[] #[]] ++ q', (w.alloc (.deferred (some []))).alloc (.loop rc), run_enterLoop_outer fn a.tmps ps asg body, hres, fun _ _ => trivial, hinv, fun h => (by cases h), hcalls.mono ?_⟩
  rintro e w3 ⟨v, M3, rfl, j1, j2, j3⟩
  · have hn3 : s.n + 1 < s3.n := Nat.lt_of_lt_of_le (show s.n + 1 < s.n + 1 + 1 by omega) j3.n
    have hm3 := (j3.map (s.n + 1) (show s.n + 1 < s.n + 1 + 1 by omega)).1
    have hm30 := (j3.map s.n (show s.n < s.n + 1 + 1 by omega)).1
    rw [hM1] at hm3
    rw [hM0] at hm30
    obtain ⟨rc3, a1, a2, a3, _⟩ := j2.obj _ _ hn3 hg3
    subst a3
    rw [hm3] at a1
    obtain ⟨hs4, hE4⟩ := sim_loop (st' := .exhausted) (pend' := rc3.pending) j2 hn3 hg3 (rc := rc3) (by rw [hm3]; exact a1)
    rw [hm3] at hs4 hE4
    refine ⟨rc3.pending, _, run_endLoop a1 (by rw [a2]; exact hnb), ?_⟩
    have hEall : Ext w s M _ _ _ := (hE12.trans j3).trans hE4
    have hTm := hT.ext hEall
    have := hq { a with defers := [{ target := .collected w.heap.size, args := #[] }] ++ a.defers } _ M3 ⟨hTm.size, hTm.get, by
        obtain ⟨dv, q1, q2⟩ := hTm.defers
        refine ⟨dv, q1, ?_⟩
        show { target := .collected w.heap.size, args := #[] } :: a.defers = { target := .collected (M3.blk s.n), args := #[] } :: ((T.ds.map fun d => ({ target := .collected (M3.blk d), args := #[] } : Deferred)) ++ dv)
        rw [hm30, q2], fun d hd => by
        rw [List.mem_cons] at hd
        rcases hd with rfl | hd
        · show s.n < s3.n; omega
        · exact hTm.dlt d hd⟩ hs4 hEall
    exact this

theorem code_sound {D : Ab.Call → Drawn} {call : Ab.Call} (hP : NoNum P) (hcall : CallOk P G B0 w0 call) (hD : DrawnOk P G B0 w0 (D call)) {rb : Bool} {ro : Option Nat} (hro : rb = false → ro = none) : ∀ (k : Nat), Goes P G B0 w0 ro (evCode P G D call rb k) ∧
    (∀ b T s ex T' s', evCode P G D call rb k (.loop b) T s = some (ex, T', s') → ∀ (w : World) (M : Mp) (a : Act) (Q : Exit → Act → World → Prop), Sim G B0 w0 w s M → TmR w s M T a →
      (∀ e a' w' M', ExR w' s' M' ex e → TmR w' s' M' T' a' → Sim G B0 w0 w' s' M' → Ext w s M w' s' M' → Q e a' w') → Code.roundsIn (FW ro) 0 P b Q k a w)
  | 0 => by refine ⟨fun c T s ex T' s' h => ?_, fun b T s ex T' s' h => ?_⟩ <;> cases h
  | k + 1 => by
    obtain ⟨ih, ihl⟩ := code_sound hP hcall hD hro k
    have hloop : ∀ b T s ex T' s', evCode P G D call rb (k + 1) (.loop b) T s = some (ex, T', s') → ∀ (w : World) (M : Mp) (a : Act) (Q : Exit → Act → World → Prop), Sim G B0 w0 w s M → TmR w s M T a →
        (∀ e a' w' M', ExR w' s' M' ex e → TmR w' s' M' T' a' → Sim G B0 w0 w' s' M' → Ext w s M w' s' M' → Q e a' w') → Code.roundsIn (FW ro) 0 P b Q (k + 1) a w := by
      intro b T s ex T' s' h w M a Q hs hT hq
      unfold evCode at h
      simp only at h
      rw [roundsIn_succ]
      split at h
      · rename_i T1 s1 hb
        refine ih b T s _ T1 s1 hb w M a _ hs hT fun e1 a1 w1 M1 k0 k1 k2 k3 => ?_
        obtain rfl : e1 = .normal := k0
        exact ihl b T1 s1 ex T' s' h w1 M1 a1 Q k2 k1 fun e a' w' M' j0 j1 j2 j3 => hq e a' w' M' j0 j1 j2 (k3.trans j3)
      · rename_i hno
        refine ih b T s ex T' s' h w M a _ hs hT fun e1 a' w' M' k0 k1 k2 k3 => ?_
        have k := hq e1 a' w' M' k0 k1 k2 k3
        cases ex with
        | normal => exact absurd h (hno T' s')
        | goto l => obtain rfl : e1 = .goto l := k0; exact k
        | exit id => obtain rfl : e1 = .exit id := k0; exact k
        | ret => obtain rfl : e1 = .ret := k0; exact k
        | panic y => obtain ⟨v, rfl, _⟩ := k0; exact k
    refine ⟨fun c T s ex T' s' h w M a Q hs hT hq => ?_, hloop⟩
    have h0 := h
    unfold evCode at h
    cases c with
    | skip => simp only [Option.some.injEq, Prod.mk.injEq] at h; obtain ⟨rfl, rfl, rfl⟩ := h; exact wpIn_skip (hq _ a w M rfl hT hs (Ext.refl _ _ _))
    | label l => simp only [Option.some.injEq, Prod.mk.injEq] at h; obtain ⟨rfl, rfl, rfl⟩ := h; exact wpIn_label (hq _ a w M rfl hT hs (Ext.refl _ _ _))
    | exit id => simp only [Option.some.injEq, Prod.mk.injEq] at h; obtain ⟨rfl, rfl, rfl⟩ := h; exact wpIn_exit (hq _ a w M rfl hT hs (Ext.refl _ _ _))
    | goto l => simp only [Option.some.injEq, Prod.mk.injEq] at h; obtain ⟨rfl, rfl, rfl⟩ := h; exact wpIn_goto (hq _ a w M rfl hT hs (Ext.refl _ _ _))
    | ret => simp only [Option.some.injEq, Prod.mk.injEq] at h; obtain ⟨rfl, rfl, rfl⟩ := h; exact wpIn_ret (hq _ a w M rfl hT hs (Ext.refl _ _ _))
    | region id ops draw =>
      simp only at h
      cases draw with
      | true =>
        simp only [if_true] at h
        split at h
        · rename_i T1 s1 h1
          simp only [Option.some.injEq, Prod.mk.injEq] at h
          obtain ⟨rfl, rfl, rfl⟩ := h
          exact wpIn_region_draw (hD ops T s _ T1 s1 h1 w M a Q hs hT (fun e a' w' M' k0 k1 k2 k3 => hq e a' w' M' k0 k1 k2 k3) ro)
        · rename_i y T1 s1 h1
          simp only [Option.some.injEq, Prod.mk.injEq] at h
          obtain ⟨rfl, rfl, rfl⟩ := h
          exact wpIn_region_draw (hD ops T s _ T1 s1 h1 w M a Q hs hT (fun e a' w' M' k0 k1 k2 k3 => hq e a' w' M' k0 k1 k2 k3) ro)
        · cases h
      | false =>
        simp only [Bool.false_eq_true, if_false] at h
        have hdk : (!rb) = true → ro = none := fun h => hro (by simpa using h)
        split at h
        · rename_i T1 s1 h1
          simp only [Option.some.injEq, Prod.mk.injEq] at h
          obtain ⟨rfl, rfl, rfl⟩ := h
          exact wpIn_region (ops_sound hP hcall hdk h1 hs hT fun e a' w' M' k0 k1 k2 k3 => hq e a' w' M' k0 k1 k2 k3)
        · rename_i y T1 s1 h1
          simp only [Option.some.injEq, Prod.mk.injEq] at h
          obtain ⟨rfl, rfl, rfl⟩ := h
          exact wpIn_region (ops_sound hP hcall hdk h1 hs hT fun e a' w' M' k0 k1 k2 k3 => hq e a' w' M' k0 k1 k2 k3)
        · cases h
    | seq x y =>
      simp only at h
      refine wpIn_seq ?_
      split at h
      · rename_i T1 s1 hb
        refine ih x T s _ T1 s1 hb w M a _ hs hT fun e1 a1 w1 M1 k0 k1 k2 k3 => ?_
        obtain rfl : e1 = .normal := k0
        exact ih y T1 s1 ex T' s' h w1 M1 a1 Q k2 k1 fun e a' w' M' j0 j1 j2 j3 => hq e a' w' M' j0 j1 j2 (k3.trans j3)
      · rename_i hno
        refine ih x T s ex T' s' h w M a _ hs hT fun e1 a' w' M' k0 k1 k2 k3 => ?_
        have k := hq e1 a' w' M' k0 k1 k2 k3
        cases ex with
        | normal => exact absurd h (hno T' s')
        | goto l => obtain rfl : e1 = .goto l := k0; exact k
        | exit id => obtain rfl : e1 = .exit id := k0; exact k
        | ret => obtain rfl : e1 = .ret := k0; exact k
        | panic y => obtain ⟨v, rfl, _⟩ := k0; exact k
    | cond c x y =>
      simp only at h
      split at h
      · rename_i hc
        exact wpIn_cond_true (cnd_sound hs hT hc) (ih x T s ex T' s' h w M a Q hs hT hq)
      · rename_i hc
        exact wpIn_cond_false (cnd_sound hs hT hc) (ih y T s ex T' s' h w M a Q hs hT hq)
      · cases h
    | block id b =>
      simp only at h
      refine wpIn_block ?_
      split at h
      · rename_i i T1 s1 hb
        refine ih b T s _ T1 s1 hb w M a _ hs hT fun e1 a1 w1 M1 k0 k1 k2 k3 => ?_
        obtain rfl : e1 = .exit i := k0
        simp only [Exit.inBlock]
        split at h
        · rename_i e
          simp only [Option.some.injEq, Prod.mk.injEq] at h; obtain ⟨rfl, rfl, rfl⟩ := h
          rw [if_pos e]; exact hq _ a1 w1 M1 rfl k1 k2 k3
        · rename_i e
          simp only [Option.some.injEq, Prod.mk.injEq] at h; obtain ⟨rfl, rfl, rfl⟩ := h
          rw [if_neg e]; exact hq _ a1 w1 M1 rfl k1 k2 k3
      · rename_i hno
        refine ih b T s ex T' s' h w M a _ hs hT fun e1 a' w' M' k0 k1 k2 k3 => ?_
        have k := hq e1 a' w' M' k0 k1 k2 k3
        cases ex with
        | exit i => exact absurd h (hno i T' s')
        | normal => obtain rfl : e1 = .normal := k0; exact k
        | goto l => obtain rfl : e1 = .goto l := k0; exact k
        | ret => obtain rfl : e1 = .ret := k0; exact k
        | panic y => obtain ⟨v, rfl, _⟩ := k0; exact k
    | loop b => exact wpIn_loop_rounds (k + 1) (hloop b T s ex T' s' h0 w M a Q hs hT hq)
    | scope b =>
      simp only at h
      split at h
      · cases h
      · rename_i hrb
        have hn := hro (by simpa using hrb)
        subst hn
        exact wp_scope_rounds k (scope_sound ih h w M a Q hs hT hq)
    | rangeFunc f ps asg body =>
      simp only at h
      split at h
      · cases h
      · rename_i hc
        simp only [Bool.or_eq_true, Bool.not_eq_true', not_or, Bool.not_eq_true, Bool.not_eq_false] at hc
        obtain ⟨hrb, hle⟩ := hc
        have hle := Nat.le_of_ble_eq_true hle
        have hn := hro hrb
        subst hn
        split at h
        · rename_i g first captured hf
          split at h
          · rename_i r3 s3 hcl
            split at h
            · rename_i T1 ps1 asg1 body1 st pend hg3
              split at h
              · cases h
              · rename_i hnb
                exact range_sound hP hcall hs hT hle hf hcl hg3 (by simpa using hnb) (fun a' w' M' k1 k2 k3 => by
                  cases pend with
                  | none =>
                    simp only [Option.some.injEq, Prod.mk.injEq] at h
                    obtain ⟨rfl, rfl, rfl⟩ := h
                    exact hq _ a' w' M' rfl k1 k2 k3
                  | some c => exact ih c _ _ ex T' s' h w' M' a' Q k2 k1 fun e a2 w2 M2 j0 j1 j2 j3 => hq e a2 w2 M2 j0 j1 j2 (k3.trans j3))
            · cases h
          · cases h
        · cases h
    | refuse _ => cases h

/-! ### Functions -/
theorem initF_get : ∀ (l : List AV) (i t : Nat), i + l.length ≤ Tr.lid → (initF l i).get t = if t < i then none else l[t - i]?
  | [], i, t, h => by simp [initF, Tr.get]
  | x :: r, i, t, h => by
    simp only [List.length_cons] at h
    rw [initF, Tr.get_set _ _ _ _ (by omega), initF_get r (i + 1) t (by omega)]
    by_cases e : t = i
    · subst e; rw [if_pos rfl, if_neg (by omega)]; simp
    · rw [if_neg e]
      by_cases e2 : t < i
      · rw [if_pos (by omega), if_pos e2]
      · rw [if_neg (by omega), if_neg e2, show t - i = (t - (i + 1)) + 1 by omega, List.getElem?_cons_succ]
theorem initT_sound {args : List AV} {vs : Array Value} (n : Nat) (hl : args.length + n ≤ Tr.lid) (hv : VRl w s M args vs.toList) : TmR w s M (initT args n) { tmps := vs ++ Array.replicate (n - vs.size) undef, defers := [] } := by
  have hlen := hv.length
  simp only [Array.length_toList] at hlen
  refine ⟨by simp [initT, hlen], fun t => ?_, ⟨[], rfl, rfl⟩, fun d hd => by cases hd⟩
  have e1 : gt (initT args n) t = (args[t]?).getD und := by
    unfold gt initT
    simp only
    rw [initF_get args 0 t (by omega)]
    simp
  rw [e1, Array.getD_eq_getD_getElem?]
  rcases hv.get t with ⟨h1, h2⟩ | ⟨c, v, h1, h2, h3⟩
  · rw [h1]
    rw [Array.getElem?_toList] at h2
    have hge : vs.size ≤ t := Array.getElem?_eq_none_iff.1 h2
    rw [Array.getElem?_append_right hge]
    by_cases hr : t - vs.size < n - vs.size
    · simp [hr]; exact VR_und
    · simp [hr]; exact VR_und
  · rw [h1]
    rw [Array.getElem?_toList] at h2
    have hlt : t < vs.size := (Array.getElem?_eq_some_iff.1 h2).1
    rw [Array.getElem?_append_left hlt, h2]
    exact h3

def rget (tmps : Array Value) : ResultVar → Sem Value
  | .tmp t => pure (tmps.getD t undef)
  | .cell q t => do loadVar t (← asAddr (tmps.getD q undef))
theorem resultsA_sound (hs : Sim G B0 w0 w s M) {T : Tm} {a : Act} (hT : TmR w s M T a) : ∀ {rs : List ResultVar} {cs : List AV}, resultsA P T s rs = some cs →
    ∃ vs, (rs.mapM (rget a.tmps)).run P w = .ok vs w ∧ VRl w s M cs vs
  | [], cs, h => by simp only [resultsA, Option.some.injEq] at h; subst h; exact ⟨[], rfl, VRl_nil⟩
  | r :: rs, cs, h => by
    simp only [resultsA, Option.bind_eq_bind, Option.bind_eq_some_iff, Option.pure_def, Option.some.injEq] at h
    obtain ⟨c, h1, d, h2, rfl⟩ := h
    obtain ⟨vs, k1, k2⟩ := resultsA_sound hs hT h2
    rw [List.mapM_cons]
    cases r with
    | tmp t =>
      simp only [resultA, Option.some.injEq] at h1
      subst h1
      refine ⟨a.tmps.getD t undef :: vs, ?_, VRl_cons (hT.get t) k2⟩
      simp only [Sem.run_bind, rget, Sem.run_pure, Result.andThen_ok, k1]
    | cell q t =>
      simp only [resultA] at h1
      split at h1
      · rename_i b off hq
        split at h1
        · rename_i cc _ hg
          have hv := hT.get q
          rw [hq] at hv
          unfold VR at hv
          obtain ⟨hb, e⟩ := hv
          obtain ⟨us, el, fr, g1, g2, _⟩ := hs.obj b _ hb hg
          have ha := (at_block g1).take cc.length |>.drop off
          rw [Nat.zero_add] at ha
          obtain ⟨v, hr, hv⟩ := run_loadVar (P := P) (g2.drop off) ha h1
          refine ⟨v :: vs, ?_, VRl_cons hv k2⟩
          simp only [Sem.run_bind, rget, e, asAddr, Sem.run_pure, Result.andThen_ok, hr, k1]
        · cases h1
      · cases h1

theorem results_sound (hs : Sim G B0 w0 w s M) {T : Tm} {a : Act} (hT : TmR w s M T a) {fn : Func} {cs : List AV} (h : resultsA P T s fn.results.toList = some cs) :
    ∃ v, (results fn a.tmps).run P w = .ok v w ∧ VR w s M (match cs with | [x] => x | xs => .tup xs) v := by
  obtain ⟨vs, h1, h2⟩ := resultsA_sound hs hT h
  refine ⟨if h : vs.toArray.size = 1 then vs.toArray[0] else .tuple vs.toArray, ?_, ?_⟩
  · have hr : results fn a.tmps = (do let vs ← fn.results.mapM (rget a.tmps); pure (if h : vs.size = 1 then vs[0] else .tuple vs)) := by
      unfold results
      congr 1
    rw [hr, Array.mapM_eq_mapM_toList]
    simp only [Sem.run_bind, Sem.run_map, h1, Result.andThen_ok, Sem.run_pure]
  · have hl := h2.length
    match cs, vs, h2 with
    | [], [], h2 => exact VR_tup h2
    | [x], [v], h2 => unfold VRl at h2; obtain ⟨v', t, e, k1, _⟩ := h2; cases e; exact k1
    | x :: y :: r, v :: u :: t, h2 => exact VR_tup h2
    | [], _ :: _, h2 => simp at hl
    | [_], [], h2 => simp at hl
    | [_], _ :: _ :: _, h2 => simp at hl
    | _ :: _ :: _, [], h2 => simp at hl
    | _ :: _ :: _, [_], h2 => simp at hl

theorem fold_params : ∀ {ps : List Nat} {T T1 : Tm} {xs : List AV} {vs : List Value} {tm : Array Value}, putAll T ps xs = some T1 → ps.length = xs.length → VRl w s M xs vs → tm.size = T.n → (∀ t, VR w s M (gt T t) (tm.getD t undef)) →
    ((ps.zip vs).foldl (fun (tmps : Array Value) (p : Nat × Value) => tmps.setIfInBounds p.1 p.2) tm).size = T1.n ∧ (∀ t, VR w s M (gt T1 t) (((ps.zip vs).foldl (fun (tmps : Array Value) (p : Nat × Value) => tmps.setIfInBounds p.1 p.2) tm).getD t undef)) ∧ T1.ds = T.ds ∧ T1.dl = T.dl
  | [], T, T1, xs, vs, tm, h, hl, hv, h1, h2 => by simp only [putAll, Option.some.injEq] at h; subst h; exact ⟨h1, h2, rfl, rfl⟩
  | p :: ps, T, T1, [], vs, tm, h, hl, hv, h1, h2 => by simp at hl
  | p :: ps, T, T1, x :: xs, vs, tm, h, hl, hv, h1, h2 => by
    unfold VRl at hv
    obtain ⟨v, t, rfl, k1, k2⟩ := hv
    simp only [putAll, Option.bind_eq_some_iff] at h
    obtain ⟨T', hp, h⟩ := h
    have hR : TmR w s M { T with ds := [], dl := [] } { tmps := tm, defers := [] } := ⟨h1, h2, ⟨[], rfl, rfl⟩, fun d hd => by cases hd⟩
    have hp' : putT { T with ds := [], dl := [] } (some p) x = some { T' with ds := [], dl := [] } := by
      simp only [putT] at hp ⊢
      split at hp
      · rename_i hb; rw [if_pos hb]; simp only [Option.some.injEq] at hp; subst hp; rfl
      · cases hp
    have hds : T'.ds = T.ds ∧ T'.dl = T.dl := by
      simp only [putT] at hp
      split at hp
      · simp only [Option.some.injEq] at hp; subst hp; exact ⟨rfl, rfl⟩
      · cases hp
    have hR' := hR.put hp' k1
    simp only [List.zip_cons_cons, List.foldl_cons]
    obtain ⟨r1, r2, r3⟩ := fold_params (T := T') (T1 := T1) (tm := tm.setIfInBounds p v) h (by simpa using hl) k2 hR'.size hR'.get
    exact ⟨r1, r2, r3.1.trans hds.1, r3.2.trans hds.2⟩

theorem leaves_marks {fn : Func} {tmps : Array Value} {R : Ending → World → Prop} {dv : List Deferred} : ∀ {ds : List Nat} {s s' : St} {w : World}, killAll s ds = some s' → Sim G B0 w0 w s M → (∀ d, d ∈ ds → d < s.n) →
    (∀ w', Sim G B0 w0 w' s' M → Ext w s M w' s' M → LeavesInM (FW none) 0 P fn tmps R dv .returning w') → LeavesInM (FW none) 0 P fn tmps R ((ds.map fun d => ({ target := .collected (M.blk d), args := #[] } : Deferred)) ++ dv) .returning w
  | [], s, s', w, h, hs, hd, hr => by
    simp only [killAll, Option.some.injEq] at h; subst h
    exact hr w hs (Ext.refl _ _ _)
  | d :: r, s, s', w, h, hs, hd, hr => by
    unfold killAll at h
    split at h
    · rename_i hg
      have hdl := hd d (by simp)
      have ho := hs.obj d _ hdl hg
      have hlt := (hs.blk d hdl).2
      have htl : d < Tr.lid := Nat.lt_of_lt_of_le hdl hs.bound
      have h2 : ∀ k, k ≠ M.blk d → (w.putObj (M.blk d) (.deferred none)).heap[k]? = w.heap[k]? := fun k hk => World.putObj_heap_other hk
      have hE1 : Ext w s M w (s.put d .dead) M := ext_kill d htl
      have hs1 := sim_kill hs d hdl
      -- the block is free: it is written
      have hE2 : Ext w s M (w.putObj (M.blk d) (.deferred none)) (s.put d .dead) M := by
        refine ⟨fun b off v hc hi => ?_, Nat.le_refl _, fun _ _ => ⟨rfl, rfl⟩, hE1.rows, ⟨by simp [World.putObj], fun b _ hno => h2 b fun e => hno d _ hdl hg trivial e.symm, hE1.frm.old⟩, hE1.keep⟩
        have hne : b ≠ M.blk d := fun e => by
          subst e
          have hc' := hc
          rw [World.cell?, show w.heap[M.blk d]? = _ from ho] at hc'
          cases hc'
        exact ⟨(World.cell?_of_block (w := w) (h2 b hne)).trans hc, (hE1.cells b off v hc hi).2⟩
      have hs2 : Sim G B0 w0 (w.putObj (M.blk d) (.deferred none)) (s.put d .dead) M := by
        refine ⟨hs.below.trans ⟨rfl, rfl, rfl, by simp [World.putObj], fun k hk => h2 k (by have := (hs.blk d hdl).1; omega)⟩, hs.size, hs.bound, fun i hi => by simpa [World.putObj] using hs.blk i hi, hs1.inj, fun i o hi hgi => ?_, fun g cs hgl => (hs.glob g cs hgl).ext hE2, hs.fx, hs.outw (by simp [World.putObj])⟩
        rw [St.get_put _ _ _ _ htl] at hgi
        by_cases e : i = d
        · rw [if_pos e] at hgi; cases hgi; trivial
        · rw [if_neg e] at hgi
          have ho' := hs.obj i o hi hgi
          cases o with
          | dead => trivial
          | box cs =>
            have hne : M.blk i ≠ M.blk d := fun e' => e (hs.inj i d _ _ hi hdl hgi hg trivial trivial e')
            obtain ⟨c, e', fr, a1, a2, a3⟩ := ho'; exact ⟨c, e', fr, (h2 _ hne).trans a1, a2.ext hE2, a3⟩
          | fz cs =>
            have hne : M.blk i ≠ M.blk d := fun e' => e (hs.inj i d _ _ hi hdl hgi hg trivial trivial e')
            obtain ⟨c, e', fr, a1, a2, a3⟩ := ho'; exact ⟨c, e', fr, (h2 _ hne).trans a1, a2.ext hE2, a3⟩
          | row tip esz =>
            have hne : M.blk i ≠ M.blk d := fun e' => e (hs.inj i d _ _ hi hdl hgi hg trivial trivial e')
            obtain ⟨c, e', fr, a1, a2⟩ := ho'; exact ⟨c, e', fr, (h2 _ hne).trans a1, a2⟩
          | map es =>
            have hne : M.blk i ≠ M.blk d := fun e' => e (hs.inj i d _ _ hi hdl hgi hg trivial trivial e')
            obtain ⟨c, k, a1, a2⟩ := ho'; exact ⟨c, k, (h2 _ hne).trans a1, a2.ext hE2⟩
          | loop T ps asg body st pend =>
            have hne : M.blk i ≠ M.blk d := fun e' => e (hs.inj i d _ _ hi hdl hgi hg trivial trivial e')
            obtain ⟨rc, a1, a2, a3, a4, a5, a6, a7, a8⟩ := ho'; exact ⟨rc, (h2 _ hne).trans a1, a2, a3, a4, a5, a6, a7, fun t => (a8 t).ext hE2⟩
          | sym k =>
            have hne : M.blk i ≠ M.blk d := fun e' => e (hs.inj i d _ _ hi hdl hgi hg trivial trivial e')
            show SymR _ _ _ _; rw [h2 _ hne]; exact ho'
          | defs =>
            have hne : M.blk i ≠ M.blk d := fun e' => e (hs.inj i d _ _ hi hdl hgi hg trivial trivial e')
            exact (h2 _ hne).trans ho'
      refine ⟨by simp, .inl ⟨M.blk d, w.putObj (M.blk d) (.deferred none), rfl, run_takeDeferred ho, ?_⟩⟩
      exact leaves_marks h hs2 (fun q hq => hd q (by simp [hq])) fun w' k1 k2 => hr w' k1 (hE2.trans k2)
    · cases h

theorem leavesInM_mono {F : Fence} {n : Nat} {fn : Func} {tmps : Array Value} {R R' : Ending → World → Prop} (hr : ∀ e w, R e w → R' e w) : ∀ {ds : List Deferred} {u : FrameMode} {w : World}, LeavesInM F n P fn tmps R ds u w → LeavesInM F n P fn tmps R' ds u w
  | [], u, w, h => by
    cases u with
    | run => exact h.elim
    | returning => obtain ⟨v, h1, h2⟩ := h; exact ⟨v, h1, hr _ _ h2⟩
    | panicking ch => exact hr _ _ h
  | d :: ds, u, w, h => by
    obtain ⟨hu, h⟩ := h
    refine ⟨hu, ?_⟩
    rcases h with ⟨r, w', h1, h2, h3⟩ | ⟨hn, fv, cap, f, args, h1, h2, h3, h4⟩
    · exact .inl ⟨r, w', h1, h2, leavesInM_mono hr h3⟩
    · refine .inr ⟨hn, fv, cap, f, args, h1, h2, h3, h4.mono fun e u' w' k => ?_⟩
      cases e with
      | returned v => exact leavesInM_mono hr k
      | panicked ch => exact leavesInM_mono hr k
      | outgrown => exact hr _ _ k

/-- What panics as a deferred call begins. -/
def PRm (w : World) (s : St) (M : Mp) (p : Option AV) (u : FrameMode) : Prop :=
  match p with
  | none => u = .returning
  | some y => ∃ v, u = .panicking [{ v, recovered := false }] ∧ VR w s M y v
theorem PRm.ext {w w' : World} {s s' : St} {M M' : Mp} (e : Ext w s M w' s' M') {p : Option AV} {u : FrameMode} (h : PRm w s M p u) : PRm w' s' M' p u := by
  cases p with
  | none => exact h
  | some y => obtain ⟨v, h1, h2⟩ := h; exact ⟨v, h1, h2.ext e⟩

theorem moves_sound (hs : Sim G B0 w0 w s M) {ops : Array Oper} {Q : Exit → Act → List Frame → World → Prop} {cs : List Frame} : ∀ {l : List Nat} {T T' : Tm} {a : Act}, evMoves G ops l T = some T' → TmR w s M T a → (∀ a', TmR w s M T' a' → Q .normal a' cs w) → wpOpsSIn (FW none) 0 P ops Q l a cs w
  | [], T, T', a, h, hT, hq => by
    simp only [evMoves, Option.some.injEq] at h; subst h
    exact hq a hT
  | i :: rest, T, T', a, h, hT, hq => by
    unfold evMoves at h
    unfold wpOpsSIn
    cases hfo : fetch ops T i with
    | none => rw [hfo] at h; cases h
    | some o =>
      obtain ⟨ho, hgk⟩ := fetch_some hfo
      rw [hfo] at h
      rw [ho]
      simp only at h ⊢
      have hy : Region.wanted o (yielded ops a.tmps) = Region.wanted o (yieldedA ops T) := yielded_eq hT hgk
      refine ⟨fun _ _ => trivial, ?_⟩
      rw [hy]
      split at h
      · rename_i hw
        rw [if_pos hw]
        have go : ∀ x, (∀ y, (execOp a.eval o).run P w = .ok (.value y) w → a.eval x = y → True) → (execOp a.eval o).run P w = .ok (.value (a.eval x)) w → (match opd G T x with
            | some a => match putT T o.dst a with
              | some T' => evMoves G ops rest T'
              | none => none
            | none => none) = some T' → (match (execOp a.eval o).run P w with
        | .ok .recover w' =>
          match recoverD cs with
          | some (v, cs') => wpOpsSIn (FW none) 0 P ops Q rest (a.put o.dst v) cs' w'
          | none => wpOpsSIn (FW none) 0 P ops Q rest (a.put o.dst .nilIface) cs w'
        | .ok (.value v) w' => wpOpsSIn (FW none) 0 P ops Q rest (a.put o.dst v) cs w'
        | .ok .skip w' => wpOpsSIn (FW none) 0 P ops Q rest (a.put o.dst undef) cs w'
        | .halt (.panic v) w' => Q (.panic [{ v, recovered := false }]) a cs w'
        | _ => False) := by
          intro x _ hr hx
          rw [hr]
          split at hx
          · rename_i c hc
            split at hx
            · rename_i T1 hp
              exact moves_sound hs hx (hT.put hp (opd_sound hs hT hc)) hq
            · cases hx
          · cases hx
        split at h
        · rename_i x hop
          exact go x (fun _ _ _ => trivial) (by simp [execOp, hop]) h
        · rename_i x hop
          exact go x (fun _ _ _ => trivial) (by simp [execOp, hop]) h
        · cases h
      · cases h

theorem leaves_dl {run : Code → Tm → St → Option (Ex × Tm × St)} (hP : NoNum P) (hrun : Goes P G B0 w0 none run) {fn : Func} {tmps : Array Value} {R : Ending → World → Prop} : ∀ {dl : List (Nat × List AV × List AV)} {p p' : Option AV} {s s' : St} {w : World} {M : Mp} {dv : List Deferred} {u : FrameMode}, runDefs P G run dl p s = some (p', s') → DLr w s M dl dv → Sim G B0 w0 w s M → PRm w s M p u →
    (∀ w' M' u', Sim G B0 w0 w' s' M' → Ext w s M w' s' M' → PRm w' s' M' p' u' → LeavesInM (FW none) 0 P fn tmps R [] u' w') → LeavesInM (FW none) 0 P fn tmps R dv u w
  | [], p, p', s, s', w, M, dv, u, h, hd, hs, hp, hq => by
    simp only [runDefs, Option.some.injEq, Prod.mk.injEq] at h
    obtain ⟨rfl, rfl⟩ := h
    have : dv = [] := hd
    subst this
    exact hq w M u hs (Ext.refl _ _ _) hp
  | (g, xs, ys) :: r, p, p', s, s', w, M, dv, u, h, hd, hs, hp, hq => by
    obtain ⟨args, cap, t, rfl, hx, hy, hd⟩ := hd
    unfold runDefs at h
    split at h
    · rename_i s1 h1
      have hrunm : u ≠ .run := by
        cases p with
        | none => have : u = .returning := hp; rw [this]; exact fun e => by cases e
        | some y => obtain ⟨v, e, _⟩ := hp; rw [e]; exact fun e => by cases e
      unfold evDef at h1
      split at h1
      · cases h1
      · rename_i fg hfg
        split at h1
        · rename_i id ops c hbody
          split at h1
          · cases h1
          · rename_i o ho
            dsimp only at h1
            split at h1
            · cases h1
            · rename_i hc
              simp only [Bool.or_eq_true, Bool.not_eq_true', not_or, Bool.not_eq_false] at hc
              obtain ⟨⟨⟨hle, hgw⟩, hrec⟩, hres⟩ := hc
              rw [Bool.and_eq_true] at hgw
              obtain ⟨hgk, hw⟩ := hgw
              have hle := Nat.le_of_ble_eq_true hle
              have hvl : VRl w s M (xs ++ ys) (args ++ cap).toList := by rw [Array.toList_append]; exact hx.append hy
              have hT := initT_sound (w := w) (s := s) (M := M) fg.ntmps hle hvl
              split at h1
              · cases h1
              · rename_i T1 hp1
                split at h1
                · cases h1
                · rename_i T2 hp2
                  have hfin : ∃ ex T3, run c T2 s = some (ex, T3, s1) ∧ (ex = .normal ∨ ex = .ret) ∧ T3.ds = [] ∧ T3.dl = [] := by
                    split at h1
                    · rename_i T3 s3 hr
                      split at h1
                      · rename_i he
                        rw [Bool.and_eq_true, List.isEmpty_iff, List.isEmpty_iff] at he
                        cases h1
                        exact ⟨_, _, hr, .inl rfl, he.1, he.2⟩
                      · cases h1
                    · rename_i T3 s3 hr
                      split at h1
                      · rename_i he
                        rw [Bool.and_eq_true, List.isEmpty_iff, List.isEmpty_iff] at he
                        cases h1
                        exact ⟨_, _, hr, .inr rfl, he.1, he.2⟩
                      · cases h1
                    · cases h1
                  obtain ⟨ex, T3, hr3, hex, hds3, hdl3⟩ := hfin
                  have hnum : (callFunc g (args ++ cap)).run P w = .ok (.enter g (args ++ cap)) w := by
                    unfold callFunc
                    have hn' : ¬ fg.name = "runtime.NumGoroutine" := by simpa using hP g fg hfg
                    simp [hfg, hn', hbody]
                  refine ⟨hrunm, .inr ⟨fun h => (by cases h), _, cap, g, args ++ cap, rfl, hnum, fun _ _ => trivial, ?_⟩⟩
                  refine callsDIn_of_wpSIn hfg hbody trivial fun c₀ cs hu => ?_
                  refine wpSIn_seq (wpSIn_region ?_)
                  have hsz : 0 < ops.size := by
                    rcases Nat.eq_zero_or_pos ops.size with e | e
                    · rw [Array.getElem?_eq_none (by omega)] at ho; cases ho
                    · exact e
                  have hrange : List.range ops.size = 0 :: (List.range ops.size).drop 1 := by
                    obtain ⟨k, hk⟩ : ∃ k, ops.size = k + 1 := ⟨ops.size - 1, by omega⟩
                    rw [hk, List.range_succ_eq_map]
                    rfl
                  rw [hrange]
                  unfold wpOpsSIn
                  rw [ho]
                  simp only
                  refine ⟨fun _ _ => trivial, ?_⟩
                  have hyl : Region.wanted o (yielded ops (args ++ cap ++ Array.replicate (fg.ntmps - (args ++ cap).size) undef)) = Region.wanted o (yieldedA ops (initT (xs ++ ys) fg.ntmps)) := by
                    exact yielded_eq hT hgk
                  rw [hyl, if_pos hw]
                  have hex0 : ∀ ρ : Operand → Value, (execOp ρ o).run P w = .ok .recover w := by
                    intro ρ
                    unfold isRecover at hrec
                    split at hrec
                    · rename_i c0 hop
                      split at hrec
                      · rename_i hcal
                        simp [execOp, hop, resolve, hcal, invoke, builtin]
                      · cases hrec
                    · cases hrec
                  rw [hex0]
                  simp only
                  -- what is recovered
                  have key : ∃ (v : Value) (u1 : FrameMode), settle u1 = .returning ∧ VR w s M (p.getD (.v .nilIface)) v ∧
                      ∀ (F : List Frame → Value → Prop), F ({ c₀ with mode := u1 } :: cs) v → (match recoverD (c₀ :: cs) with
                        | some (v, cs') => F cs' v
                        | none => F (c₀ :: cs) .nilIface) := by
                    cases p with
                    | none =>
                      have e : u = .returning := hp
                      rw [e] at hu
                      refine ⟨.nilIface, .returning, rfl, VR_v_of rfl, fun F hF => ?_⟩
                      have e1 : recoverD (c₀ :: cs) = none := by simp [recoverD, hu]
                      have e2 : ({ c₀ with mode := .returning } : Frame) = c₀ := by rw [← hu]
                      rw [e1]
                      rw [e2] at hF
                      exact hF
                    | some y =>
                      obtain ⟨v, e, hv⟩ := hp
                      rw [e] at hu
                      refine ⟨v, .panicking [{ v, recovered := true }], rfl, hv, fun F hF => ?_⟩
                      have e1 : recoverD (c₀ :: cs) = some (v, { c₀ with mode := .panicking [{ v, recovered := true }] } :: cs) := by simp [recoverD, hu]
                      rw [e1]
                      exact hF
                  obtain ⟨v, u1, hset, hv, key⟩ := key
                  refine key (fun cs' v => wpOpsSIn (FW none) 0 P ops _ ((List.range ops.size).drop 1) (Act.put _ o.dst v) cs' w) ?_
                  refine moves_sound hs hp2 (hT.put hp1 hv) fun a2 hT2 => ?_
                  refine wpSIn_of_wpIn rfl ?_
                  refine hrun c T2 s ex T3 s1 hr3 w M a2 _ hs hT2 fun e a3 w3 M3 k0 k1 k2 k3 => ?_
                  have hdef : a3.defers = [] := by
                    obtain ⟨dv3, q1, q2⟩ := k1.defers
                    rw [hdl3] at q1
                    have : dv3 = [] := q1
                    rw [q2, hds3, this]; rfl
                  have hre : resultsA P T3 s1 fg.results.toList = some [] := by
                    have : fg.results = #[] := by simpa using hres
                    rw [this]; rfl
                  obtain ⟨v3, g1, _⟩ := results_sound k2 k1 hre
                  have hnext : LeavesInM (FW none) 0 P fn tmps R t (settle u1) w3 := by
                    rw [hset]
                    exact leaves_dl hP hrun h (hd.ext k3) k2 (p := none) rfl fun w' M' u' j1 j2 j3 => hq w' M' u' j1 (k3.trans j2) j3
                  rcases hex with rfl | rfl
                  · obtain rfl : e = .normal := k0
                    exact ⟨hdef, u1, rfl, v3, g1, hnext⟩
                  · obtain rfl : e = .ret := k0
                    exact ⟨hdef, u1, rfl, v3, g1, hnext⟩
        · cases h1
    · split at h
      · rename_i s1 h1
        have hrunm : u ≠ .run := by
          cases p with
          | none => have : u = .returning := hp; rw [this]; exact fun e => by cases e
          | some y => obtain ⟨v, e, _⟩ := hp; rw [e]; exact fun e => by cases e
        unfold evDefPlain at h1
        split at h1
        · cases h1
        · rename_i fg hfg
          split at h1
          · cases h1
          · rename_i c hbody
            split at h1
            · cases h1
            · rename_i hc
              simp only [Bool.or_eq_true, Bool.not_eq_true', not_or, Bool.not_eq_false] at hc
              obtain ⟨hle, hres⟩ := hc
              have hle := Nat.le_of_ble_eq_true hle
              have hvl : VRl w s M (xs ++ ys) (args ++ cap).toList := by rw [Array.toList_append]; exact hx.append hy
              have hT := initT_sound (w := w) (s := s) (M := M) fg.ntmps hle hvl
              have hfin : ∃ ex T3, run c (initT (xs ++ ys) fg.ntmps) s = some (ex, T3, s1) ∧ (ex = .normal ∨ ex = .ret) ∧ T3.ds = [] ∧ T3.dl = [] := by
                split at h1
                · rename_i T3 s3 hr
                  split at h1
                  · rename_i he
                    rw [Bool.and_eq_true, List.isEmpty_iff, List.isEmpty_iff] at he
                    cases h1
                    exact ⟨_, _, hr, .inl rfl, he.1, he.2⟩
                  · cases h1
                · rename_i T3 s3 hr
                  split at h1
                  · rename_i he
                    rw [Bool.and_eq_true, List.isEmpty_iff, List.isEmpty_iff] at he
                    cases h1
                    exact ⟨_, _, hr, .inr rfl, he.1, he.2⟩
                  · cases h1
                · cases h1
              obtain ⟨ex, T3, hr3, hex, hds3, hdl3⟩ := hfin
              have hnum : (callFunc g (args ++ cap)).run P w = .ok (.enter g (args ++ cap)) w := by
                unfold callFunc
                have hn' : ¬ fg.name = "runtime.NumGoroutine" := by simpa using hP g fg hfg
                simp [hfg, hn', hbody]
              refine ⟨hrunm, .inr ⟨fun h => (by cases h), _, cap, g, args ++ cap, rfl, hnum, fun _ _ => trivial, ?_⟩⟩
              refine callsDIn_of_wpSIn hfg hbody trivial fun c₀ cs hu => ?_
              refine wpSIn_of_wpIn rfl ?_
              refine hrun c (initT (xs ++ ys) fg.ntmps) s ex T3 s1 hr3 w M _ _ hs hT fun e a3 w3 M3 k0 k1 k2 k3 => ?_
              have hdef : a3.defers = [] := by
                obtain ⟨dv3, q1, q2⟩ := k1.defers
                rw [hdl3] at q1
                have : dv3 = [] := q1
                rw [q2, hds3, this]; rfl
              have hre : resultsA P T3 s1 fg.results.toList = some [] := by
                have : fg.results = #[] := by simpa using hres
                rw [this]; rfl
              obtain ⟨v3, g1, _⟩ := results_sound k2 k1 hre
              have hset : settle u = u := by
                cases p with
                | none => have : u = .returning := hp; rw [this]; rfl
                | some y => obtain ⟨v, e, _⟩ := hp; rw [e]; rfl
              have hnext : LeavesInM (FW none) 0 P fn tmps R t (settle u) w3 := by
                rw [hset]
                exact leaves_dl hP hrun h (hd.ext k3) k2 (p := p) (PRm.ext k3 hp) fun w' M' u' j1 j2 j3 => hq w' M' u' j1 (k3.trans j2) j3
              rcases hex with rfl | rfl
              · obtain rfl : e = .normal := k0
                exact ⟨hdef, u, by rw [← hu], v3, g1, hnext⟩
              · obtain rfl : e = .ret := k0
                exact ⟨hdef, u, by rw [← hu], v3, g1, hnext⟩
      · cases h

theorem fin_sound {run : Code → Tm → St → Option (Ex × Tm × St)} (hP : NoNum P) (hrun : Goes P G B0 w0 none run) {fn : Func} {T : Tm} {p : Option AV} {s s' : St} {r : AV} {w : World} {M : Mp} {a : Act} {dv : List Deferred} {u : FrameMode} (h : finA P G run fn T p s = some (r, s'))
    (hd : DLr w s M T.dl dv) (hs : Sim G B0 w0 w s M) (hT : TmR w s M T a) (hp : PRm w s M p u) : LeavesInM (FW none) 0 P fn a.tmps (Done G B0 w0 w s M r s') dv u w := by
  unfold finA at h
  split at h
  · rename_i s1 hr
    refine leaves_dl hP hrun hr hd hs hp fun w' M' u' k1 k2 k3 => ?_
    have : u' = .returning := k3
    subst this
    have hT2 := hT.ext k2
    split at h
    · rename_i x hx
      cases h
      obtain ⟨v, g1, g2⟩ := results_sound k1 hT2 hx
      exact ⟨v, g1, M', .inl ⟨v, rfl, g2⟩, k1, k2⟩
    · rename_i xs hno hx
      cases h
      obtain ⟨v, g1, g2⟩ := results_sound k1 hT2 hx
      refine ⟨v, g1, M', .inl ⟨v, rfl, ?_⟩, k1, k2⟩
      revert g2
      split
      · exact fun _ => absurd rfl (hno _)
      · exact fun g => g
    · cases h
  · rename_i y s1 hr
    cases h
    refine leaves_dl hP hrun hr hd hs hp fun w' M' u' k1 k2 k3 => ?_
    obtain ⟨v, rfl, hv⟩ := k3
    exact ⟨M', .inr ⟨y, v, rfl, rfl, hv⟩, k1, k2⟩
  · cases h

theorem fn_sound {mu : Nat → Bool} {D : Ab.Call → Drawn} {orc : Ab.Call} (hP : NoNum P) (K : Nat) (horc : CallOk P G B0 w0 orc) (hD : ∀ call, CallOk P G B0 w0 call → DrawnOk P G B0 w0 (D call)) : ∀ k, CallOk P G B0 w0 (evFn P G mu D K orc k)
  | 0 => fun fr args s r s' h => by cases h
  | k + 1 => fun fr args s r s' h w M vs hs hv => by
    unfold evFn at h
    split at h
    · rename_i q ho
      cases h
      exact horc fr args s r s' ho w M vs hs hv
    · have ih := fn_sound (mu := mu) hP K horc hD k
      unfold evBody at h
      split at h
      · -- a function
        rename_i f _
        split at h
        · cases h
        · rename_i fn hfn
          split at h
          · cases h
          · rename_i c hc
            split at h
            · cases h
            · rename_i hle
              simp only [Bool.not_eq_true', Bool.not_eq_false] at hle
              have hle := Nat.le_of_ble_eq_true hle
              have hT0 := initT_sound (w := w) (s := s) (M := M) fn.ntmps hle hv
              have hT : TmR w s M { initT args fn.ntmps with mu := (mu f, false) } { tmps := vs ++ Array.replicate (fn.ntmps - vs.size) undef, defers := [] } := ⟨hT0.size, hT0.get, hT0.defers, hT0.dlt⟩
              have hgo : Goes P G B0 w0 none (evCode P G D (evFn P G mu D K orc k) false K) := (code_sound hP ih (hD _ ih) (rb := false) (ro := none) (fun _ => rfl) K).1
              have lift : ∀ {s1 s2 : St} {w' w2 : World} {M' : Mp}, Ext w s M w' s1 M' → Ext w' s1 M' w2 s2 M' → ∀ e w3, Done G B0 w0 w2 s2 M' r s' e w3 → Done G B0 w0 w s M r s' e w3 := fun k3 j2 e w3 ⟨M3, q1, q2, q3⟩ => ⟨M3, q1, q2, (k3.trans j2).trans q3⟩
              have fin : ∀ {T1 : Tm} {s1 : St}, (match killAll s1 T1.ds with
                  | some s => finA P G (evCode P G D (evFn P G mu D K orc k) false K) fn T1 none s
                  | none => none) = some (r, s') → ∀ (a' : Act) (w' : World) (M' : Mp), TmR w' s1 M' T1 a' → Sim G B0 w0 w' s1 M' → Ext w s M w' s1 M' → LeavesInM (FW none) 0 P fn a'.tmps (Done G B0 w0 w s M r s') a'.defers .returning w' := by
                intro T1 s1 h a' w' M' k1 k2 k3
                split at h
                · rename_i s2 hk
                  obtain ⟨dv, q1, q2⟩ := k1.defers
                  rw [q2]
                  refine leaves_marks hk k2 k1.dlt fun w2 j1 j2 => ?_
                  exact leavesInM_mono (lift k3 j2) (fin_sound hP hgo h (q1.ext j2) j1 (k1.ext j2) rfl)
                · cases h
              refine callsIn_of_wp_marks hfn hc trivial ?_
              split at h
              · rename_i T1 s1 he
                refine hgo c _ s _ T1 s1 he w M _ _ hs hT fun e a' w' M' k0 k1 k2 k3 => ?_
                obtain rfl : e = .normal := k0
                exact fin h a' w' M' k1 k2 k3
              · rename_i T1 s1 he
                refine hgo c _ s _ T1 s1 he w M _ _ hs hT fun e a' w' M' k0 k1 k2 k3 => ?_
                obtain rfl : e = .ret := k0
                exact fin h a' w' M' k1 k2 k3
              · rename_i y T1 s1 he
                split at h
                · rename_i hds
                  refine hgo c _ s _ T1 s1 he w M _ _ hs hT fun e a' w' M' k0 k1 k2 k3 => ?_
                  obtain ⟨v, rfl, hv'⟩ := k0
                  obtain ⟨dv, q1, q2⟩ := k1.defers
                  rw [hds] at q2
                  show LeavesInM (FW none) 0 P fn a'.tmps _ a'.defers (.panicking [{ v, recovered := false }]) w'
                  rw [q2]
                  exact leavesInM_mono (lift k3 (Ext.refl _ _ _)) (fin_sound hP hgo h q1 k2 k1 ⟨v, rfl, hv'⟩)
                · cases h
              · cases h
      · -- a round
        rename_i l ho
        split at h
        · rename_i T ps asg body0 pend0 hg
          split at h
          · cases h
          · rename_i hlen
            simp only [Bool.or_eq_true, Bool.not_eq_true', not_or, Bool.not_eq_false] at hlen
            obtain ⟨hlen, hl⟩ := hlen
            have hlen := nbe hlen
            have hl : l < s.n := Nat.le_of_ble_eq_true hl
            split at h
            · cases h
            · rename_i T1 hput
              split at h
              · rename_i T2 s2 hasg
                split at h
                · rename_i Ta psa asga bodya penda hg2
                  split at h
                  · cases h
                  · rename_i ex T3 s4 hnp hbody
                    split at h
                    · rename_i Tb psb asgb bodyb stb pendb hg4
                      cases h
                      obtain ⟨rc, a1, a2, a3, a4, a5, a6, a7, a8⟩ := hs.obj l _ hl hg
                      have hvl := hv.length
                      simp only [Array.length_toList] at hvl
                      have hps : rc.params.size = ps.length := by rw [← a4]; simp
                      refine ⟨rc, hl, a1, by omega, roundIn_of_wpIn trivial ?_⟩
                      have hfold : (rc.params.zip vs).foldl (fun tmps (t, a) => tmps.setIfInBounds t a) rc.tmps = (ps.zip vs.toList).foldl (fun (tmps : Array Value) (p : Nat × Value) => tmps.setIfInBounds p.1 p.2) rc.tmps := by
                        rw [← Array.foldl_toList, Array.toList_zip, a4]
                      obtain ⟨r1, r2, r3⟩ := fold_params (w := w) (s := s) (M := M) (T := { T with ds := [], dl := [] }) (tm := rc.tmps) hput hlen hv a7 a8
                      rw [hfold]
                      have hT1 : TmR w s M T1 { tmps := (ps.zip vs.toList).foldl (fun (tmps : Array Value) (p : Nat × Value) => tmps.setIfInBounds p.1 p.2) rc.tmps, defers := [] } := ⟨r1, r2, ⟨[], by rw [r3.2]; rfl, by rw [r3.1]; rfl⟩, fun d hd => by rw [r3.1] at hd; cases hd⟩
                      subst a5 a6
                      have hn1 : (true : Bool) = false → (some (M.blk l) : Option Nat) = none := fun h => by cases h
                      refine (code_sound hP ih (hD _ ih) (rb := true) (ro := some (M.blk l)) hn1 K).1 _ T1 s _ T2 s2 hasg w M _ _ hs hT1 fun e1 a1 w1 M1 k0 k1 k2 k3 => ?_
                      obtain rfl : e1 = .normal := k0
                      -- the round begins
                      have hl1 : l < s2.n := Nat.lt_of_lt_of_le hl k3.n
                      have hm1 := (k3.map l hl).1
                      obtain ⟨rc1, b1, b2, b3, b4, b5, b6, b7, b8⟩ := k2.obj l _ hl1 hg2
                      obtain ⟨hs3, hE3⟩ := sim_loop (st' := .busy) (pend' := penda) k2 hl1 hg2 b1
                      have hrc1 : ({ rc1 with state := .busy, pending := penda } : Loop) = { rc1 with state := .busy } := by rw [← b3]
                      rw [hrc1] at hs3 hE3
                      rw [hm1] at b1 hs3 hE3
                      show ∃ w₂, (Instr.beginRound (M.blk l)).run P w1 = .ok () w₂ ∧ _
                      refine ⟨_, run_beginRound b1 b2, ?_⟩
                      have hTb := k1.ext hE3
                      refine (code_sound hP ih (hD _ ih) (rb := true) (ro := some (M.blk l)) hn1 K).1 _ T2 _ _ T3 s4 hbody _ M1 a1 _ hs3 hTb fun e3 a3 w3 M3 j0 j1 j2 j3 => ?_
                      have hl4 : l < s4.n := Nat.lt_of_lt_of_le (show l < (s2.put l _).n from hl1) j3.n
                      have hm4 := (j3.map l (show l < (s2.put l _).n from hl1)).1
                      obtain ⟨rc4, d1, d2, d3, _⟩ := j2.obj l _ hl4 hg4
                      obtain ⟨hs5, hE5⟩ := sim_loop (st' := if (jumpOf ex).isNone then .ready else .done) (pend' := jumpOf ex) j2 hl4 hg4 d1
                      rw [hm4, hm1] at d1 hs5 hE5
                      have hEall := (k3.trans hE3).trans (j3.trans hE5)
                      have hend : ∃ v w', (Instr.endRound (M.blk l) (jumpOf ex)).run P w3 = .ok v w' ∧ Done G B0 w0 w s M (.v (.bool (jumpOf ex).isNone)) (s4.put l (.loop Tb psb asgb bodyb (if (jumpOf ex).isNone then .ready else .done) (jumpOf ex))) (.returned v) w' :=
                        ⟨_, _, run_endRound (jumpOf ex) d1, M3, .inl ⟨_, rfl, VR_v_of rfl⟩, hs5, hEall⟩
                      cases ex with
                      | panic y => exact (hnp y rfl).elim
                      | normal => obtain rfl : e3 = .normal := j0; exact hend
                      | exit id => obtain rfl : e3 = .exit id := j0; exact hend
                      | goto l => obtain rfl : e3 = .goto l := j0; exact hend
                      | ret => obtain rfl : e3 = .ret := j0; exact hend
                    · cases h
                  · cases h
                · cases h
              · cases h
        · cases h
      · cases h
end
end Go.Ab
