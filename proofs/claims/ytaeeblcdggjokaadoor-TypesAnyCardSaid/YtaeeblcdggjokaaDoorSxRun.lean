/- The evaluator against the model: each operation. -/
import Derived.Test.YtaeeblcdggjokaaDoorSxOps11
namespace Go.Ab
set_option linter.unusedVariables false
set_option linter.unusedSimpArgs false
set_option linter.unusedSectionVars false
set_option linter.constructorNameAsVariable false
open Go Go.RowKit

section
variable [Interp] {P : Program} {G : Nat → Option (List AV)} {B0 : Nat} {w0 w : World} {s : St} {M : Mp}

/-- What an operation does, if it may panic. -/
def OpP (P : Program) (G : Nat → Option (List AV)) (B0 : Nat) (w0 w : World) (s : St) (M : Mp) (o : Oper) (a : Act) (x : AV) (s' : St) : Prop :=
  ∀ (ro : Option Nat) (next : Act → World → Prop) (Q : Exit → Act → World → Prop), (∀ v w' M', VR w' s' M' x v → Sim G B0 w0 w' s' M' → Ext w s M w' s' M' → next (a.put o.dst v) w') →
    (∀ y v w' M', isPan x = some y → VR w' s' M' y v → Sim G B0 w0 w' s' M' → Ext w s M w' s' M' → Q (.panic [{ v, recovered := false }]) a w') → (o.uponIn (FW ro) 0 P a next Q ((execOp a.eval o).run P w))
theorem OpOk.up {o : Oper} {a : Act} {x : AV} {s' : St} (h : OpOk P G B0 w0 w s M o a x s') : OpP P G B0 w0 w s M o a x s' := fun ro next Q hn _ => h ro next Q hn
theorem OpP.down {o : Oper} {a : Act} {x : AV} {s' : St} (h : OpP P G B0 w0 w s M o a x s') (hx : isPan x = none) : OpOk P G B0 w0 w s M o a x s' := fun ro next Q hn => h ro next Q hn fun y v w' M' hy => by rw [hx] at hy; cases hy

def Done0 (G : Nat → Option (List AV)) (B0 : Nat) (w0 w : World) (s : St) (M : Mp) (r : AV) (s' : St) : Ending → World → Prop := fun e w' =>
  ∃ v M', e = .returned v ∧ VR w' s' M' r v ∧ Sim G B0 w0 w' s' M' ∧ Ext w s M w' s' M'
def Done (G : Nat → Option (List AV)) (B0 : Nat) (w0 w : World) (s : St) (M : Mp) (r : AV) (s' : St) : Ending → World → Prop := fun e w' =>
  ∃ M', ((∃ v, e = .returned v ∧ VR w' s' M' r v) ∨ ∃ y v, isPan r = some y ∧ e = .panicked [{ v, recovered := false }] ∧ VR w' s' M' y v) ∧ Sim G B0 w0 w' s' M' ∧ Ext w s M w' s' M'
theorem Done.down {r : AV} {s' : St} {e : Ending} {w' : World} (h : Done G B0 w0 w s M r s' e w') (hr : isPan r = none) : Done0 G B0 w0 w s M r s' e w' := by
  obtain ⟨M', ⟨v, h1, h2⟩ | ⟨y, v, h1, _⟩, h3, h4⟩ := h
  · exact ⟨v, M', h1, h2, h3, h4⟩
  · rw [hr] at h1; cases h1
theorem Done0.up {r : AV} {s' : St} {e : Ending} {w' : World} (h : Done0 G B0 w0 w s M r s' e w') : Done G B0 w0 w s M r s' e w' := by
  obtain ⟨v, M', h1, h2, h3, h4⟩ := h
  exact ⟨M', .inl ⟨v, h1, h2⟩, h3, h4⟩
def CallOk (P : Program) (G : Nat → Option (List AV)) (B0 : Nat) (w0 : World) (call : Ab.Call) : Prop :=
  ∀ fr args s r s', call fr args s = some (r, s') → ∀ (w : World) (M : Mp) (vs : Array Value), Sim G B0 w0 w s M → VRl w s M args vs.toList →
    match fr with
    | .func f => CallsIn (FW none) 0 P f vs w (Done G B0 w0 w s M r s')
    | .yield l => ∃ rc : Loop, l < s.n ∧ w.heap[M.blk l]? = some (.loop rc) ∧ vs.size = rc.params.size ∧
        RoundIn (FW none) 0 P (M.blk l) rc.fn ((rc.params.zip vs).foldl (fun tmps (t, a) => tmps.setIfInBounds t a) rc.tmps) rc.assign rc.body w (Done G B0 w0 w s M r s')
    | _ => False
theorem callsIn_ro {ro : Option Nat} {n : Nat} {f : FuncId} {args : Array Value} {w : World} {R : Ending → World → Prop} (h : CallsIn (FW none) n P f args w R) : CallsIn (FW ro) n P f args w R := by
  cases ro with
  | none => exact h
  | some l => exact h
theorem roundIn_ro {ro : Option Nat} {n l : Nat} {f : FuncId} {tmps : Array Value} {asg body : Code} {w : World} {R : Ending → World → Prop} (h : RoundIn (FW none) n P l f tmps asg body w R) : RoundIn (FW ro) n P l f tmps asg body w R := by
  cases ro with
  | none => exact h
  | some l => exact h

def NoNum (P : Program) : Prop := ∀ (f : Nat) (fn : Func), P.funcs[f]? = some fn → (fn.name == "runtime.NumGoroutine") = false

theorem s_callA {call : Ab.Call} (hP : NoNum P) (hcall : CallOk P G B0 w0 call) {o : Oper} {a : Act} {g : FuncId} {args : List AV} {vs : Array Value} {x : AV} {s' : St} (hs : Sim G B0 w0 w s M) (hex : (execOp a.eval o).run P w = (callFunc g vs).run P w) (hv : VRl w s M args vs.toList)
    (h : callA P call g args s = some (x, s')) : OpP P G B0 w0 w s M o a x s' := by
  unfold callA at h
  split at h
  · cases h
  · rename_i fn hfn
    split at h
    · rename_i body hb
      intro ro next Q hn hp
      have hr : (execOp a.eval o).run P w = .ok (.enter g vs) w := by
        rw [hex]
        unfold callFunc
        have hn' : ¬ fn.name = "runtime.NumGoroutine" := by simpa using hP g fn hfn
        simp [hfn, hn', hb]
      rw [hr, Oper.uponIn_enter]
      refine ⟨fun h => (by cases h), callsIn_ro ((hcall (.func g) args s x s' h w M vs hs hv).mono ?_)⟩
      rintro e w' ⟨M', ⟨v, rfl, k1⟩ | ⟨y, v, hy, rfl, k1⟩, k2, k3⟩
      · exact hn v w' M' k1 k2 k3
      · exact hp y v w' M' hy k1 k2 k3
    · rename_i hb
      split at h
      · rename_i hn
        rw [Bool.and_eq_true] at hn
        split at h
        · cases h
          unfold VRl at hv
          obtain ⟨v, t, e, hv, ht⟩ := hv
          unfold VRl at ht
          subst ht
          have e2 : vs = #[v] := by apply Array.toList_inj.1; rw [e]
          subst e2
          exact OpOk.up (ok_here hs (hex.trans (noEscape_run (hP g fn hfn) hfn hb hn.1 hn.2 v w)) hv)
        · cases h
      · simp only [Option.bind_eq_bind, Option.bind_eq_some_iff] at h
        obtain ⟨us, h1, r, h2, h⟩ := h
        have e1 := unAll_some h1 hv
        have e2 : vs = us.toArray := by apply Array.toList_inj.1; rw [e1]
        subst e2
        have hr := runPure_run h2 w
        rw [← hex] at hr
        split at h
        · simp only [Option.bind_eq_some_iff, Option.pure_def, Option.some.injEq, Prod.mk.injEq] at h
          obtain ⟨y, h3, rfl, rfl⟩ := h
          exact OpOk.up (ok_here hs hr (VR_outValue h3))
        · cases h

theorem callB_calls {call : Ab.Call} (hP : NoNum P) (hcall : CallOk P G B0 w0 call) {g : FuncId} {args : List AV} {vs : Array Value} {x : AV} {s' : St} (hs : Sim G B0 w0 w s M) (hv : VRl w s M args vs.toList)
    (h : callB P call g args s = some (x, s')) : (callFunc g vs).run P w = .ok (.enter g vs) w ∧ CallsIn (FW none) 0 P g vs w (Done0 G B0 w0 w s M x s') := by
  unfold callB at h
  split at h
  · cases h
  · rename_i fn hfn
    split at h
    · rename_i body hb
      split at h
      · rename_i x1 s1 hc
        split at h
        · rename_i hx
          simp only [Option.some.injEq, Prod.mk.injEq] at h
          obtain ⟨rfl, rfl⟩ := h
          have hx : isPan x1 = none := by simpa using hx
          refine ⟨?_, (hcall (.func g) args s x1 s1 hc w M vs hs hv).mono fun e w' k => Done.down k hx⟩
          unfold callFunc
          have hn' : ¬ fn.name = "runtime.NumGoroutine" := by simpa using hP g fn hfn
          simp [hfn, hn', hb]
        · cases h
      · cases h
    · cases h
theorem s_yield {call : Ab.Call} (hcall : CallOk P G B0 w0 call) {o : Oper} {a : Act} {l : Nat} {args : List AV} {vs : Array Value} {x : AV} {s' : St} (hs : Sim G B0 w0 w s M) (hex : execOp a.eval o = Instr.yield (M.blk l) vs) (hv : VRl w s M args vs.toList)
    (h : call (.yield l) args s = some (x, s')) : OpP P G B0 w0 w s M o a x s' := by
  intro ro next Q hn hp
  obtain ⟨rc, _, h1, h2, h3⟩ := hcall (.yield l) args s x s' h w M vs hs hv
  rw [hex, run_yield h1 h2, Oper.uponIn_round]
  refine ⟨fun h => (by cases h), roundIn_ro (h3.mono ?_)⟩
  rintro e w' ⟨M', ⟨v, rfl, k1⟩ | ⟨y, v, hy, rfl, k1⟩, k2, k3⟩
  · exact hn v w' M' k1 k2 k3
  · exact hp y v w' M' hy k1 k2 k3


theorem s_makeInterface {o : Oper} {a : Act} {T : Tm} {t : TypeId} {x : Operand} {c : AV} {d : TypeDesc} (hs : Sim G B0 w0 w s M) (hT : TmR w s M T a) (hop : o.op = .makeInterface t x) (hu : P.underlying t = some d) (hd : ∀ ms, d ≠ .interface ms) (h : opd G T x = some c) : OpOk P G B0 w0 w s M o a (.iface t c) s := by
  have hv := opd_sound hs hT h
  refine ok_here hs (v := .iface t (a.eval x)) ?_ (by unfold VR; exact ⟨_, rfl, hv⟩)
  cases d <;> first | exact absurd rfl (hd _) | simp [execOp, hop, Instr.makeInterface, run_underlying hu]
theorem s_typeAssert {o : Oper} {a : Act} {T : Tm} {xt t : TypeId} {x : Operand} {c : AV} {d : TypeDesc} (hs : Sim G B0 w0 w s M) (hT : TmR w s M T a) (hop : o.op = .typeAssert x xt t false) (hu : P.underlying t = some d) (hd : ∀ ms, d ≠ .interface ms) (h : opd G T x = some (.iface t c)) : OpOk P G B0 w0 w s M o a c s := by
  have hv := opd_sound hs hT h
  unfold VR at hv
  obtain ⟨v, e, hv⟩ := hv
  refine ok_here hs (v := v) ?_ hv
  cases d <;> first | exact absurd rfl (hd _) | simp [execOp, hop, Instr.typeAssert, run_underlying hu, e]
theorem s_typeAssert_ok {o : Oper} {a : Act} {T : Tm} {xt t : TypeId} {x : Operand} {c : AV} {d : TypeDesc} (hs : Sim G B0 w0 w s M) (hT : TmR w s M T a) (hop : o.op = .typeAssert x xt t true) (hu : P.underlying t = some d) (hd : ∀ ms, d ≠ .interface ms) (h : opd G T x = some (.iface t c)) : OpOk P G B0 w0 w s M o a (.tup [c, .v (.bool true)]) s := by
  have hv := opd_sound hs hT h
  unfold VR at hv
  obtain ⟨v, e, hv⟩ := hv
  refine ok_here hs (v := .tuple #[v, .bool true]) ?_ (VR_tup (VRl_cons hv (VRl_cons (VR_v_of rfl) VRl_nil)))
  cases d <;> first | exact absurd rfl (hd _) | simp [execOp, hop, Instr.typeAssert, run_underlying hu, e]
theorem s_typeAssert_no {o : Oper} {a : Act} {T : Tm} {xt t u : TypeId} {x : Operand} {c z : AV} {zv : Value} {d : TypeDesc} (hs : Sim G B0 w0 w s M) (hT : TmR w s M T a) (hop : o.op = .typeAssert x xt t true) (hu : P.underlying t = some d) (hd : ∀ ms, d ≠ .interface ms) (h : opd G T x = some (.iface u c)) (hne : u ≠ t)
    (hz1 : zeroT P t = some zv) (hz2 : ofValue zv = some z) : OpOk P G B0 w0 w s M o a (.tup [z, .v (.bool false)]) s := by
  have hv := opd_sound hs hT h
  unfold VR at hv
  obtain ⟨v, e, hv⟩ := hv
  refine ok_here hs (v := .tuple #[zv, .bool false]) ?_ (VR_tup (VRl_cons (VR_ofValue hz2) (VRl_cons (VR_v_of rfl) VRl_nil)))
  cases d <;> first | exact absurd rfl (hd _) | simp [execOp, hop, Instr.typeAssert, run_underlying hu, e, hne, run_zeroValue hz1]
theorem s_panic {o : Oper} {a : Act} {T : Tm} {t : TypeId} {x : Operand} {c : AV} (hs : Sim G B0 w0 w s M) (hT : TmR w s M T a) (hop : o.op = .panic x) (h : opd G T x = some (.iface t c)) : OpP P G B0 w0 w s M o a (.pan (.iface t c)) s := by
  have hv := opd_sound hs hT h
  have hv' := hv
  unfold VR at hv
  obtain ⟨v, e, hv⟩ := hv
  intro ro next Q hn hp
  have hr : (execOp a.eval o).run P w = .halt (.panic (a.eval x)) w := by
    simp [execOp, hop, Instr.panic, e, goPanic]
  rw [hr, Oper.uponIn_panic]
  exact hp _ _ w M rfl hv' hs (Ext.refl _ _ _)

theorem op1_sound {call : Ab.Call} (hP : NoNum P) (hcall : CallOk P G B0 w0 call) {o : Oper} {a : Act} {T : Tm} {x : AV} {s' : St} (hs : Sim G B0 w0 w s M) (hT : TmR w s M T a) (h : evOp1 P G call o T s = some (x, s')) : OpP P G B0 w0 w s M o a x s' := by
  cases hop : o.op
  case move y =>
    simp only [evOp1, hop, Option.bind_eq_bind, Option.bind_eq_some_iff, Option.pure_def, Option.some.injEq, Prod.mk.injEq] at h
    obtain ⟨c, h1, rfl, rfl⟩ := h
    exact OpOk.up (s_move hs hT (.inl hop) h1)
  case assign y =>
    simp only [evOp1, hop, Option.bind_eq_bind, Option.bind_eq_some_iff, Option.pure_def, Option.some.injEq, Prod.mk.injEq] at h
    obtain ⟨c, h1, rfl, rfl⟩ := h
    exact OpOk.up (s_move hs hT (.inr hop) h1)
  case pick c p q =>
    simp only [evOp1, hop, Option.bind_eq_bind, Option.bind_eq_some_iff] at h
    obtain ⟨cv, h1, h⟩ := h
    split at h
    · simp only [Option.bind_eq_some_iff, Option.pure_def, Option.some.injEq, Prod.mk.injEq] at h
      obtain ⟨d, h2, rfl, rfl⟩ := h
      exact OpOk.up (s_pick hs hT hop h1 h2)
    · simp only [Option.bind_eq_some_iff, Option.pure_def, Option.some.injEq, Prod.mk.injEq] at h
      obtain ⟨d, h2, rfl, rfl⟩ := h
      exact OpOk.up (s_pick hs hT hop h1 h2)
    · cases h
  case alloc t =>
    simp only [evOp1, hop, Option.bind_eq_bind, Option.bind_eq_some_iff] at h
    obtain ⟨z, h1, h⟩ := h
    split at h
    · rename_i hr
      simp only [Option.some.injEq, Prod.mk.injEq] at h
      obtain ⟨rfl, rfl⟩ := h
      exact OpOk.up (s_alloc hs hop h1 hr)
    · cases h
  case box t y =>
    simp only [evOp1, hop, Option.bind_eq_bind, Option.bind_eq_some_iff] at h
    obtain ⟨c, h1, h⟩ := h
    split at h
    · rename_i hr
      rw [Bool.and_eq_true] at hr
      simp only [Option.some.injEq, Prod.mk.injEq] at h
      obtain ⟨rfl, rfl⟩ := h
      exact OpOk.up (s_box hs hT hop h1 hr.1 hr.2)
    · cases h
  case build t ps =>
    simp only [evOp1, hop, Option.bind_eq_bind, Option.bind_eq_some_iff] at h
    obtain ⟨z, h1, qs, h2, h⟩ := h
    split at h
    · rename_i fs hu
      simp only [Option.bind_eq_some_iff, Option.pure_def, Option.some.injEq, Prod.mk.injEq] at h
      obtain ⟨pl, h3, cs, h4, rfl, rfl⟩ := h
      exact OpOk.up (s_build_struct hs hT hop h1 h2 hu h3 h4)
    · rename_i n e hu
      simp only [Option.bind_eq_some_iff, Option.pure_def, Option.some.injEq, Prod.mk.injEq] at h
      obtain ⟨size, h3, cs, h4, rfl, rfl⟩ := h
      exact OpOk.up (s_build_array hs hT hop h1 h2 hu h3 h4)
    · cases h
  case buildSlice t len ps =>
    simp only [evOp1, hop, Option.bind_eq_bind] at h
    split at h
    · rename_i e hu
      simp only [Option.bind_eq_some_iff] at h
      obtain ⟨size, h1, z, h2, qs, h3, h⟩ := h
      split at h
      · cases h
      · rename_i hc
        simp only [Bool.or_eq_true, Bool.not_eq_true', not_or, Bool.not_eq_false] at hc
        obtain ⟨c1, c2⟩ := hc
        simp only [Option.bind_eq_some_iff] at h
        obtain ⟨cs, h4, h⟩ := h
        split at h
        · split at h
          · rename_i hcell
            simp only [Option.some.injEq, Prod.mk.injEq] at h
            obtain ⟨rfl, rfl⟩ := h
            exact OpOk.up (s_buildSlice hs hT hop hu h1 h2 h3 (nbe c1) (Nat.le_of_ble_eq_true c2) h4 hcell)
          · cases h
        · split at h
          · rename_i hcell
            rw [Bool.and_eq_true] at hcell
            simp only [Option.some.injEq, Prod.mk.injEq] at h
            obtain ⟨rfl, rfl⟩ := h
            exact OpOk.up (s_buildSliceRow hs hT hop hu h1 h2 h3 (nbe c1) (Nat.le_of_ble_eq_true c2) hcell.1 h4 hcell.2)
          · cases h
    · cases h
  case load t y =>
    simp only [evOp1, hop, Option.bind_eq_bind, Option.bind_eq_some_iff] at h
    obtain ⟨c, h1, h⟩ := h
    split at h
    · simp only [Option.bind_eq_some_iff, Option.pure_def, Option.some.injEq, Prod.mk.injEq] at h
      obtain ⟨d, h2, rfl, rfl⟩ := h
      exact OpOk.up (s_loadRow hs hT hop h1 h2)
    · simp only [Option.bind_eq_some_iff, Option.pure_def, Option.some.injEq, Prod.mk.injEq] at h
      obtain ⟨d, h2, rfl, rfl⟩ := h
      exact OpOk.up (s_load_ref hs hT hop h1 h2)
    · split at h
      · rename_i hg
        simp only [Option.bind_eq_some_iff, Option.pure_def, Option.some.injEq, Prod.mk.injEq] at h
        obtain ⟨d, h2, rfl, rfl⟩ := h
        exact OpOk.up (s_load_box hs hT hop h1 hg h2)
      · cases h
    · cases h
  case store t p y =>
    simp only [evOp1, hop, Option.bind_eq_bind, Option.bind_eq_some_iff] at h
    obtain ⟨c, h1, n, h2, q, h3, h⟩ := h
    split at h
    · split at h
      · rename_i hg
        split at h
        · rename_i hc
          simp only [Bool.and_eq_true] at hc
          simp only [Option.some.injEq, Prod.mk.injEq] at h
          obtain ⟨rfl, rfl⟩ := h
          exact OpOk.up (s_store hs hT hop h1 h2 h3 hg (nbe hc.1.1) (Nat.le_of_ble_eq_true hc.1.2) hc.2)
        · cases h
      · cases h
    · cases h
  case nilCheck y =>
    simp only [evOp1, hop, Option.bind_eq_bind, Option.bind_eq_some_iff] at h
    obtain ⟨c, h1, h⟩ := h
    split at h <;> simp only [Option.pure_def, Option.some.injEq, Prod.mk.injEq, reduceCtorEq] at h
    · obtain ⟨rfl, rfl⟩ := h; exact OpOk.up (s_nilCheck hs hT hop h1 (.inl ⟨_, rfl⟩))
    · obtain ⟨rfl, rfl⟩ := h; exact OpOk.up (s_nilCheck hs hT hop h1 (.inr (.inl ⟨_, _, rfl⟩)))
    · obtain ⟨rfl, rfl⟩ := h; exact OpOk.up (s_nilCheck hs hT hop h1 (.inr (.inr ⟨_, _, _, rfl⟩)))
  case binOp op t y z yt =>
    simp only [evOp1, hop, Option.bind_eq_bind] at h
    split at h
    · rename_i hsc
      simp only [Option.map_eq_some_iff, Prod.mk.injEq] at h
      obtain ⟨d, h1, rfl, rfl⟩ := h
      exact OpOk.up (s_scalar hs (exec_binOp hs hT hop hsc) h1)
    · simp only [Option.bind_eq_some_iff] at h
      obtain ⟨c, h1, d, h2, h⟩ := h
      split at h
      · rename_i r h3
        simp only [Option.pure_def, Option.some.injEq, Prod.mk.injEq] at h
        obtain ⟨rfl, rfl⟩ := h
        exact OpOk.up (s_symCmp hs hT hop h1 h2 h3)
      · split at h
        · rename_i r h3
          simp only [Option.pure_def, Option.some.injEq, Prod.mk.injEq] at h
          obtain ⟨rfl, rfl⟩ := h
          refine OpOk.up (s_symBin (fun hu => ?_) hs hT hop h1 h2 h3)
          split at hu
          · rename_i e; exact e
          · cases hu
        · split at h
          · rename_i r h3
            simp only [Option.pure_def, Option.some.injEq, Prod.mk.injEq] at h
            obtain ⟨rfl, rfl⟩ := h
            exact OpOk.up (s_symEqA hs hT hop h1 h2 h3)
          · simp only [Option.bind_eq_some_iff] at h
            obtain ⟨r, h3, h⟩ := h
            split at h <;> simp only [Option.pure_def, Option.some.injEq, Prod.mk.injEq, reduceCtorEq] at h
            · obtain ⟨rfl, rfl⟩ := h; exact OpOk.up (s_eqRef hs hT hop h1 h2 h3 (.inl rfl))
            · obtain ⟨rfl, rfl⟩ := h; exact OpOk.up (s_eqRef hs hT hop h1 h2 h3 (.inr rfl))
  case unOp op t y =>
    simp only [evOp1, hop] at h
    split at h
    · rename_i hsc
      simp only [Option.map_eq_some_iff, Prod.mk.injEq] at h
      obtain ⟨d, h1, rfl, rfl⟩ := h
      exact OpOk.up (s_scalar hs (exec_unOp hs hT hop hsc) h1)
    · simp only [Option.bind_eq_bind, Option.bind_eq_some_iff, Option.pure_def, Option.some.injEq, Prod.mk.injEq] at h
      obtain ⟨c, h1, r, h2, rfl, rfl⟩ := h
      exact OpOk.up (s_symUn hs hT hop h1 h2)
  case convert src dst y =>
    simp only [evOp1, hop, Option.bind_eq_bind] at h
    split at h
    · rename_i e hu1 hu2
      simp only [Option.bind_eq_some_iff] at h
      obtain ⟨c, h1, h⟩ := h
      split at h
      · rename_i b hu3
        split at h
        · rename_i hc
          rw [Bool.and_eq_true] at hc
          simp only [Option.some.injEq, Prod.mk.injEq] at h
          obtain ⟨rfl, rfl⟩ := h
          exact OpOk.up (s_str_bytes hs hT hop hu1 hu2 hu3 h1 hc.1)
        · cases h
      · cases h
    · rename_i e hu1 hu2
      split at h
      · rename_i hu3
        simp only [Option.bind_eq_some_iff] at h
        obtain ⟨c, h1, h⟩ := h
        split at h
        · simp only [Option.pure_def, Option.some.injEq, Prod.mk.injEq] at h
          obtain ⟨rfl, rfl⟩ := h
          exact OpOk.up (s_nil_str hs hT hop hu1 hu2 hu3 h1 (.inl ⟨_, _, rfl⟩))
        · simp only [Option.pure_def, Option.some.injEq, Prod.mk.injEq] at h
          obtain ⟨rfl, rfl⟩ := h
          exact OpOk.up (s_nil_str hs hT hop hu1 hu2 hu3 h1 (.inr rfl))
        · simp only [Option.bind_eq_some_iff, Option.pure_def, Option.some.injEq, Prod.mk.injEq] at h
          obtain ⟨⟨cs, n⟩, h2, b, h3, rfl, rfl⟩ := h
          exact OpOk.up (s_bytes_str hs hT hop hu1 hu2 hu3 h1 (.inl ⟨_, _, _, rfl⟩) h2 h3)
        · simp only [Option.bind_eq_some_iff, Option.pure_def, Option.some.injEq, Prod.mk.injEq] at h
          obtain ⟨⟨cs, n⟩, h2, b, h3, rfl, rfl⟩ := h
          exact OpOk.up (s_bytes_str hs hT hop hu1 hu2 hu3 h1 (.inr (.inl ⟨_, _, _, rfl⟩)) h2 h3)
        · simp only [Option.bind_eq_some_iff, Option.pure_def, Option.some.injEq, Prod.mk.injEq] at h
          obtain ⟨⟨cs, n⟩, h2, b, h3, rfl, rfl⟩ := h
          exact OpOk.up (s_bytes_str hs hT hop hu1 hu2 hu3 h1 (.inr (.inr ⟨_, _, rfl⟩)) h2 h3)
        · cases h
      · cases h
    · rename_i e e2 hu1 hu2
      simp only [Option.bind_eq_some_iff] at h
      obtain ⟨c, h1, h⟩ := h
      split at h
      · rename_i hu3
        split at h
        · rename_i hg
          split at h
          · rename_i he
            have he := nbe he; subst he
            simp only [Option.pure_def, Option.some.injEq, Prod.mk.injEq] at h
            obtain ⟨rfl, rfl⟩ := h
            exact OpOk.up (s_refreeze hs hT hop hu1 hu2 hu3 h1 hg)
          · cases h
        · cases h
      · cases h
    · rename_i e hu1 hu2
      simp only [Option.bind_eq_some_iff] at h
      obtain ⟨c, h1, h⟩ := h
      exact OpOk.up (s_toUnsafe hs hT hop hu1 hu2 h1 h)
    · rename_i e hu1 hu2
      simp only [Option.bind_eq_some_iff] at h
      obtain ⟨c, h1, h⟩ := h
      exact OpOk.up (s_fromUnsafe hs hT hop hu1 hu2 h1 h)
    · split at h
      · rename_i hsc
        simp only [Option.map_eq_some_iff, Prod.mk.injEq] at h
        obtain ⟨d, h1, rfl, rfl⟩ := h
        exact OpOk.up (s_scalar hs (exec_convert hs hT hop hsc) h1)
      · simp only [Option.bind_eq_some_iff, Option.pure_def, Option.some.injEq, Prod.mk.injEq] at h
        obtain ⟨c, h1, r, h2, rfl, rfl⟩ := h
        exact OpOk.up (s_symConv hs hT hop h1 h2)
  case makeFunc fn first captured =>
    simp only [evOp1, hop, Option.bind_eq_bind, Option.bind_eq_some_iff] at h
    obtain ⟨p, h1, q, h2, h⟩ := h
    split at h
    · simp only [Option.pure_def, Option.some.injEq, Prod.mk.injEq] at h
      obtain ⟨rfl, rfl⟩ := h
      exact OpOk.up (s_makeFunc hs hT hop h1 h2)
    · cases h
  case makeInterface t y =>
    simp only [evOp1, hop] at h
    split at h
    · cases h
    · cases h
    · rename_i d hno hu
      simp only [Option.bind_eq_bind, Option.bind_eq_some_iff, Option.pure_def, Option.some.injEq, Prod.mk.injEq] at h
      obtain ⟨c, h1, rfl, rfl⟩ := h
      exact OpOk.up (s_makeInterface hs hT hop hu (fun ms e => hno ms e) h1)
  case typeAssert y xt t ok =>
    simp only [evOp1, hop] at h
    split at h
    · cases h
    · cases h
    · rename_i d hno hu
      simp only [Option.bind_eq_bind, Option.bind_eq_some_iff] at h
      obtain ⟨c, h1, h⟩ := h
      split at h
      · split at h
        · rename_i he
          have he := nbe he
          subst he
          split at h
          · rename_i hok
            subst hok
            simp only [Option.pure_def, Option.some.injEq, Prod.mk.injEq] at h
            obtain ⟨rfl, rfl⟩ := h
            exact OpOk.up (s_typeAssert_ok hs hT hop hu (fun ms e => hno ms e) h1)
          · rename_i hok
            have hok : ok = false := by simpa using hok
            subst hok
            simp only [Option.pure_def, Option.some.injEq, Prod.mk.injEq] at h
            obtain ⟨rfl, rfl⟩ := h
            exact OpOk.up (s_typeAssert hs hT hop hu (fun ms e => hno ms e) h1)
        · rename_i he
          split at h
          · rename_i hok
            subst hok
            simp only [Option.bind_eq_some_iff, Option.pure_def, Option.some.injEq, Prod.mk.injEq] at h
            obtain ⟨z, ⟨zv, h2, h3⟩, rfl, rfl⟩ := h
            exact OpOk.up (s_typeAssert_no hs hT hop hu (fun ms e => hno ms e) h1 (fun e => he (by rw [e]; exact nbt _)) h2 h3)
          · cases h
      · cases h
  case panic y =>
    simp only [evOp1, hop, Option.bind_eq_bind, Option.bind_eq_some_iff] at h
    obtain ⟨c, h1, h⟩ := h
    split at h
    · simp only [Option.pure_def, Option.some.injEq, Prod.mk.injEq] at h
      obtain ⟨rfl, rfl⟩ := h
      exact s_panic hs hT hop h1
    · cases h
  case makeMap t r =>
    simp only [evOp1, hop] at h
    split at h
    · split at h
      · rename_i hr
        simp only [Option.some.injEq, Prod.mk.injEq] at h
        obtain ⟨rfl, rfl⟩ := h
        exact OpOk.up (s_makeMap hs hop hr)
      · cases h
    · cases h
  case makeSlice t l c =>
    simp only [evOp1, hop, Option.bind_eq_bind] at h
    split at h
    · rename_i e hu
      simp only [Option.bind_eq_some_iff] at h
      obtain ⟨size, h1, bytes, h2, z, h3, cl, h4, ln, h5, cc, h6, cn, h7, h⟩ := h
      split at h
      · cases h
      · rename_i hc
        simp only [Bool.or_eq_true, Bool.not_eq_true', not_or, Bool.not_eq_false] at hc
        obtain ⟨⟨⟨c1, c2⟩, c3⟩, c4⟩ := hc
        split at h
        · rename_i he
          have he := nbe he; subst he
          simp only [Option.some.injEq, Prod.mk.injEq] at h
          obtain ⟨rfl, rfl⟩ := h
          exact OpOk.up (s_make_full hs hT hop hu h1 h2 h3 (nbe c1) h4 h6 h5 h7 c2 (Nat.le_of_ble_eq_true c3) (Nat.le_of_ble_eq_true c4))
        · split at h
          · rename_i he
            have he := nbe he; subst he
            simp only [Option.some.injEq, Prod.mk.injEq] at h
            obtain ⟨rfl, rfl⟩ := h
            exact OpOk.up (s_make_none hs hT hop hu h1 h2 h3 (nbe c1) h4 h6 h5 h7 c2 (Nat.le_of_ble_eq_true c3) (Nat.le_of_ble_eq_true c4))
          · cases h
    · cases h
  case fieldAddr st y i =>
    simp only [evOp1, hop, Option.bind_eq_bind] at h
    split at h
    · rename_i fs hu
      simp only [Option.bind_eq_some_iff] at h
      obtain ⟨f, h1, n, h2, h⟩ := h
      split at h
      · cases h
      · rename_i hne
        have hne : n ≠ 0 := fun e => hne (by rw [e]; rfl)
        simp only [Option.bind_eq_some_iff] at h
        obtain ⟨c, h3, h⟩ := h
        split at h <;> simp only [Option.pure_def, Option.some.injEq, Prod.mk.injEq, reduceCtorEq] at h
        · obtain ⟨rfl, rfl⟩ := h; exact OpOk.up (s_fieldAddr hs hT hop hu h1 h2 hne h3 (.inl ⟨_, rfl, rfl⟩))
        · obtain ⟨rfl, rfl⟩ := h; exact OpOk.up (s_fieldRow hs hT hop hu h1 h2 hne h3)
        · obtain ⟨rfl, rfl⟩ := h; exact OpOk.up (s_fieldAddr hs hT hop hu h1 h2 hne h3 (.inr ⟨_, _, rfl, rfl⟩))
    · cases h
  case field st y i =>
    simp only [evOp1, hop, Option.bind_eq_bind] at h
    split at h
    · rename_i fs hu
      simp only [Option.bind_eq_some_iff] at h
      obtain ⟨f, h1, c, h3, h⟩ := h
      split at h
      · simp only [Option.bind_eq_some_iff, Option.pure_def, Option.some.injEq, Prod.mk.injEq] at h
        obtain ⟨d, h4, rfl, rfl⟩ := h
        exact OpOk.up (s_field hs hT hop hu h1 h3 h4)
      · cases h
    · cases h
  case indexAddr t y ix =>
    simp only [evOp1, hop, Option.bind_eq_bind, Option.bind_eq_some_iff] at h
    obtain ⟨c0, h0, h⟩ := h
    split at h
    · rename_i rt e el hu
      simp only [Option.bind_eq_some_iff] at h
      obtain ⟨n, h3, h⟩ := h
      split at h
      · cases h
      · rename_i hL
        simp only [Option.bind_eq_some_iff, Option.pure_def, Option.some.injEq, Prod.mk.injEq] at h
        obtain ⟨v, h4, e', h5, rfl, rfl⟩ := h
        exact OpOk.up (s_symAt hs hT hop hu h3 (nbe (by simpa using hL)) h0 h4 h5)
    · simp only [Option.bind_eq_some_iff] at h
      obtain ⟨ci, h1, i, h2, h⟩ := h
      split at h
      · rename_i e hu
        simp only [Option.bind_eq_some_iff] at h
        obtain ⟨n, h3, c, h4, h⟩ := h
        split at h
        · split at h
          · rename_i hlt
            simp only [Option.pure_def, Option.some.injEq, Prod.mk.injEq] at h
            obtain ⟨rfl, rfl⟩ := h
            exact OpOk.up (s_indexAddr hs hT hop h1 h2 h3 h4 (.inl ⟨hu, .inl ⟨_, _, _, rfl, Nat.le_of_ble_eq_true hlt, rfl⟩⟩))
          · cases h
        · split at h
          · rename_i hlt
            simp only [Option.pure_def, Option.some.injEq, Prod.mk.injEq] at h
            obtain ⟨rfl, rfl⟩ := h
            exact OpOk.up (s_indexAddr hs hT hop h1 h2 h3 h4 (.inl ⟨hu, .inr (.inl ⟨_, _, _, rfl, Nat.le_of_ble_eq_true hlt, rfl⟩)⟩))
          · cases h
        · split at h
          · rename_i hlt
            simp only [Option.pure_def, Option.some.injEq, Prod.mk.injEq] at h
            obtain ⟨rfl, rfl⟩ := h
            exact OpOk.up (s_indexAddr hs hT hop h1 h2 h3 h4 (.inl ⟨hu, .inr (.inr ⟨_, _, rfl, Nat.le_of_ble_eq_true hlt, rfl⟩)⟩))
          · cases h
        · cases h
      · rename_i len e hu
        simp only [Option.bind_eq_some_iff] at h
        obtain ⟨n, h3, c, h4, h⟩ := h
        split at h
        · split at h
          · rename_i hlt
            simp only [Option.pure_def, Option.some.injEq, Prod.mk.injEq] at h
            obtain ⟨rfl, rfl⟩ := h
            exact OpOk.up (s_indexAddr hs hT hop h1 h2 h3 h4 (.inr ⟨_, hu, Nat.le_of_ble_eq_true hlt, .inl ⟨_, rfl, rfl⟩⟩))
          · cases h
        · split at h
          · rename_i hlt
            simp only [Option.pure_def, Option.some.injEq, Prod.mk.injEq] at h
            obtain ⟨rfl, rfl⟩ := h
            exact OpOk.up (s_indexAddr hs hT hop h1 h2 h3 h4 (.inr ⟨_, hu, Nat.le_of_ble_eq_true hlt, .inr ⟨_, _, rfl, rfl⟩⟩))
          · cases h
        · cases h
      · cases h
  case index t y ix =>
    simp only [evOp1, hop, Option.bind_eq_bind] at h
    split at h
    · rename_i len e hu
      simp only [Option.bind_eq_some_iff] at h
      obtain ⟨ci, h1, i, h2, n, h3, c, h4, h⟩ := h
      split at h
      · split at h
        · rename_i hlt
          simp only [Option.bind_eq_some_iff, Option.pure_def, Option.some.injEq, Prod.mk.injEq] at h
          obtain ⟨d, h5, rfl, rfl⟩ := h
          exact OpOk.up (s_index hs hT hop h1 h2 h3 h4 hu (Nat.le_of_ble_eq_true hlt) h5)
        · cases h
      · cases h
    · split at h
      · rename_i hsc
        simp only [Option.map_eq_some_iff, Prod.mk.injEq] at h
        obtain ⟨d, h1, rfl, rfl⟩ := h
        exact OpOk.up (s_scalar hs (exec_index hs hT hop hsc) h1)
      · split at h
        · rename_i hu
          simp only [Option.bind_eq_some_iff, Option.pure_def, Option.some.injEq, Prod.mk.injEq] at h
          obtain ⟨c, h1, ci, h2, r, h3, rfl, rfl⟩ := h
          exact OpOk.up (s_symIndex hs hT hop hu h1 h2 h3)
        · cases h
  case slice t y lo hi mx =>
    simp only [evOp1, hop, Option.bind_eq_bind] at h
    split at h
    · rename_i hu
      split at h
      · cases h
      · rename_i hmx
        have : mx = none := by cases mx with | none => rfl | some _ => simp at hmx
        subst this
        split at h
        · rename_i hsc
          simp only [Option.map_eq_some_iff, Prod.mk.injEq] at h
          obtain ⟨d, h1, rfl, rfl⟩ := h
          exact OpOk.up (s_scalar hs (exec_slice hs hT hop hsc) h1)
        · simp only [Option.bind_eq_some_iff, Option.pure_def, Option.some.injEq, Prod.mk.injEq] at h
          obtain ⟨c, h1, cl, h2, ch, h3, r, h4, rfl, rfl⟩ := h
          exact OpOk.up (s_symSub hs hT hop hu h1 h2 h3 h4)
    · rename_i e hu
      simp only [Option.bind_eq_some_iff] at h
      obtain ⟨size, h1, l, h2, c, h3, h⟩ := h
      split at h
      · rename_i m
        simp only [Option.bind_eq_some_iff] at h
        obtain ⟨hn, h4, cm, h5, mn, h6, h⟩ := h
        split at h
        · rename_i hc
          simp only [Bool.and_eq_true] at hc
          obtain ⟨⟨c1, c2⟩, c3⟩ := hc
          have c1 := nbe c1; have c2 := nbe c2; have c3 := nbe c3
          subst c1 c2 c3
          cases hi with
          | none => cases h4
          | some hi =>
            simp only [bnd0, Option.bind_eq_some_iff] at h4
            obtain ⟨ch, h4, h7⟩ := h4
            split at h <;> simp only [Option.pure_def, Option.some.injEq, Prod.mk.injEq, reduceCtorEq] at h
            · obtain ⟨rfl, rfl⟩ := h; exact OpOk.up (s_slice_none hs hT hop hu h1 h3 h2 h4 h5 h7 h6 (.inl ⟨_, _, rfl, rfl⟩))
            · obtain ⟨rfl, rfl⟩ := h; exact OpOk.up (s_slice_none hs hT hop hu h1 h3 h2 h4 h5 h7 h6 (.inr ⟨.inl ⟨_, _, _, rfl⟩, rfl⟩))
            · obtain ⟨rfl, rfl⟩ := h; exact OpOk.up (s_slice_none hs hT hop hu h1 h3 h2 h4 h5 h7 h6 (.inr ⟨.inr (.inl ⟨_, _, _, rfl⟩), rfl⟩))
            · obtain ⟨rfl, rfl⟩ := h; exact OpOk.up (s_slice_none hs hT hop hu h1 h3 h2 h4 h5 h7 h6 (.inr ⟨.inr (.inr (.inl ⟨_, _, rfl⟩)), rfl⟩))
            · obtain ⟨rfl, rfl⟩ := h; exact OpOk.up (s_slice_none hs hT hop hu h1 h3 h2 h4 h5 h7 h6 (.inr ⟨.inr (.inr (.inr rfl)), rfl⟩))
        · cases h
      · split at h
        · simp only [Option.bind_eq_some_iff] at h
          obtain ⟨hn, h4, h⟩ := h
          split at h
          · rename_i hc
            rw [Bool.and_eq_true] at hc
            simp only [Option.pure_def, Option.some.injEq, Prod.mk.injEq] at h
            obtain ⟨rfl, rfl⟩ := h
            exact OpOk.up (s_slice hs hT hop hu h1 h3 h2 (.inl ⟨_, _, rfl, h4, nbe hc.1, nbe hc.2, rfl⟩))
          · cases h
        · simp only [Option.bind_eq_some_iff] at h
          obtain ⟨hn, h4, h⟩ := h
          split at h
          · rename_i hc
            rw [Bool.and_eq_true] at hc
            simp only [Option.pure_def, Option.some.injEq, Prod.mk.injEq] at h
            obtain ⟨rfl, rfl⟩ := h
            exact OpOk.up (s_slice hs hT hop hu h1 h3 h2 (.inr (.inl ⟨rfl, h4, nbe hc.1, nbe hc.2, rfl⟩)))
          · cases h
        · rename_i cs len tok
          simp only [Option.bind_eq_some_iff] at h
          obtain ⟨hn, h4, h⟩ := h
          split at h
          · cases h
          · rename_i hc
            simp only [Bool.or_eq_true, Bool.not_eq_true', not_or, Bool.not_eq_false] at hc
            have k1 := Nat.le_of_ble_eq_true hc.1
            have k2 := Nat.le_of_ble_eq_true hc.2
            split at h
            · rename_i he
              simp only [Option.pure_def, Option.some.injEq, Prod.mk.injEq] at h
              obtain ⟨rfl, rfl⟩ := h
              exact OpOk.up (s_slice hs hT hop hu h1 h3 h2 (.inr (.inr (.inl ⟨_, _, _, rfl, h4, k1, k2, .inl ⟨nbe he, rfl⟩⟩))))
            · rename_i he
              simp only [Option.pure_def, Option.some.injEq, Prod.mk.injEq] at h
              obtain ⟨rfl, rfl⟩ := h
              refine OpOk.up (s_slice hs hT hop hu h1 h3 h2 (.inr (.inr (.inl ⟨_, _, _, rfl, h4, k1, k2, .inr ⟨fun e => he (by rw [e]; exact nbt _), _, ?_, rfl⟩⟩))))
              split
              · rename_i hc2
                rw [Bool.and_eq_true] at hc2
                exact .inr ⟨rfl, nbe hc2.1, nbe hc2.2⟩
              · exact .inl rfl
        · simp only [Option.bind_eq_some_iff] at h
          obtain ⟨hn, h4, h⟩ := h
          split at h
          · cases h
          · rename_i hc
            simp only [Bool.or_eq_true, Bool.not_eq_true', not_or, Bool.not_eq_false] at hc
            have k1 := Nat.le_of_ble_eq_true hc.1
            have k2 := Nat.le_of_ble_eq_true hc.2
            split at h
            · rename_i he
              simp only [Option.pure_def, Option.some.injEq, Prod.mk.injEq] at h
              obtain ⟨rfl, rfl⟩ := h
              exact OpOk.up (s_slice hs hT hop hu h1 h3 h2 (.inr (.inr (.inr (.inl ⟨_, _, _, rfl, h4, k1, k2, .inl ⟨nbe he, rfl⟩⟩)))))
            · rename_i he
              simp only [Option.pure_def, Option.some.injEq, Prod.mk.injEq] at h
              obtain ⟨rfl, rfl⟩ := h
              exact OpOk.up (s_slice hs hT hop hu h1 h3 h2 (.inr (.inr (.inr (.inl ⟨_, _, _, rfl, h4, k1, k2, .inr ⟨fun e => he (by rw [e]; exact nbt _), rfl⟩⟩)))))
        · simp only [Option.bind_eq_some_iff] at h
          obtain ⟨hn, h4, h⟩ := h
          split at h
          · cases h
          · rename_i hc
            simp only [Bool.or_eq_true, Bool.not_eq_true', not_or, Bool.not_eq_false] at hc
            have k1 := Nat.le_of_ble_eq_true hc.1
            have k2 := Nat.le_of_ble_eq_true hc.2
            split at h
            · rename_i he
              simp only [Option.pure_def, Option.some.injEq, Prod.mk.injEq] at h
              obtain ⟨rfl, rfl⟩ := h
              exact OpOk.up (s_slice hs hT hop hu h1 h3 h2 (.inr (.inr (.inr (.inr ⟨_, _, rfl, h4, k1, k2, .inl ⟨nbe he, rfl⟩⟩)))))
            · rename_i he
              split at h
              · rename_i hf
                rw [Bool.and_eq_true] at hf
                simp only [Option.pure_def, Option.some.injEq, Prod.mk.injEq] at h
                obtain ⟨rfl, rfl⟩ := h
                exact OpOk.up (s_slice hs hT hop hu h1 h3 h2 (.inr (.inr (.inr (.inr ⟨_, _, rfl, h4, k1, k2, .inr ⟨fun e => he (by rw [e]; exact nbt _), .inl ⟨nbe hf.1, nbe hf.2, rfl⟩⟩⟩)))))
              · simp only [Option.pure_def, Option.some.injEq, Prod.mk.injEq] at h
                obtain ⟨rfl, rfl⟩ := h
                exact OpOk.up (s_slice hs hT hop hu h1 h3 h2 (.inr (.inr (.inr (.inr ⟨_, _, rfl, h4, k1, k2, .inr ⟨fun e => he (by rw [e]; exact nbt _), .inr rfl⟩⟩)))))
        · cases h
    · rename_i n e hu
      simp only [Option.bind_eq_some_iff] at h
      obtain ⟨size, h1, l, h2, hn, h3, h⟩ := h
      split at h
      · cases h
      · rename_i hc
        simp only [Bool.or_eq_true, Bool.not_eq_true', not_or, Bool.not_eq_false] at hc
        obtain ⟨⟨c1, c2⟩, c3⟩ := hc
        have : mx = none := by cases mx with | none => rfl | some _ => simp at c1
        subst this
        have c2 := Nat.le_of_ble_eq_true c2
        have c3 := Nat.le_of_ble_eq_true c3
        split at h
        · cases h
        · rename_i he
          have he : l ≠ n := fun e => he (by rw [e]; exact nbt _)
          simp only [Option.bind_eq_some_iff] at h
          obtain ⟨c, h4, h⟩ := h
          split at h <;> simp only [Option.pure_def, Option.some.injEq, Prod.mk.injEq, reduceCtorEq] at h
          · obtain ⟨rfl, rfl⟩ := h; exact OpOk.up (s_slice_arr hs hT hop hu h1 h4 h2 h3 c2 c3 (.inr ⟨_, _, rfl, .inr ⟨he, rfl⟩⟩))
          · obtain ⟨rfl, rfl⟩ := h; exact OpOk.up (s_slice_arr hs hT hop hu h1 h4 h2 h3 c2 c3 (.inl ⟨_, rfl, .inr ⟨he, rfl⟩⟩))
    · cases h
  case lookup t y ix ok =>
    simp only [evOp1, hop, Option.bind_eq_bind] at h
    split at h
    · rename_i k e hu
      simp only [Option.bind_eq_some_iff] at h
      obtain ⟨ck, h1, key, h2, z, ⟨zv, h3, h4⟩, h⟩ := h
      split at h
      · cases h
      · rename_i hk
        simp only [Bool.not_eq_true', Bool.not_eq_false] at hk
        simp only [Option.bind_eq_some_iff] at h
        obtain ⟨c, h5, r, h6, h⟩ := h
        have hd : x = (if ok then .tup [r.getD z, .v (.bool r.isSome)] else r.getD z) ∧ s' = s := by
          cases ok <;> simp only [if_true, Bool.false_eq_true, if_false, Option.pure_def, Option.some.injEq, Prod.mk.injEq] at h ⊢ <;> exact ⟨h.1.symm, h.2.symm⟩
        obtain ⟨rfl, rfl⟩ := hd
        refine OpOk.up (s_lookup hs hT hop hu h1 h2 h3 h4 hk h5 ?_)
        unfold findIn at h6
        split at h6
        · cases h6; exact .inl ⟨rfl, rfl⟩
        · split at h6
          · rename_i hg; exact .inr ⟨_, _, rfl, hg, h6⟩
          · cases h6
        · cases h6
    · cases h
  case mapUpdate t m k y =>
    simp only [evOp1, hop, Option.bind_eq_bind] at h
    split at h
    · rename_i kt e hu
      simp only [Option.bind_eq_some_iff] at h
      obtain ⟨ck, h1, key, h2, d, h3, h⟩ := h
      split at h
      · cases h
      · rename_i hk
        simp only [Bool.not_eq_true', Bool.not_eq_false] at hk
        simp only [Option.bind_eq_some_iff] at h
        obtain ⟨c, h4, h⟩ := h
        split at h
        · split at h
          · rename_i hg
            simp only [Option.bind_eq_some_iff, Option.pure_def, Option.some.injEq, Prod.mk.injEq] at h
            obtain ⟨es', h5, rfl, rfl⟩ := h
            exact OpOk.up (s_mapUpdate hs hT (.inl hop) hu h1 h2 h3 hk h4 hg h5)
          · cases h
        · cases h
    · cases h
  case insert t m k y =>
    simp only [evOp1, hop, Option.bind_eq_bind] at h
    split at h
    · rename_i kt e hu
      simp only [Option.bind_eq_some_iff] at h
      obtain ⟨ck, h1, key, h2, d, h3, h⟩ := h
      split at h
      · cases h
      · rename_i hk
        simp only [Bool.not_eq_true', Bool.not_eq_false] at hk
        simp only [Option.bind_eq_some_iff] at h
        obtain ⟨c, h4, h⟩ := h
        split at h
        · split at h
          · rename_i hg
            simp only [Option.bind_eq_some_iff, Option.pure_def, Option.some.injEq, Prod.mk.injEq] at h
            obtain ⟨es', h5, rfl, rfl⟩ := h
            exact OpOk.up (s_mapUpdate hs hT (.inr hop) hu h1 h2 h3 hk h4 hg h5)
          · cases h
        · cases h
    · cases h
  case extract y ix =>
    simp only [evOp1, hop, Option.bind_eq_bind, Option.bind_eq_some_iff] at h
    obtain ⟨c, h1, h⟩ := h
    split at h
    · simp only [Option.bind_eq_some_iff, Option.pure_def, Option.some.injEq, Prod.mk.injEq] at h
      obtain ⟨d, h2, rfl, rfl⟩ := h
      exact OpOk.up (s_extract hs hT hop h1 h2)
    · cases h
  case call c =>
    simp only [evOp1, hop, Option.bind_eq_bind, Option.bind_eq_some_iff] at h
    obtain ⟨args, h1, h⟩ := h
    split at h
    · rename_i hc
      simp only [Option.bind_eq_some_iff] at h
      obtain ⟨t0, h2, h⟩ := h
      split at h
      · rename_i b hu hx
        simp only [Option.pure_def, Option.some.injEq, Prod.mk.injEq] at h
        obtain ⟨rfl, rfl⟩ := h
        exact OpOk.up (s_len hs hT hop hc h2 h1 hx hu (.inl ⟨rfl, _, rfl, rfl⟩))
      · rename_i e hu hx
        simp only [Option.pure_def, Option.some.injEq, Prod.mk.injEq] at h
        obtain ⟨rfl, rfl⟩ := h
        exact OpOk.up (s_lenS hs hT hop hc h2 h1 hx hu)
      · rename_i el rt e hu hx
        simp only [Option.pure_def, Option.some.injEq, Prod.mk.injEq] at h
        obtain ⟨rfl, rfl⟩ := h
        exact OpOk.up (s_lenD hs hT hop hc h2 h1 hx hu)
      · rename_i e l k hu hx
        simp only [Option.pure_def, Option.some.injEq, Prod.mk.injEq] at h
        obtain ⟨rfl, rfl⟩ := h
        exact OpOk.up (s_len hs hT hop hc h2 h1 hx hu (.inr (.inl ⟨⟨_, rfl⟩, .inl ⟨_, rfl⟩⟩)))
      · rename_i e hu hx
        simp only [Option.pure_def, Option.some.injEq, Prod.mk.injEq] at h
        obtain ⟨rfl, rfl⟩ := h
        exact OpOk.up (s_len (n := 0) hs hT hop hc h2 h1 hx hu (.inr (.inl ⟨⟨_, rfl⟩, .inr (.inl ⟨rfl, rfl⟩)⟩)))
      · rename_i e l n t hu hx
        simp only [Option.pure_def, Option.some.injEq, Prod.mk.injEq] at h
        obtain ⟨rfl, rfl⟩ := h
        exact OpOk.up (s_len hs hT hop hc h2 h1 hx hu (.inr (.inl ⟨⟨_, rfl⟩, .inr (.inr (.inl ⟨_, _, rfl⟩))⟩)))
      · rename_i e b off n hu hx
        simp only [Option.pure_def, Option.some.injEq, Prod.mk.injEq] at h
        obtain ⟨rfl, rfl⟩ := h
        exact OpOk.up (s_len hs hT hop hc h2 h1 hx hu (.inr (.inl ⟨⟨_, rfl⟩, .inr (.inr (.inr (.inl ⟨_, _, rfl⟩)))⟩)))
      · rename_i e b n hu hx
        simp only [Option.pure_def, Option.some.injEq, Prod.mk.injEq] at h
        obtain ⟨rfl, rfl⟩ := h
        exact OpOk.up (s_len hs hT hop hc h2 h1 hx hu (.inr (.inl ⟨⟨_, rfl⟩, .inr (.inr (.inr (.inr ⟨_, rfl⟩)))⟩)))
      · rename_i n e y hu hx
        simp only [Option.pure_def, Option.some.injEq, Prod.mk.injEq] at h
        obtain ⟨rfl, rfl⟩ := h
        exact OpOk.up (s_len hs hT hop hc h2 h1 hx hu (.inr (.inr (.inl ⟨_, rfl⟩))))
      · rename_i k e hu hx
        simp only [Option.pure_def, Option.some.injEq, Prod.mk.injEq] at h
        obtain ⟨rfl, rfl⟩ := h
        exact OpOk.up (s_len (n := 0) hs hT hop hc h2 h1 hx hu (.inr (.inr (.inr ⟨⟨_, _, rfl⟩, .inl ⟨rfl, rfl⟩⟩))))
      · rename_i k e m hu hx
        split at h
        · rename_i es hg
          simp only [Option.pure_def, Option.some.injEq, Prod.mk.injEq] at h
          obtain ⟨rfl, rfl⟩ := h
          exact OpOk.up (s_len hs hT hop hc h2 h1 hx hu (.inr (.inr (.inr ⟨⟨_, _, rfl⟩, .inr ⟨_, _, rfl, hg, rfl⟩⟩))))
        · cases h
      · cases h
    · rename_i hc
      simp only [Option.bind_eq_some_iff] at h
      obtain ⟨t0, h2, t1, h3, h⟩ := h
      split at h
      · rename_i e p q hu
        have hargs : ∃ op oq, c.args = #[op, oq] ∧ opd G T op = some p ∧ opd G T oq = some q := by
          have hl : c.args = c.args.toList.toArray := by simp
          generalize c.args.toList = l at h1 hl
          rw [hl]
          match l, h1 with
          | [], h1 => simp [opds] at h1
          | [_], h1 => simp [opds, Option.bind_eq_some_iff] at h1
          | [op, oq], h1 =>
            simp only [opds, Option.bind_eq_bind, Option.bind_eq_some_iff, Option.pure_def, Option.some.injEq, List.cons.injEq] at h1
            obtain ⟨p', g1, l1, ⟨q', g2, l2, rfl, rfl⟩, rfl, rfl, _⟩ := h1
            exact ⟨op, oq, rfl, g1, g2⟩
          | _ :: _ :: _ :: _, h1 => simp [opds, Option.bind_eq_some_iff] at h1
        obtain ⟨op, oq, hargs, g1, g2⟩ := hargs
        split at h
        · rename_i hu1
          exact OpOk.up (s_appendX hs hT hop hc h2 h3 hu hu1 (fun k => by simp) hargs g1 g2 h)
        · rename_i hu1
          exact OpOk.up (s_appendX hs hT hop hc h2 h3 hu hu1 (fun k => by simp) hargs g1 g2 h)
        · cases h
      · cases h
    · rename_i hc
      simp only [Option.bind_eq_some_iff] at h
      obtain ⟨t0, h2, h⟩ := h
      split at h
      · rename_i e b off len y hu
        simp only [Option.bind_eq_some_iff] at h
        obtain ⟨size, h3, ⟨ys, n⟩, h4, h⟩ := h
        split at h
        · rename_i ds hg
          split at h
          · rename_i hcc
            simp only [Bool.and_eq_true] at hcc
            obtain ⟨⟨⟨c1, c2⟩, c3⟩, c4⟩ := hcc
            simp only [Option.some.injEq, Prod.mk.injEq] at h
            obtain ⟨rfl, rfl⟩ := h
            exact OpOk.up (s_copy hs hT hop hc h2 hu h1 h3 h4 (nbe c4) hg (Nat.le_of_ble_eq_true c1) c3)
          · cases h
        · cases h
      · cases h
    · rename_i hc
      split at h
      · rename_i hsc
        simp only [Option.map_eq_some_iff, Prod.mk.injEq] at h
        obtain ⟨d, h2, rfl, rfl⟩ := h
        exact OpOk.up (s_scalar hs (exec_builtin hs hT hop hc hsc) h2)
      · simp only [Option.map_eq_some_iff, Prod.mk.injEq] at h
        obtain ⟨r, h2, rfl, rfl⟩ := h
        exact OpOk.up (s_symMM (mx := true) hs hT hop hc h1 h2)
    · rename_i hc
      split at h
      · rename_i hsc
        simp only [Option.map_eq_some_iff, Prod.mk.injEq] at h
        obtain ⟨d, h2, rfl, rfl⟩ := h
        exact OpOk.up (s_scalar hs (exec_builtin hs hT hop hc hsc) h2)
      · simp only [Option.map_eq_some_iff, Prod.mk.injEq] at h
        obtain ⟨r, h2, rfl, rfl⟩ := h
        exact OpOk.up (s_symMM (mx := false) hs hT hop hc h1 h2)
    · rename_i hc
      split at h
      · simp only [Option.bind_eq_some_iff, Option.pure_def, Option.some.injEq, Prod.mk.injEq] at h
        obtain ⟨r, h2, rfl, rfl⟩ := h
        exact OpOk.up (s_sliceData hs hT hop hc h1 h2)
      · cases h
    · rename_i hc
      split at h
      · rename_i h2
        exact OpOk.up (s_unsafeStr hs hT hop hc h2 h1 h)
      · cases h
    · cases h
    · rename_i recv name hc
      simp only [Option.bind_eq_some_iff] at h
      obtain ⟨cr, h2, h⟩ := h
      split at h
      · rename_i t x
        simp only [Option.bind_eq_some_iff] at h
        obtain ⟨g, h3, h⟩ := h
        have vr := opd_sound hs hT h2
        have va := opds_sound hs hT h1
        unfold VR at vr
        obtain ⟨v, er, vr⟩ := vr
        refine s_callA hP hcall (g := g) (vs := #[v] ++ c.args.map a.eval) hs ?_ ?_ h
        · have hm := method_run h3 (v := v) w (P.types.size + (Made.depth - 1))
          have e0 : P.types.size + (Made.depth - 1) + 1 = P.types.size + Made.depth := rfl
          rw [e0] at hm
          simp only [execOp, hop, resolve, hc, pure_bind, invoke, er]
          simp only [Array.getElem?_append, List.size_toArray, List.length_cons, List.length_nil]
          have e9 : (c.args.map a.eval).extract 0 c.args.size = c.args.map a.eval := by
            have : c.args.size = (c.args.map a.eval).size := by simp
            rw [this, Array.extract_size]
          simp [callMethod, hm, e9]
        · rw [Array.toList_append, Array.toList_map]
          exact VRl_cons vr va
      · cases h
    · rename_i f hc
      simp only [Option.bind_eq_some_iff] at h
      obtain ⟨cf, h2, h⟩ := h
      split at h
      · rename_i g first captured
        have vf := opd_sound hs hT h2
        have va := opds_sound hs hT h1
        unfold VR at vf
        obtain ⟨f', p', q', ef, e2, k1, k2⟩ := vf
        simp only [renFn, Option.some.injEq] at e2
        subst e2
        refine s_callA hP hcall (g := g) (vs := p' ++ c.args.map a.eval ++ q') hs (congrArg (fun z => Sem.run P z w) ?_) ?_ h
        · simp only [execOp, hop, resolve, hc, ef, Deferred.ofValue, pure_bind, invoke]
        · rw [Array.toList_append, Array.toList_append, Array.toList_map]
          exact (k1.append va).append k2
      · rename_i l
        have vf := opd_sound hs hT h2
        have va := opds_sound hs hT h1
        unfold VR at vf
        obtain ⟨f', p', q', ef, e2, k1, k2⟩ := vf
        simp only [renFn] at e2
        split at e2
        · simp only [Option.some.injEq] at e2
          subst e2
          unfold VRl at k1
          have hp : p' = #[] := by apply Array.toList_inj.1; rw [k1]
          subst hp
          refine s_yield hcall (l := l) (vs := c.args.map a.eval) hs ?_ (by rw [Array.toList_map]; exact va) h
          simp only [execOp, hop, resolve, hc, ef, Deferred.ofValue, pure_bind, invoke, Array.empty_append]
        · cases e2
      · cases h
  all_goals
    simp only [evOp1, hop, reduceCtorEq] at h
theorem settleB_VR (hs : Sim G B0 w0 w s M) {x : AV} {v : Value} (hv : VR w s M x v) : VR w s M (settleB s.k x) v := by
  unfold settleB
  split
  · rename_i e
    split
    · rename_i b hb
      unfold VR at hv
      obtain ⟨h1, h2⟩ := hv
      cases v <;> simp only [tyV, Bool.false_eq_true] at h2
      rename_i b'
      have := ask_sound hs (e := e) (b := b') h1 hb
      subst this
      exact VR_v.2 ⟨rfl, rfl⟩
    · exact hv
  · exact hv
theorem settleB_pan {k : Kn} {x y : AV} (h : isPan (settleB k x) = some y) : x = .pan y := by
  unfold settleB at h
  split at h
  · split at h <;> cases h
  · unfold isPan at h
    split at h
    · cases h; rfl
    · cases h
theorem op_sound {call : Ab.Call} (hP : NoNum P) (hcall : CallOk P G B0 w0 call) {o : Oper} {a : Act} {T : Tm} {x : AV} {s' : St} (hs : Sim G B0 w0 w s M) (hT : TmR w s M T a) (h : evOp P G call o T s = some (x, s')) : OpP P G B0 w0 w s M o a x s' := by
  unfold evOp at h
  split at h
  · rename_i x1 s1 h1
    cases h
    intro ro next Q hn hp
    refine op1_sound hP hcall hs hT h1 ro next Q (fun v w' M' k1 k2 k3 => hn v w' M' (settleB_VR k2 k1) k2 k3) fun y v w' M' hy k1 k2 k3 => hp y v w' M' ?_ k1 k2 k3
    unfold isPan at hy
    split at hy
    · cases hy; rfl
    · cases hy
  · split at h
    · rename_i x1 s1 h1
      cases h
      intro ro next Q hn hp
      exact evSym_sound hs hT h1 ro next Q fun v w' M' k1 k2 k3 => hn v w' M' (settleB_VR k2 k1) k2 k3
    · cases h
end
end Go.Ab
