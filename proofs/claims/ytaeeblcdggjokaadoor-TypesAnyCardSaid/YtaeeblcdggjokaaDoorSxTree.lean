/- A function, proved by the trees of its ways: from its entry, and from each loop's head, to the next head or to its end. -/
import Derived.Test.YtaeeblcdggjokaaDoorSxHead
namespace Go.Ab
set_option linter.unusedVariables false
set_option linter.unusedSimpArgs false
set_option linter.unusedSectionVars false
set_option linter.constructorNameAsVariable false
open Go Go.RowKit

/-- Where a way ends: the function's result, or a loop's head and what its variables are. -/
inductive Out where
  | ret (e : E)
  | go (j : Nat) (es : List E)
inductive OutD where
  | ret (d : D)
  | go (j : Nat) (ds : List D)
inductive Tree where
  | leaf (o : Out)
  | ite (c : E) (t f : Tree)
  | giv (c : E) (t : Tree)
  | dead
def outEq : Out → Out → Bool
  | .ret a, .ret b => eEq a b
  | .go i a, .go j b => Nat.beq i j && eEqL a b
  | _, _ => false
theorem outEq_eq {a b : Out} (h : outEq a b = true) : a = b := by
  unfold outEq at h
  split at h
  · rw [eEq_eq h]
  · rw [Bool.and_eq_true] at h; rw [nbe h.1, eEqL_eq h.2]
  · cases h
/-- The tree's ways are the program's. -/
def Tree.ok (run : List E → Option Out) : List E → Tree → Bool
  | fx, .leaf o => match run fx with | some o' => outEq o o' | none => false
  | fx, .ite c t f => t.ok run (c :: fx) && f.ok run (.pr .not [c] :: fx)
  | fx, .giv c t => t.ok run (c :: fx)
  | _, .dead => true
section
variable [Interp]
def Out.den (env : Nat → D) : Out → OutD
  | .ret e => .ret (e.den env)
  | .go j es => .go j (E.denL env es)
/-- The tree's ways end well. -/
def Tree.holds (good : OutD → Prop) (env : Nat → D) : Tree → Prop
  | .leaf o => good (o.den env)
  | .ite c t f => c.den env = .ofBool (c.den env).bool ∧ ((c.den env).bool = true → t.holds good env) ∧ ((c.den env).bool = false → f.holds good env)
  | .giv c t => c.den env = .v (.bool true) ∧ t.holds good env
  | .dead => False
theorem tree_sound {run : List E → Option Out} {good : OutD → Prop} {env : Nat → D} : ∀ {t : Tree} {fx : List E}, t.ok run fx = true → (∀ e, e ∈ fx → e.den env = .v (.bool true)) → t.holds good env →
    ∃ fx' o, (∀ e, e ∈ fx' → e.den env = .v (.bool true)) ∧ run fx' = some o ∧ good (o.den env)
  | .leaf o, fx, h, hfx, hg => by
    unfold Tree.ok at h
    split at h
    · rename_i o' ho
      obtain rfl := outEq_eq h
      exact ⟨fx, o, hfx, ho, hg⟩
    · cases h
  | .ite c t f, fx, h, hfx, hg => by
    unfold Tree.ok at h
    rw [Bool.and_eq_true] at h
    obtain ⟨h1, h2, h3⟩ := hg
    cases hb : (c.den env).bool with
    | true =>
      refine tree_sound h.1 (fun e he => ?_) (h2 hb)
      rcases List.mem_cons.1 he with rfl | he
      · rw [h1, hb]; rfl
      · exact hfx e he
    | false =>
      refine tree_sound h.2 (fun e he => ?_) (h3 hb)
      rcases List.mem_cons.1 he with rfl | he
      · simp only [E.den, E.denL, Prim.den, hb]; rfl
      · exact hfx e he
  | .giv c t, fx, h, hfx, hg => by
    unfold Tree.ok at h
    refine tree_sound h (fun e he => ?_) hg.2
    rcases List.mem_cons.1 he with rfl | he
    · exact hg.1
    · exact hfx e he
  | .dead, fx, h, hfx, hg => hg.elim
end

/-- What a temporary holds at a loop's head: whatever; something fixed; a variable; a pointer to a row; a row, or a table, of one's own. -/
inductive Ent where
  | any
  | con (a : AV)
  | sh (h : Sh)
  | rf (t : Nat)
  | own (t : Nat)
  | mp (kt ct : Ty)
  | bx (t esz : Nat)
/-- A loop's head: which loop, and what there is. -/
structure Hd where
  loop : Nat
  ents : List Ent
def conOk : AV → Bool
  | .v _ => true
  | .fn (.func _) [] [] => true
  | _ => false
def headA (k : Kn) : Nat → Nat → List Ent → List AV
  | _, _, [] => []
  | i, o, .any :: r => .any :: headA k i o r
  | i, o, .con a :: r => a :: headA k i o r
  | i, o, .sh h :: r => shA k (.var i) h :: headA k (i + 1) o r
  | i, o, .rf t :: r => .rd t (.var i) 0 :: headA k (i + 1) o r
  | i, o, .own t :: r => .d t (.var i) (some o) :: headA k (i + 1) (o + 1) r
  | i, o, .mp _ _ :: r => .mp o :: headA k (i + 1) (o + 1) r
  | i, o, .bx _ _ :: r => .box o 0 :: headA k (i + 1) (o + 1) r
def headO (k : Kn) : Nat → List Ent → List AObj
  | _, [] => []
  | i, .any :: r => headO k i r
  | i, .con _ :: r => headO k i r
  | i, .sh _ :: r => headO k (i + 1) r
  | i, .rf _ :: r => headO k (i + 1) r
  | i, .own t :: r => .row (.e (.var i) (k.shape t).length) (k.shape t).length :: headO k (i + 1) r
  | i, .mp kt ct :: r => .sym (.map kt ct (.var i)) :: headO k (i + 1) r
  | i, .bx t z :: r => .box (cellsA (.var i) 0 (k.shape t)) z :: headO k (i + 1) r
def newL (s : St) : List AObj → St
  | [] => s
  | o :: r => newL (s.new o) r
def headS (k : Kn) (ents : List Ent) : St := newL (st0 k) (headO k 0 ents)
def keptL : List Ent → List AV → List Nat
  | .own _ :: r, .d _ _ (some tk) :: t => tk :: keptL r t
  | .own _ :: r, .sl _ _ (some tk) :: t => tk :: keptL r t
  | .mp _ _ :: r, .mp m :: t => m :: keptL r t
  | .bx _ _ :: r, .box b _ :: t => b :: keptL r t
  | _ :: r, _ :: t => keptL r t
  | _, _ => []
def nodupN : List Nat → Bool
  | [] => true
  | a :: r => !memN a r && nodupN r
/-- A struct of one's own, in a box. -/
def bxE (s : St) (free : Nat → Bool) (h z b off : Nat) : Option E :=
  match s.get b with
  | some (.box cs z') =>
    if Nat.beq off 0 && Nat.beq z' z && Nat.beq (s.k.shape h).length cs.length then
      match frzAll s free cs with
      | some ys => (cellsX s.k fuelX (s.k.shape h) ys).map (.pr .row)
      | none => none
    else none
  | _ => none
def arrE (s : St) (free : Nat → Bool) : List Ent → List AV → Option (List E)
  | [], [] => some []
  | .any :: r, _ :: t => arrE s free r t
  | .con c :: r, a :: t => if conOk c && aEq c a then arrE s free r t else none
  | .sh h :: r, a :: t =>
    match frzG s free 1000 a with
    | some y =>
      match shE s.k h y, arrE s free r t with
      | some e, some es => some (e :: es)
      | _, _ => none
    | none => none
  | .rf h :: r, a :: t =>
    match frzG s free 1000 a with
    | some y =>
      match refX s.k h y, arrE s free r t with
      | some e, some es => some (e :: es)
      | _, _ => none
    | none => none
  | .own h :: r, a :: t =>
    match ownE s h (s.k.shape h).length a, arrE s free r t with
    | some (e, _), some es => some (e :: es)
    | _, _ => none
  | .mp kt ct :: r, .mp m :: t =>
    match mapE kt ct (s.get m), arrE s free r t with
    | some e, some es => some (e :: es)
    | _, _ => none
  | .bx h z :: r, .box b off :: t =>
    match bxE s free h z b off, arrE s free r t with
    | some e, some es => some (e :: es)
    | _, _ => none
  | _, _ => none
def arrH (h : Hd) (T : Tm) (s : St) : Option (List E) :=
  if T.ds.isEmpty && T.dl.isEmpty && Nat.beq T.n h.ents.length && nodupN (keptL h.ents ((List.range T.n).map (gt T))) then
    arrE s (fun b => !memN b (keptL h.ents ((List.range T.n).map (gt T)))) h.ents ((List.range T.n).map (gt T))
  else none
def arriveF (j : Nat) (T : Tm) (s : St) : List Hd → Nat → Option Out
  | [], _ => none
  | h :: r, i =>
    match (if Nat.beq h.loop j then arrH h T s else none) with
    | some es => some (.go i es)
    | none => arriveF j T s r (i + 1)
def arrive (heads : List Hd) (j : Nat) (T : Tm) (s : St) : Option Out := arriveF j T s heads 0
def outRet (P : Program) (G : Nat → Option (List AV)) (run : Code → Tm → St → Option (Ex × Tm × St)) (q : Sig) (fn : Func) (ex : Ex) (T : Tm) (s : St) : Option E :=
  match ex with
  | .normal | .ret =>
    match killAll s T.ds with
    | some s =>
      match finA P G run fn T none s with
      | some (r, s') =>
        match frz s' 0 1000 r with
        | some y => resE s'.k q.res y
        | none => none
      | none => none
    | none => none
  | _ => none
def outOf (P : Program) (G : Nat → Option (List AV)) (run : Code → Tm → St → Option (Ex × Tm × St)) (q : Sig) (fn : Func) (heads : List Hd) : Option Rs → Option Out
  | some (.done ex T s) => (outRet P G run q fn ex T s).map .ret
  | some (.enter j T s) => arrive heads j T s
  | some (.again j T s) => arrive heads j T s
  | none => none
/-- The ways from the entry, and from a head. -/
def runEntry (P : Program) (G : Nat → Option (List AV)) (mu : Nat → Bool) (run : Code → Tm → St → Option (Ex × Tm × St)) (tb : List (Nat × List CT)) (q : Sig) (fn : Func) (c : Code) (heads : List Hd) (fuel : Nat) (fx : List E) : Option Out :=
  outOf P G run q fn heads (evH G run fuel (.inl (c, 0)) { initT (argsA (kn fx tb) 0 q.args) fn.ntmps with mu := (mu q.f, false) } (st0 (kn fx tb)) [])
def runHead (P : Program) (G : Nat → Option (List AV)) (mu : Nat → Bool) (run : Code → Tm → St → Option (Ex × Tm × St)) (tb : List (Nat × List CT)) (q : Sig) (fn : Func) (c : Code) (heads : List Hd) (fuel : Nat) (j : Nat) (fx : List E) : Option Out :=
  match heads[j]? with
  | some h =>
    match (headsL c [] 0)[h.loop]? with
    | some (b, k) => outOf P G run q fn heads (evH G run fuel (.inl (b, h.loop + 1)) { initT (headA (kn fx tb) 0 0 h.ents) 0 with mu := (mu q.f, false) } (headS (kn fx tb) h.ents) (.head h.loop :: k))
    | none => none
  | none => none

section
variable [Interp] {P : Program} {G : Nat → Option (List AV)} {B0 : Nat} {w0 w : World} {s : St} {M : Mp}
variable (tb : List (Nat × List CT))
def FitW (t : Nat) (d : D) : Prop := ∃ cs, d = .row cs ∧ fitsC (kn [] tb).shape cs ((kn [] tb).shape t)
def FitWs : List D → List Nat → Prop
  | [], [] => True
  | d :: ds, t :: ts => FitW tb t d ∧ FitWs ds ts
  | _, _ => False
def FitS : Sh → D → Prop
  | .cell c, d => fits (kn [] tb).shape d c
  | .row t, d => FitW tb t d
  | .fn _ ts, d => ∃ ds, d = .row ds ∧ FitWs tb ds ts
  | .lit x, d => d = .v (.string x)
def FitL : List Sh → List D → Prop
  | [], [] => True
  | h :: hs, d :: ds => FitS tb h d ∧ FitL hs ds
  | _, _ => False
def FitM (kt ct : Ty) (d : D) : Prop := ∃ rows, d = .lst rows ∧ ∀ r, r ∈ rows → ∃ k v, r = .row [.v k, .v v] ∧ tyV kt k = true ∧ tyV ct v = true
def FitE : List Ent → List D → Prop
  | [], ds => ds = []
  | .any :: r, ds => FitE r ds
  | .con _ :: r, ds => FitE r ds
  | .sh h :: r, d :: ds => FitS tb h d ∧ FitE r ds
  | .rf t :: r, d :: ds => FitW tb t d ∧ FitE r ds
  | .own t :: r, d :: ds => fits (kn [] tb).shape d (.sl t) ∧ FitE r ds
  | .mp kt ct :: r, d :: ds => FitM kt ct d ∧ FitE r ds
  | .bx t _ :: r, d :: ds => FitW tb t d ∧ FitE r ds
  | _, _ => False
variable {tb}
theorem CellsR.fitsC {tb : Nat → List CT} {C : Nat → Nat → Option Value} {I : Nat → Nat → Prop} : ∀ {vs : List Value} {ds : List D} {cs : List CT}, CellsR tb C I vs ds cs → fitsC tb ds cs
  | [], [], [], _ => by unfold Go.Ab.fitsC; trivial
  | v :: vs, d :: ds, c :: cs, k => by
    unfold CellsR at k; unfold Go.Ab.fitsC
    exact ⟨k.1.2, CellsR.fitsC k.2⟩
  | [], _ :: _, _, k => by unfold CellsR at k; exact k.elim
  | _ :: _, [], _, k => by unfold CellsR at k; exact k.elim
  | [], [], _ :: _, k => by unfold CellsR at k; exact k.elim
  | _ :: _, _ :: _, [], k => by unfold CellsR at k; exact k.elim
theorem RefsR.fit {C : Nat → Nat → Option Value} {I : Nat → Nat → Prop} : ∀ {vs : List Value} {ds : List D} {ts : List Nat}, RefsR (kn [] tb).shape C I vs ds ts → FitWs tb ds ts
  | [], [], [], _ => trivial
  | v :: vs, d :: ds, c :: cs, k => by
    unfold RefsR at k
    obtain ⟨⟨b, off, us, e1, e2, k1, k2⟩, k3⟩ := k
    exact ⟨⟨us, e2, k2⟩, RefsR.fit k3⟩
  | [], _ :: _, _, k => by unfold RefsR at k; exact k.elim
  | _ :: _, [], _, k => by unfold RefsR at k; exact k.elim
  | [], [], _ :: _, k => by unfold RefsR at k; exact k.elim
  | _ :: _, _ :: _, [], k => by unfold RefsR at k; exact k.elim
theorem ArgR.fit {C : Nat → Nat → Option Value} {I : Nat → Nat → Prop} {h : Sh} {v : Value} {d : D} (k : ArgR (kn [] tb).shape C I h v d) : FitS tb h d := by
  cases h with
  | cell c => exact k.2
  | row t => obtain ⟨vs, cs, _, e, k⟩ := k; exact ⟨cs, e, k.fitsC⟩
  | fn f ts => obtain ⟨vs, cs, _, e, k⟩ := k; exact ⟨cs, e, k.fit⟩
  | lit x => exact k.2
theorem ArgsR.fit {C : Nat → Nat → Option Value} {I : Nat → Nat → Prop} : ∀ {hs : List Sh} {vs : List Value} {ds : List D}, ArgsR (kn [] tb).shape C I hs vs ds → FitL tb hs ds
  | [], [], [], _ => trivial
  | h :: hs, v :: vs, d :: ds, k => by unfold ArgsR at k; exact ⟨k.1.fit, ArgsR.fit k.2⟩
  | [], _ :: _, _, k => by unfold ArgsR at k; exact k.elim
  | [], [], _ :: _, k => by unfold ArgsR at k; exact k.elim
  | _ :: _, [], vs, k => by unfold ArgsR at k; exact k.elim
  | _ :: _, _ :: _, [], k => by unfold ArgsR at k; exact k.elim
theorem MDr.fit {kt ct : Ty} : ∀ {rows : List D} {es : List MapEntry}, MDr kt ct rows es → ∀ r, r ∈ rows → ∃ k v, r = .row [.v k, .v v] ∧ tyV kt k = true ∧ tyV ct v = true
  | [], _, _, r, hr => by cases hr
  | _ :: _, _, ⟨e, t, rfl, rfl, h1, h2, h3⟩, r, hr => by
    rcases List.mem_cons.1 hr with rfl | hr
    · exact ⟨_, _, rfl, h1, h2⟩
    · exact MDr.fit h3 r hr

theorem shape_kn {k : Kn} {fx : List E} (h : k.tb = tb) : k.shape = (kn fx tb).shape := by funext t; unfold Kn.shape kn; rw [h]
theorem con_VR {a : AV} {v : Value} {w' : World} {s' : St} {M' : Mp} (h : conOk a = true) (hv : VR w s M a v) : VR w' s' M' a v := by
  unfold conOk at h
  split at h
  · unfold VR at hv ⊢; exact hv
  · unfold VR at hv ⊢
    obtain ⟨f', a', b', e, k0, k1, k2⟩ := hv
    unfold VRl at k1 k2 ⊢
    exact ⟨f', a', b', e, k0, k1, k2⟩
  · cases h
theorem frz0 (hs : Sim G B0 w0 w s M) {a y : AV} {v : Value} {n : Nat} (hy : frz s 0 n a = some y) (hv : VR w s M a v) : VR w (st0 s.k) M y v :=
  frz_VR (s := st0 s.k) (s' := s) (Nat.zero_le _) (fun i hi => absurd hi (Nat.not_lt_zero _)) (Eq.refl _) hs n hy hv

theorem newL_get : ∀ {l : List AObj} {s : St}, s.n + l.length ≤ Tr.lid → (newL s l).n = s.n + l.length ∧ (newL s l).k = s.k ∧ ∀ i, i < s.n + l.length → (newL s l).get i = if i < s.n then s.get i else l[i - s.n]?
  | [], s, _ => ⟨rfl, rfl, fun i hi => by rw [if_pos (by simpa using hi)]; rfl⟩
  | o :: r, s, h => by
    have hn : (s.new o).n = s.n + 1 := rfl
    have hb : s.n < Tr.lid := by simp only [List.length_cons] at h; omega
    obtain ⟨k1, k2, k3⟩ := newL_get (l := r) (s := s.new o) (by rw [hn]; simp only [List.length_cons] at h; omega)
    refine ⟨by show (newL (s.new o) r).n = _; rw [k1, hn, List.length_cons]; omega, k2, fun i hi => ?_⟩
    show (newL (s.new o) r).get i = _
    rw [k3 i (by rw [hn]; simp only [List.length_cons] at hi; omega), hn, St.get_new _ _ _ hb]
    by_cases h1 : i < s.n
    · rw [if_pos (by omega), if_pos h1, if_neg (by omega)]
    · rw [if_neg h1]
      by_cases h2 : i = s.n
      · rw [if_pos (by omega), if_pos h2, h2, Nat.sub_self]; rfl
      · rw [if_neg (by omega)]
        obtain ⟨m, hm⟩ : ∃ m, i - s.n = m + 1 := ⟨i - s.n - 1, by omega⟩
        rw [hm, List.getElem?_cons_succ, show i - (s.n + 1) = m by omega]
theorem own_kept {t size tk : Nat} {a : AV} {e : E} (h : ownE s t size a = some (e, tk)) (q : Nat) (r : List Ent) (as : List AV) : keptL (.own q :: r) (a :: as) = tk :: keptL r as := by
  unfold ownE at h
  split at h
  · split at h
    · split at h
      · split at h
        · simp only [Option.some.injEq, Prod.mk.injEq] at h
          obtain ⟨_, rfl⟩ := h
          rfl
        · cases h
      · cases h
    · cases h
  · split at h
    · split at h
      · obtain ⟨l, _, e1⟩ := Option.map_eq_some_iff.1 h
        simp only [Prod.mk.injEq] at e1
        obtain ⟨_, rfl⟩ := e1
        rfl
      · cases h
    · cases h
  · cases h
/-- The cells below are written no more. -/
def below0 (env : Nat → D) : AObj → Nat → Prop
  | .row tip _, off => off < tip.val env
  | .dead, _ => True
  | _, _ => False
theorem imm0_iff {s : St} {M : Mp} {b off : Nat} : Imm0 s M b off ↔ ∀ i o, i < s.n → s.get i = some o → M.blk i = b → below0 M.env o off := by
  unfold Imm0
  constructor
  · intro h i o h1 h2 h3
    have := h i o h1 h2 h3
    cases o <;> exact this
  · intro h i o h1 h2 h3
    have := h i o h1 h2 h3
    cases o <;> exact this
theorem drop_one {α : Type} {l m : List α} {x : α} {i : Nat} (h : x :: l = m.drop i) : m[i]? = some x ∧ l = m.drop (i + 1) := by
  have h1 := congrArg (·[0]?) h
  simp only [List.getElem?_cons_zero, List.getElem?_drop, Nat.add_zero] at h1
  have h2 := congrArg (List.drop 1) h
  rw [List.drop_drop] at h2
  exact ⟨h1.symm, by simpa using h2⟩
theorem env_var {ds0 : List D} {i : Nat} {d : D} (h : ds0[i]? = some d) : (E.var i).den (envOf ds0) = d := by
  simp only [E.den, envOf]
  rw [List.getD_eq_getElem?_getD, h]; rfl
theorem bxE_sound {free : Nat → Bool} {sK : St} (hs : Sim G B0 w0 w s M) (hkK : s.k = sK.k) (himmK : ∀ b off, Imm s M b off → Imm sK M b off) (hown : ∀ b cs k, b < s.n → s.get b = some (.box cs k) → free b = true → ∀ off, Imm sK M (M.blk b) off)
    {h z b off : Nat} {e : E} (he : bxE s free h z b off = some e) (hlt : b < s.n) : off = 0 ∧ ∃ cs c ty fr ds, s.get b = some (.box cs z) ∧ w.heap[M.blk b]? = some (.cells c ty fr) ∧ Free fr c.size ∧ BoxK z (s.k.shape h).length c.size (M.cap b) ty ∧ e.den M.env = .row ds ∧ CellsR s.k.shape (fun b off => w.cell? ⟨b, off, none⟩) (Imm sK M) (c.toList.take (s.k.shape h).length) ds (s.k.shape h) := by
  unfold bxE at he
  split at he
  · rename_i cs z' hg
    split at he
    · rename_i hc
      simp only [Bool.and_eq_true] at hc
      obtain ⟨⟨h1, h2⟩, h3⟩ := hc
      obtain rfl := nbe h2
      have h3 := nbe h3
      split at he
      · rename_i ys hys
        obtain ⟨l, hl, rfl⟩ := Option.map_eq_some_iff.1 he
        obtain ⟨c, ty, fr, k1, k2, k3, k4, k5⟩ := hs.obj b _ hlt hg
        have hv2 : VRl w sK M ys (c.toList.take cs.length) := frzAll_VRl himmK hown hkK hs hys k2
        refine ⟨nbe h1, cs, c, ty, fr, E.denL M.env l, hg, k1, k4, by rw [h3]; exact k5, rfl, ?_⟩
        have hlen : (sK.k.shape h).length = ys.length := by rw [hv2.length, ← k2.length, ← hkK, h3]
        rw [hkK] at hl
        have := cellsX_VRl (s := sK) _ hlen hl hv2
        rw [← h3] at this
        rw [hkK] at this ⊢
        exact this
      · cases he
    · cases he
  · cases he
/-- The objects at a head are those that arrive. -/
theorem arr_objs (hs : Sim G B0 w0 w s M) {k2 : Kn} (hk2 : k2.shape = s.k.shape) {K : List Nat} {ds0 : List D} {free : Nat → Bool} {sK : St} (hkK : s.k = sK.k) (himmK : ∀ b off, Imm s M b off → Imm sK M b off) (hown : ∀ b cs k, b < s.n → s.get b = some (.box cs k) → free b = true → ∀ off, Imm sK M (M.blk b) off) : ∀ {ents : List Ent} {as : List AV} {vs : List Value} {es : List E} {i o : Nat}, arrE s free ents as = some es → VRl w s M as vs → E.denL M.env es = ds0.drop i → keptL ents as = K.drop o →
    ∀ (j : Nat) (ob2 : AObj), (headO k2 i ents)[j]? = some ob2 → ∃ tk ob, K[o + j]? = some tk ∧ tk < s.n ∧ s.get tk = some ob ∧ ob.live ∧ ob2.live ∧ (∀ off, below0 M.env ob off → below0 (envOf ds0) ob2 off) ∧
      ∀ (s2 : St) (M2 : Mp), M2.env = envOf ds0 → s2.k.shape = s.k.shape → (∀ b off, Imm sK M b off → Imm s2 M2 b off) → ObjR w s2 M2 (M.blk tk) (M.cap tk) ob2
  | [], [], vs, es, i, o, h, hv, hd, hK, j, ob2, hj => by simp [headO] at hj
  | .any :: r, a :: t, vs, es, i, o, h, hv, hd, hK, j, ob2, hj => by
    unfold arrE at h
    unfold VRl at hv
    obtain ⟨v, vs, rfl, _, hv2⟩ := hv
    have hK' : keptL r t = K.drop o := by rw [← hK]; cases a <;> rfl
    exact arr_objs hs hk2 hkK himmK hown h hv2 hd hK' j ob2 hj
  | .con c :: r, a :: t, vs, es, i, o, h, hv, hd, hK, j, ob2, hj => by
    unfold arrE at h
    split at h
    · unfold VRl at hv
      obtain ⟨v, vs, rfl, _, hv2⟩ := hv
      have hK' : keptL r t = K.drop o := by rw [← hK]; cases a <;> rfl
      exact arr_objs hs hk2 hkK himmK hown h hv2 hd hK' j ob2 hj
    · cases h
  | .sh hh :: r, a :: t, vs, es, i, o, h, hv, hd, hK, j, ob2, hj => by
    unfold arrE at h
    split at h
    · split at h
      · rename_i e es' _ hes
        cases h
        unfold VRl at hv
        obtain ⟨v, vs, rfl, _, hv2⟩ := hv
        unfold E.denL at hd
        have hK' : keptL r t = K.drop o := by rw [← hK]; cases a <;> rfl
        exact arr_objs hs hk2 hkK himmK hown hes hv2 (drop_one hd).2 hK' j ob2 hj
      · cases h
    · cases h
  | .rf hh :: r, a :: t, vs, es, i, o, h, hv, hd, hK, j, ob2, hj => by
    unfold arrE at h
    split at h
    · split at h
      · rename_i e es' _ hes
        cases h
        unfold VRl at hv
        obtain ⟨v, vs, rfl, _, hv2⟩ := hv
        unfold E.denL at hd
        have hK' : keptL r t = K.drop o := by rw [← hK]; cases a <;> rfl
        exact arr_objs hs hk2 hkK himmK hown hes hv2 (drop_one hd).2 hK' j ob2 hj
      · cases h
    · cases h
  | .own hh :: r, a :: t, vs, es, i, o, h, hv, hd, hK, j, ob2, hj => by
    unfold arrE at h
    split at h
    · rename_i e tk es' he hes
      cases h
      unfold VRl at hv
      obtain ⟨v, vs, rfl, hv1, hv2⟩ := hv
      unfold E.denL at hd
      obtain ⟨hd1, hd2⟩ := drop_one hd
      rw [own_kept he] at hK
      obtain ⟨hK1, hK2⟩ := drop_one hK
      obtain ⟨rows, ovs, tip, d1, f1, hlt, hg, htip, ev, g1, g2⟩ := ownE_sound hs rfl he hv1
      cases j with
      | zero =>
        simp only [headO, List.getElem?_cons_zero, Option.some.injEq] at hj
        subst hj
        have hval : (Tip.e (.var i) (k2.shape hh).length).val (envOf ds0) = tip.val M.env := by
          show ((E.var i).den (envOf ds0)).rows.length * _ = _
          rw [env_var hd1, d1, htip, hk2]; rfl
        refine ⟨tk, _, hK1, hlt, hg, trivial, trivial, fun off ho => ?_, fun s2 M2 he2 _ _ => ?_⟩
        · show off < _
          rw [hval]; exact ho
        · obtain ⟨c, e', fr, a1, a2, a3, a4⟩ := hs.obj tk _ hlt hg
          refine ⟨c, e', fr, a1, by rw [hk2]; exact a2, ?_, a4⟩
          rw [he2, hval]; exact a3
      | succ j =>
        simp only [headO, List.getElem?_cons_succ] at hj
        have := arr_objs hs hk2 hkK himmK hown hes hv2 hd2 hK2 j ob2 hj
        rw [show o + 1 + j = o + (j + 1) by omega] at this
        exact this
    · cases h
  | .mp kt ct :: r, .mp m :: t, vs, es, i, o, h, hv, hd, hK, j, ob2, hj => by
    unfold arrE at h
    split at h
    · rename_i e es' he hes
      cases h
      unfold VRl at hv
      obtain ⟨v, vs, rfl, hv1, hv2⟩ := hv
      unfold VR at hv1
      unfold E.denL at hd
      obtain ⟨hd1, hd2⟩ := drop_one hd
      obtain ⟨hK1, hK2⟩ := drop_one (show m :: keptL r t = K.drop o from hK)
      obtain ⟨ents', clock, rows, ob, q1, q2, q3, q4, q5, q6⟩ := mapE_sound hs hv1.1 he
      cases j with
      | zero =>
        simp only [headO, List.getElem?_cons_zero, Option.some.injEq] at hj
        subst hj
        refine ⟨m, ob, hK1, hv1.1, q1, q2, trivial, fun off ho => ?_, fun s2 M2 he2 _ _ => ?_⟩
        · cases ob with
          | row tip e => exact absurd rfl (q3 tip e)
          | dead => exact q2.elim
          | _ => exact ho
        · refine ⟨ents', clock, rows, q4, ?_, q6⟩
          rw [he2, env_var hd1, q5]
      | succ j =>
        simp only [headO, List.getElem?_cons_succ] at hj
        have := arr_objs hs hk2 hkK himmK hown hes hv2 hd2 hK2 j ob2 hj
        rw [show o + 1 + j = o + (j + 1) by omega] at this
        exact this
    · cases h
  | .bx hh z :: r, a :: t, vs, es, i, o, h, hv, hd, hK, j, ob2, hj => by
    cases a <;> (try (unfold arrE at h; cases h; done))
    rename_i b off
    unfold arrE at h
    split at h
    · rename_i e es' he hes
      cases h
      unfold VRl at hv
      obtain ⟨v, vs, rfl, hv1, hv2⟩ := hv
      unfold VR at hv1
      unfold E.denL at hd
      obtain ⟨hd1, hd2⟩ := drop_one hd
      obtain ⟨hK1, hK2⟩ := drop_one (show b :: keptL r t = K.drop o from hK)
      obtain ⟨_, cs, c, ty, fr, ds, q1, q2, q3, q4, q5, q6⟩ := bxE_sound hs hkK himmK hown he hv1.1
      cases j with
      | zero =>
        simp only [headO, List.getElem?_cons_zero, Option.some.injEq] at hj
        subst hj
        refine ⟨b, _, hK1, hv1.1, q1, trivial, trivial, fun off ho => ho.elim, fun s2 M2 he2 hsh himm => ?_⟩
        have hlen : (cellsA (.var i) 0 (k2.shape hh)).length = (s.k.shape hh).length := by rw [cellsA_length, hk2]
        refine ⟨c, ty, fr, q2, ?_, cellsA_isCell, q3, by rw [hlen]; exact q4⟩
        rw [hlen, hk2]
        have he' : (E.var i).den M2.env = .row ds := by rw [he2, env_var hd1, q5]
        refine CellsR_VRl (ds := ds) he' (by simp) ?_
        rw [hsh]
        exact q6.mono fun b off u hu hi => ⟨hu, himm b off hi⟩
      | succ j =>
        simp only [headO, List.getElem?_cons_succ] at hj
        have := arr_objs hs hk2 hkK himmK hown hes hv2 hd2 hK2 j ob2 hj
        rw [show o + 1 + j = o + (j + 1) by omega] at this
        exact this
    · cases h
  | .bx _ _ :: _, [], _, _, _, _, h, _, _, _, _, _, _ => by cases h
  | [], _ :: _, _, _, _, _, h, _, _, _, _, _, _ => by cases h
  | .any :: _, [], _, _, _, _, h, _, _, _, _, _, _ => by cases h
  | .con _ :: _, [], _, _, _, _, h, _, _, _, _, _, _ => by cases h
  | .sh _ :: _, [], _, _, _, _, h, _, _, _, _, _, _ => by cases h
  | .rf _ :: _, [], _, _, _, _, h, _, _, _, _, _, _ => by cases h
  | .own _ :: _, [], _, _, _, _, h, _, _, _, _, _, _ => by cases h
  | .mp _ _ :: _, [], _, _, _, _, h, _, _, _, _, _, _ => by cases h
  | .mp _ _ :: _, .v _ :: _, _, _, _, _, h, _, _, _, _, _, _ => by cases h
  | .mp _ _ :: _, .ref _ :: _, _, _, _, _, h, _, _, _, _, _, _ => by cases h
  | .mp _ _ :: _, .box _ _ :: _, _, _, _, _, h, _, _, _, _, _, _ => by cases h
  | .mp _ _ :: _, .sl _ _ _ :: _, _, _, _, _, h, _, _, _, _, _, _ => by cases h
  | .mp _ _ :: _, .ms _ _ _ :: _, _, _, _, _, h, _, _, _, _, _, _ => by cases h
  | .mp _ _ :: _, .mg _ _ :: _, _, _, _, _, h, _, _, _, _, _, _ => by cases h
  | .mp _ _ :: _, .e0 :: _, _, _, _, _, h, _, _, _, _, _, _ => by cases h
  | .mp _ _ :: _, .fn _ _ _ :: _, _, _, _, _, h, _, _, _, _, _, _ => by cases h
  | .mp _ _ :: _, .agg _ :: _, _, _, _, _, h, _, _, _, _, _, _ => by cases h
  | .mp _ _ :: _, .tup _ :: _, _, _, _, _, h, _, _, _, _, _, _ => by cases h
  | .mp _ _ :: _, .iface _ _ :: _, _, _, _, _, h, _, _, _, _, _, _ => by cases h
  | .mp _ _ :: _, .pan _ :: _, _, _, _, _, h, _, _, _, _, _, _ => by cases h
  | .mp _ _ :: _, .any :: _, _, _, _, _, h, _, _, _, _, _, _ => by cases h
  | .mp _ _ :: _, .sy _ _ :: _, _, _, _, _, h, _, _, _, _, _, _ => by cases h
  | .mp _ _ :: _, .x _ _ :: _, _, _, _, _, h, _, _, _, _, _, _ => by cases h
  | .mp _ _ :: _, .d _ _ _ :: _, _, _, _, _, h, _, _, _, _, _, _ => by cases h
  | .mp _ _ :: _, .rd _ _ _ :: _, _, _, _, _, h, _, _, _, _, _, _ => by cases h
  | .mp _ _ :: _, .so _ _ _ _ :: _, _, _, _, _, h, _, _, _, _, _, _ => by cases h
  | .mp _ _ :: _, .po _ _ :: _, _, _, _, _, h, _, _, _, _, _, _ => by cases h
/-- What arrives fits, and is told by the head's variables. -/
theorem arr_vals (hs : Sim G B0 w0 w s M) (htb : s.k.tb = tb) {k2 : Kn} (hk2 : k2.shape = s.k.shape) {K : List Nat} {ds0 : List D} {free : Nat → Bool} {sK : St} (hkK : s.k = sK.k) (himmK : ∀ b off, Imm s M b off → Imm sK M b off) (hown : ∀ b cs k, b < s.n → s.get b = some (.box cs k) → free b = true → ∀ off, Imm sK M (M.blk b) off)
    {s2 : St} {M2 : Mp} (hks2 : s2.k = k2) (himm : ∀ b off, Imm sK M b off → Imm s2 M2 b off) (henv : M2.env = envOf ds0) (hblk : ∀ o tk, K[o]? = some tk → M2.blk o = M.blk tk ∧ M2.cap o = M.cap tk ∧ o < s2.n) :
    ∀ {ents : List Ent} {as : List AV} {vs : List Value} {es : List E} {i o : Nat}, arrE s free ents as = some es → VRl w s M as vs → E.denL M.env es = ds0.drop i → keptL ents as = K.drop o → FitE tb ents (E.denL M.env es) ∧ VRl w s2 M2 (headA k2 i o ents) vs
  | [], [], vs, es, i, o, h, hv, hd, hK => by
    simp only [arrE, Option.some.injEq] at h
    subst h
    unfold VRl at hv
    subst hv
    exact ⟨by unfold E.denL FitE; rfl, VRl_nil⟩
  | .any :: r, a :: t, vs, es, i, o, h, hv, hd, hK => by
    unfold arrE at h
    unfold VRl at hv
    obtain ⟨v, vs, rfl, _, hv2⟩ := hv
    have hK' : keptL r t = K.drop o := by rw [← hK]; cases a <;> rfl
    obtain ⟨k1, k3⟩ := arr_vals hs htb hk2 hkK himmK hown hks2 himm henv hblk h hv2 hd hK'
    exact ⟨k1, by unfold headA; exact VRl_cons (by unfold VR; trivial) k3⟩
  | .con c :: r, a :: t, vs, es, i, o, h, hv, hd, hK => by
    unfold arrE at h
    split at h
    · rename_i hc
      rw [Bool.and_eq_true] at hc
      obtain rfl := aEq_eq hc.2
      unfold VRl at hv
      obtain ⟨v, vs, rfl, hv1, hv2⟩ := hv
      have hK' : keptL r t = K.drop o := by rw [← hK]; cases c <;> rfl
      obtain ⟨k1, k3⟩ := arr_vals hs htb hk2 hkK himmK hown hks2 himm henv hblk h hv2 hd hK'
      exact ⟨k1, by unfold headA; exact VRl_cons (con_VR hc.1 hv1) k3⟩
    · cases h
  | .sh hh :: r, a :: t, vs, es, i, o, h, hv, hd, hK => by
    unfold arrE at h
    split at h
    · rename_i y hy
      split at h
      · rename_i e es' he hes
        cases h
        unfold VRl at hv
        obtain ⟨v, vs, rfl, hv1, hv2⟩ := hv
        unfold E.denL at hd
        obtain ⟨hd1, hd2⟩ := drop_one hd
        have hK' : keptL r t = K.drop o := by rw [← hK]; cases a <;> rfl
        obtain ⟨k1, k3⟩ := arr_vals hs htb hk2 hkK himmK hown hks2 himm henv hblk hes hv2 hd2 hK'
        have q1 : VR w sK M y v := frzG_VR himmK hown hkK hs _ hy hv1
        rw [hkK] at he
        have q2 := shE_sound he q1
        rw [← hkK] at q2
        refine ⟨by unfold E.denL FitE; exact ⟨ArgR.fit (by rw [← shape_kn (k := s.k) htb]; exact q2), k1⟩, ?_⟩
        unfold headA
        refine VRl_cons ?_ k3
        rw [← hks2]
        refine shA_VR ?_
        rw [henv, env_var hd1, hks2, hk2]
        exact q2.mono fun b off u hu hi => ⟨hu, himm b off hi⟩
      · cases h
    · cases h
  | .rf hh :: r, a :: t, vs, es, i, o, h, hv, hd, hK => by
    unfold arrE at h
    split at h
    · rename_i y hy
      split at h
      · rename_i e es' he hes
        cases h
        unfold VRl at hv
        obtain ⟨v, vs, rfl, hv1, hv2⟩ := hv
        unfold E.denL at hd
        obtain ⟨hd1, hd2⟩ := drop_one hd
        have hK' : keptL r t = K.drop o := by rw [← hK]; cases a <;> rfl
        obtain ⟨k1, k3⟩ := arr_vals hs htb hk2 hkK himmK hown hks2 himm henv hblk hes hv2 hd2 hK'
        have q1 : VR w sK M y v := frzG_VR himmK hown hkK hs _ hy hv1
        rw [hkK] at he
        obtain ⟨b, off, cs, ev, ed, q2, q3⟩ := refX_sound he q1
        rw [← hkK] at q3
        refine ⟨by unfold E.denL FitE; exact ⟨⟨cs, ed, by rw [← shape_kn (k := s.k) htb]; exact q3⟩, k1⟩, ?_⟩
        unfold headA
        refine VRl_cons ?_ k3
        unfold VR
        refine ⟨b, off, cs, by rw [ev, Nat.add_zero], by rw [henv, env_var hd1, ed], q2.mono fun b off u hu hi => ⟨hu, himm b off hi⟩, by rw [hks2, hk2]; exact q3⟩
      · cases h
    · cases h
  | .own hh :: r, a :: t, vs, es, i, o, h, hv, hd, hK => by
    unfold arrE at h
    split at h
    · rename_i e tk es' he hes
      cases h
      unfold VRl at hv
      obtain ⟨v, vs, rfl, hv1, hv2⟩ := hv
      unfold E.denL at hd
      obtain ⟨hd1, hd2⟩ := drop_one hd
      rw [own_kept he] at hK
      obtain ⟨hK1, hK2⟩ := drop_one hK
      obtain ⟨k1, k3⟩ := arr_vals hs htb hk2 hkK himmK hown hks2 himm henv hblk hes hv2 hd2 hK2
      obtain ⟨rows, ovs, tip, d1, f1, hlt, hg, htip, ev, g1, g2⟩ := ownE_sound hs rfl he hv1
      obtain ⟨b1, b2, b3⟩ := hblk o tk hK1
      refine ⟨by unfold E.denL FitE; rw [d1]; exact ⟨by unfold fits; rw [← shape_kn (k := s.k) htb]; exact f1, k1⟩, ?_⟩
      unfold headA
      refine VRl_cons ?_ k3
      unfold VR
      rw [henv, env_var hd1, d1]
      refine ⟨?_, by unfold fits; rw [hks2, hk2]; exact f1, fun t ht => ?_⟩
      · rw [ev]
        unfold DV
        refine .inr ⟨_, _, _, rfl, ?_, ?_⟩
        · obtain ⟨c, e', fr, a1, a2, a3, a4⟩ := hs.obj tk _ hlt hg
          have hcell : rows.length ≤ M.cap tk := by
            have hvv := hv1
            rw [ev] at hvv
            cases a <;> (try (unfold ownE at he; cases he; done))
            · unfold VR at hvv
              obtain ⟨b', off', cap', e1, hle, _⟩ := hvv
              cases e1
              exact hle
            · rcases VR_d hvv with ⟨_, a1, c1, e1⟩ | ⟨rows', b', off', cap', _, e1, hle, _⟩
              · injection e1 with e1 e2 e3
                omega
              · injection e1 with e1 e2 e3
                rw [e2, e3]; exact hle
          exact hcell
        · refine DVr_of (fun d hd => (fitsR_row f1 d hd).imp fun _ h => h.1) (g1.mono fun b off u hu hi => ⟨hu, himm _ _ (himmK _ _ hi)⟩) fun j u hj => ?_
          rw [Nat.zero_add]
          refine ⟨g2 j u hj, himm _ _ (himmK _ _ (imm_row hs hlt hg ?_))⟩
          rw [htip, ← flat_length f1, ← g1.length]
          exact (List.getElem?_eq_some_iff.1 hj).1
      · cases ht
        exact ⟨b3, fun tip' e' hg' => ⟨rows.length, by rw [b1, b2]; exact ev⟩⟩
    · cases h
  | .mp kt ct :: r, .mp m :: t, vs, es, i, o, h, hv, hd, hK => by
    unfold arrE at h
    split at h
    · rename_i e es' he hes
      cases h
      unfold VRl at hv
      obtain ⟨v, vs, rfl, hv1, hv2⟩ := hv
      unfold VR at hv1
      unfold E.denL at hd
      obtain ⟨hd1, hd2⟩ := drop_one hd
      obtain ⟨hK1, hK2⟩ := drop_one (show m :: keptL r t = K.drop o from hK)
      obtain ⟨k1, k3⟩ := arr_vals hs htb hk2 hkK himmK hown hks2 himm henv hblk hes hv2 hd2 hK2
      obtain ⟨ents', clock, rows, ob, q1, q2, q3, q4, q5, q6⟩ := mapE_sound hs hv1.1 he
      obtain ⟨b1, b2, b3⟩ := hblk o m hK1
      refine ⟨by unfold E.denL FitE; rw [q5]; exact ⟨⟨rows, rfl, MDr.fit q6⟩, k1⟩, ?_⟩
      unfold headA
      refine VRl_cons ?_ k3
      unfold VR
      exact ⟨b3, by rw [b1]; exact hv1.2⟩
    · cases h
  | .bx hh z :: r, a :: t, vs, es, i, o, h, hv, hd, hK => by
    cases a <;> (try (unfold arrE at h; cases h; done))
    rename_i b off
    unfold arrE at h
    split at h
    · rename_i e es' he hes
      cases h
      unfold VRl at hv
      obtain ⟨v, vs, rfl, hv1, hv2⟩ := hv
      unfold VR at hv1
      unfold E.denL at hd
      obtain ⟨hd1, hd2⟩ := drop_one hd
      obtain ⟨hK1, hK2⟩ := drop_one (show b :: keptL r t = K.drop o from hK)
      obtain ⟨k1, k3⟩ := arr_vals hs htb hk2 hkK himmK hown hks2 himm henv hblk hes hv2 hd2 hK2
      obtain ⟨rfl, cs, c, ty, fr, ds, q1, q2, q3, q4, q5, q6⟩ := bxE_sound hs hkK himmK hown he hv1.1
      obtain ⟨b1, b2, b3⟩ := hblk o b hK1
      refine ⟨by unfold E.denL FitE; rw [q5]; exact ⟨⟨ds, rfl, by rw [← shape_kn (k := s.k) htb]; exact q6.fitsC⟩, k1⟩, ?_⟩
      unfold headA
      refine VRl_cons ?_ k3
      unfold VR
      exact ⟨b3, by rw [b1]; exact hv1.2⟩
    · cases h
  | .bx _ _ :: _, [], _, _, _, _, h, _, _, _ => by cases h
  | [], _ :: _, _, _, _, _, h, _, _, _ => by cases h
  | .any :: _, [], _, _, _, _, h, _, _, _ => by cases h
  | .con _ :: _, [], _, _, _, _, h, _, _, _ => by cases h
  | .sh _ :: _, [], _, _, _, _, h, _, _, _ => by cases h
  | .rf _ :: _, [], _, _, _, _, h, _, _, _ => by cases h
  | .own _ :: _, [], _, _, _, _, h, _, _, _ => by cases h
  | .mp _ _ :: _, [], _, _, _, _, h, _, _, _ => by cases h
  | .mp _ _ :: _, .v _ :: _, _, _, _, _, h, _, _, _ => by cases h
  | .mp _ _ :: _, .ref _ :: _, _, _, _, _, h, _, _, _ => by cases h
  | .mp _ _ :: _, .box _ _ :: _, _, _, _, _, h, _, _, _ => by cases h
  | .mp _ _ :: _, .sl _ _ _ :: _, _, _, _, _, h, _, _, _ => by cases h
  | .mp _ _ :: _, .ms _ _ _ :: _, _, _, _, _, h, _, _, _ => by cases h
  | .mp _ _ :: _, .mg _ _ :: _, _, _, _, _, h, _, _, _ => by cases h
  | .mp _ _ :: _, .e0 :: _, _, _, _, _, h, _, _, _ => by cases h
  | .mp _ _ :: _, .fn _ _ _ :: _, _, _, _, _, h, _, _, _ => by cases h
  | .mp _ _ :: _, .agg _ :: _, _, _, _, _, h, _, _, _ => by cases h
  | .mp _ _ :: _, .tup _ :: _, _, _, _, _, h, _, _, _ => by cases h
  | .mp _ _ :: _, .iface _ _ :: _, _, _, _, _, h, _, _, _ => by cases h
  | .mp _ _ :: _, .pan _ :: _, _, _, _, _, h, _, _, _ => by cases h
  | .mp _ _ :: _, .any :: _, _, _, _, _, h, _, _, _ => by cases h
  | .mp _ _ :: _, .sy _ _ :: _, _, _, _, _, h, _, _, _ => by cases h
  | .mp _ _ :: _, .x _ _ :: _, _, _, _, _, h, _, _, _ => by cases h
  | .mp _ _ :: _, .d _ _ _ :: _, _, _, _, _, h, _, _, _ => by cases h
  | .mp _ _ :: _, .rd _ _ _ :: _, _, _, _, _, h, _, _, _ => by cases h
  | .mp _ _ :: _, .so _ _ _ _ :: _, _, _, _, _, h, _, _, _ => by cases h
  | .mp _ _ :: _, .po _ _ :: _, _, _, _, _, h, _, _, _ => by cases h
theorem vrl_of_get : ∀ {as : List AV} {vs : List Value}, as.length = vs.length → (∀ (i : Nat) (a : AV) (v : Value), as[i]? = some a → vs[i]? = some v → VR w s M a v) → VRl w s M as vs
  | [], [], _, _ => VRl_nil
  | a :: as, v :: vs, hl, h => VRl_cons (h 0 a v rfl rfl) (vrl_of_get (by simpa using hl) fun i a v h1 h2 => h (i + 1) a v h1 h2)
  | [], _ :: _, hl, _ => by cases hl
  | _ :: _, [], hl, _ => by cases hl
theorem TmR.all {T : Tm} {a : Act} (h : TmR w s M T a) : VRl w s M ((List.range T.n).map (gt T)) a.tmps.toList := by
  refine vrl_of_get (by simp [h.size]) fun i x v h1 h2 => ?_
  rw [List.getElem?_map, Option.map_eq_some_iff] at h1
  obtain ⟨i', h1, rfl⟩ := h1
  have hi := (List.getElem?_eq_some_iff.1 h1)
  obtain ⟨hlt, hi⟩ := hi
  rw [List.getElem_range] at hi
  subst hi
  have := h.get i
  have e : a.tmps.getD i undef = v := by
    rw [Array.getD_eq_getD_getElem?, ← Array.getElem?_toList, h2]; rfl
  rw [e] at this
  exact this
theorem nodupN_get : ∀ {l : List Nat}, nodupN l = true → ∀ (i j : Nat) (x : Nat), l[i]? = some x → l[j]? = some x → i = j
  | [], _, i, j, x, hi, _ => by simp at hi
  | a :: r, h, i, j, x, hi, hj => by
    unfold nodupN at h
    rw [Bool.and_eq_true, Bool.not_eq_true'] at h
    have hno : ∀ i : Nat, r[i]? = some a → False := fun i hi => by
      have := memN_iff.2 (List.mem_of_getElem? hi)
      rw [h.1] at this; cases this
    cases i with
    | zero =>
      cases j with
      | zero => rfl
      | succ j =>
        simp only [List.getElem?_cons_zero, Option.some.injEq] at hi
        subst hi
        exact (hno j (by simpa using hj)).elim
    | succ i =>
      cases j with
      | zero =>
        simp only [List.getElem?_cons_zero, Option.some.injEq] at hj
        subst hj
        exact (hno i (by simpa using hi)).elim
      | succ j => rw [nodupN_get h.2 i j x (by simpa using hi) (by simpa using hj)]
theorem headO_len {k : Kn} : ∀ {ents : List Ent} {i : Nat}, (headO k i ents).length ≤ ents.length
  | [], _ => Nat.le_refl _
  | e :: r, i => by
    cases e <;> simp only [headO, List.length_cons] <;> first | exact Nat.le_succ_of_le headO_len | exact Nat.succ_le_succ headO_len
theorem headO_kn {k k' : Kn} (h : k.shape = k'.shape) : ∀ {ents : List Ent} {i : Nat}, headO k i ents = headO k' i ents
  | [], _ => rfl
  | e :: r, i => by
    cases e <;> simp only [headO, headO_kn h (ents := r), h]
theorem arrE_len {free : Nat → Bool} : ∀ {ents : List Ent} {as : List AV} {es : List E} {k2 : Kn} {i : Nat}, arrE s free ents as = some es → (headO k2 i ents).length = (keptL ents as).length
  | [], [], _, _, _, _ => rfl
  | .any :: r, a :: t, es, k2, i, h => by
    unfold arrE at h
    have := arrE_len (k2 := k2) (i := i) h
    cases a <;> exact this
  | .con c :: r, a :: t, es, k2, i, h => by
    unfold arrE at h
    split at h
    · have := arrE_len (k2 := k2) (i := i) h
      cases a <;> exact this
    · cases h
  | .sh c :: r, a :: t, es, k2, i, h => by
    unfold arrE at h
    split at h
    · split at h
      · rename_i hes
        have := arrE_len (k2 := k2) (i := i + 1) hes
        cases a <;> exact this
      · cases h
    · cases h
  | .rf c :: r, a :: t, es, k2, i, h => by
    unfold arrE at h
    split at h
    · split at h
      · rename_i hes
        have := arrE_len (k2 := k2) (i := i + 1) hes
        cases a <;> exact this
      · cases h
    · cases h
  | .own c :: r, a :: t, es, k2, i, h => by
    unfold arrE at h
    split at h
    · rename_i e tk es' he hes
      have := arrE_len (k2 := k2) (i := i + 1) hes
      rw [own_kept he]
      simp only [headO, List.length_cons, this]
    · cases h
  | .mp kt ct :: r, a :: t, es, k2, i, h => by
    cases a <;> (try (unfold arrE at h; cases h; done))
    unfold arrE at h
    split at h
    · rename_i hes
      have := arrE_len (k2 := k2) (i := i + 1) hes
      simp only [headO, keptL, List.length_cons, this]
    · cases h
  | .bx hh z :: r, a :: t, es, k2, i, h => by
    cases a <;> (try (unfold arrE at h; cases h; done))
    unfold arrE at h
    split at h
    · rename_i hes
      have := arrE_len (k2 := k2) (i := i + 1) hes
      simp only [headO, keptL, List.length_cons, this]
    · cases h
  | .bx _ _ :: _, [], _, _, _, h => by cases h
  | [], _ :: _, _, _, _, h => by cases h
  | .any :: _, [], _, _, _, h => by cases h
  | .con _ :: _, [], _, _, _, h => by cases h
  | .sh _ :: _, [], _, _, _, h => by cases h
  | .rf _ :: _, [], _, _, _, h => by cases h
  | .own _ :: _, [], _, _, _, h => by cases h
/-- Where the state of a head stands. -/
def HeadAt (G : Nat → Option (List AV)) (B0 : Nat) (w0 : World) (tb : List (Nat × List CT)) (out : Nat → Nat → Prop) (h : Hd) (ds : List D) (a : Act) (w : World) : Prop :=
  ∃ blk cap, ∀ fx, (∀ e, e ∈ fx → e.den (envOf ds) = .v (.bool true)) → Sim G B0 w0 w (headS (kn fx tb) h.ents) ⟨blk, cap, envOf ds, out⟩ ∧ TmR w (headS (kn fx tb) h.ents) ⟨blk, cap, envOf ds, out⟩ (initT (headA (kn fx tb) 0 0 h.ents) 0) a
/-- All but what is kept dies. -/
theorem others (hs : Sim G B0 w0 w s M) (K : List Nat) : ∃ sK, Sim G B0 w0 w sK M ∧ sK.n = s.n ∧ s.k = sK.k ∧ (∀ i, i < s.n → sK.get i = if memN i K = true then s.get i else some .dead) ∧ (∀ b off, Imm s M b off → Imm sK M b off) ∧
    (∀ b cs k, b < s.n → s.get b = some (.box cs k) → (!memN b K) = true → ∀ off, Imm sK M (M.blk b) off) := by
  have hkill := kill_list (w := w) (M := M) (K := (List.range s.n).filter fun b => !memN b K) hs (fun b hb => by simpa using (List.mem_filter.1 hb).1)
  obtain ⟨q1, q2, q3, q4, q5⟩ := hkill
  generalize killL s ((List.range s.n).filter fun b => !memN b K) = sK at q1 q2 q3 q4 q5
  have hgetK : ∀ i, i < s.n → sK.get i = if memN i K = true then s.get i else some .dead := fun i hi => by
    rw [q5]
    by_cases hm : memN i K = true
    · rw [if_pos hm, if_neg (fun hh => by rw [List.mem_filter] at hh; rw [hm] at hh; cases hh.2)]
    · rw [if_neg hm, if_pos (List.mem_filter.2 ⟨List.mem_range.2 hi, by simpa using hm⟩)]
  have himmK : ∀ b off, Imm s M b off → Imm sK M b off := fun b off hi => by
    refine ⟨imm0_iff.2 fun i o hin hgi hbk => ?_, hi.2⟩
    rw [q3] at hin
    rw [hgetK i hin] at hgi
    split at hgi
    · exact imm0_iff.1 hi.1 i o hin hgi hbk
    · cases hgi; trivial
  have hown : ∀ b cs k, b < s.n → s.get b = some (.box cs k) → (!memN b K) = true → ∀ off, Imm sK M (M.blk b) off := by
    intro b cs k hb hgb hf off
    refine ⟨imm0_iff.2 fun j o hj hgj hbk => ?_, out_own hs hb⟩
    rw [q3] at hj
    rw [hgetK j hj] at hgj
    split at hgj
    · rename_i hm
      have e1 := hs.inj j b o (.box cs k) hj hb hgj hgb
      cases o with
      | dead => trivial
      | _ => exact absurd (e1 trivial trivial hbk) (fun e => by rw [e] at hm; rw [hm] at hf; cases hf)
    · cases hgj; trivial
  exact ⟨sK, q1, q3, q4.symm, hgetK, himmK, hown⟩
theorem arrH_full (hG : ∀ g cs c, G g = some cs → c ∈ cs → ∃ x, c = .v x) (hs : Sim G B0 w0 w s M) (htb : s.k.tb = tb) {h : Hd} {T : Tm} {a : Act} {es : List E} (hT : TmR w s M T a) (hle : Nat.ble h.ents.length Tr.lid = true) (ha : arrH h T s = some es) :
    FitE tb h.ents (E.denL M.env es) ∧ ∃ K : List Nat, K = keptL h.ents ((List.range T.n).map (gt T)) ∧ (∀ (o tk : Nat), K[o]? = some tk → tk < s.n ∧ ∃ ob, s.get tk = some ob ∧ ob.live) ∧ ∀ fx, (headS (kn fx tb) h.ents).n = K.length ∧
      (∀ b off, Imm s M b off → Imm (headS (kn fx tb) h.ents) ⟨fun o => M.blk (K.getD o 0), fun o => M.cap (K.getD o 0), envOf (E.denL M.env es), M.out⟩ b off) ∧
      ((∀ e, e ∈ fx → e.den (envOf (E.denL M.env es)) = .v (.bool true)) → Sim G B0 w0 w (headS (kn fx tb) h.ents) ⟨fun o => M.blk (K.getD o 0), fun o => M.cap (K.getD o 0), envOf (E.denL M.env es), M.out⟩ ∧
        TmR w (headS (kn fx tb) h.ents) ⟨fun o => M.blk (K.getD o 0), fun o => M.cap (K.getD o 0), envOf (E.denL M.env es), M.out⟩ (initT (headA (kn fx tb) 0 0 h.ents) 0) a) := by
  unfold arrH at ha
  split at ha
  · rename_i hc
    simp only [Bool.and_eq_true, List.isEmpty_iff] at hc
    obtain ⟨⟨⟨hds, hdl⟩, hn⟩, hnd⟩ := hc
    generalize hK : keptL h.ents ((List.range T.n).map (gt T)) = K at ha hnd
    have hle := Nat.le_of_ble_eq_true hle
    have hall := hT.all
    have hlen : (headO s.k 0 h.ents).length = K.length := by rw [← hK]; exact arrE_len ha
    obtain ⟨sK, q1, q3, q4, hgetK, himmK, hown⟩ := others hs K
    have hob := fun (k2 : Kn) (hk2 : k2.shape = s.k.shape) => arr_objs hs hk2 q4 himmK hown (K := K) (ds0 := E.denL M.env es) (i := 0) (o := 0) ha hall (by simp) (by rw [hK]; simp)
    have hKlt : ∀ o tk, K[o]? = some tk → tk < s.n ∧ memN tk K = true := fun o tk ho => by
      have hlt : o < (headO s.k 0 h.ents).length := by rw [hlen]; exact (List.getElem?_eq_some_iff.1 ho).1
      obtain ⟨tk', ob, g1, g2, _⟩ := hob s.k rfl o _ (List.getElem?_eq_getElem hlt)
      rw [Nat.zero_add, ho] at g1
      cases g1
      exact ⟨g2, memN_iff.2 (List.mem_of_getElem? ho)⟩
    -- the head's state
    have key : ∀ fx, FitE tb h.ents (E.denL M.env es) ∧ (headS (kn fx tb) h.ents).n = K.length ∧ (∀ b off, Imm s M b off → Imm (headS (kn fx tb) h.ents) ⟨fun o => M.blk (K.getD o 0), fun o => M.cap (K.getD o 0), envOf (E.denL M.env es), M.out⟩ b off) ∧ ((∀ e, e ∈ fx → e.den (envOf (E.denL M.env es)) = .v (.bool true)) → Sim G B0 w0 w (headS (kn fx tb) h.ents) ⟨fun o => M.blk (K.getD o 0), fun o => M.cap (K.getD o 0), envOf (E.denL M.env es), M.out⟩ ∧
        TmR w (headS (kn fx tb) h.ents) ⟨fun o => M.blk (K.getD o 0), fun o => M.cap (K.getD o 0), envOf (E.denL M.env es), M.out⟩ (initT (headA (kn fx tb) 0 0 h.ents) 0) a) := by
      intro fx
      have hk2 : (kn fx tb).shape = s.k.shape := (shape_kn htb).symm
      have hlen2 : (headO (kn fx tb) 0 h.ents).length = K.length := by rw [headO_kn hk2]; exact hlen
      obtain ⟨n1, n2, n3⟩ := newL_get (l := headO (kn fx tb) 0 h.ents) (s := st0 (kn fx tb)) (by
        have := headO_len (k := kn fx tb) (ents := h.ents) (i := 0)
        show 0 + _ ≤ _
        omega)
      have n0 : (st0 (kn fx tb)).n = 0 := rfl
      rw [n0, Nat.zero_add] at n1
      have n3' : ∀ o, o < K.length → (headS (kn fx tb) h.ents).get o = (headO (kn fx tb) 0 h.ents)[o]? := fun o ho => by
        have := n3 o (by rw [n0, Nat.zero_add, hlen2]; exact ho)
        rw [n0, if_neg (Nat.not_lt_zero _)] at this
        exact this
      have hn2 : (headS (kn fx tb) h.ents).n = K.length := by rw [← hlen2]; exact n1
      have hgd : ∀ o tk, K[o]? = some tk → K.getD o 0 = tk := fun o tk ho => by rw [List.getD_eq_getElem?_getD, ho]; rfl
      generalize hs2 : headS (kn fx tb) h.ents = s2 at n3' hn2
      have hks2 : s2.k = kn fx tb := by rw [← hs2]; exact n2
      let M2 : Mp := ⟨fun o => M.blk (K.getD o 0), fun o => M.cap (K.getD o 0), envOf (E.denL M.env es), M.out⟩
      have hobj : ∀ o ob2, o < s2.n → s2.get o = some ob2 → ∃ tk ob, K[o]? = some tk ∧ tk < s.n ∧ s.get tk = some ob ∧ ob.live ∧ ob2.live ∧ (∀ off, below0 M.env ob off → below0 (envOf (E.denL M.env es)) ob2 off) ∧ ∀ (s2 : St) (M2 : Mp), M2.env = envOf (E.denL M.env es) → s2.k.shape = s.k.shape → (∀ b off, Imm sK M b off → Imm s2 M2 b off) → ObjR w s2 M2 (M.blk tk) (M.cap tk) ob2 := fun o ob2 ho hg => by
        rw [n3' o (by rw [← hn2]; exact ho)] at hg
        have := hob (kn fx tb) hk2 o ob2 hg
        rw [Nat.zero_add] at this
        exact this
      have himm : ∀ b off, Imm sK M b off → Imm s2 M2 b off := fun b off hi => by
        refine ⟨imm0_iff.2 fun o ob2 ho hg hbk => ?_, hi.2⟩
        obtain ⟨tk, ob, g1, g2, g3, g4, g5, g6, g7⟩ := hobj o ob2 ho hg
        have hbk : M.blk (K.getD o 0) = b := hbk
        rw [hgd o tk g1] at hbk
        refine g6 off (imm0_iff.1 hi.1 tk ob (by rw [q3]; exact g2) ?_ hbk)
        rw [hgetK tk g2, if_pos (hKlt o tk g1).2]; exact g3
      obtain ⟨v1, v2⟩ := arr_vals hs htb (k2 := kn fx tb) hk2 (K := K) (ds0 := E.denL M.env es) q4 himmK hown hks2 himm rfl (M2 := M2) (fun o tk ho => ⟨by show M.blk (K.getD o 0) = _; rw [hgd o tk ho], by show M.cap (K.getD o 0) = _; rw [hgd o tk ho], by rw [hn2]; exact (List.getElem?_eq_some_iff.1 ho).1⟩) (i := 0) (o := 0) ha hall (by simp) (by rw [hK]; simp)
      refine ⟨v1, hn2, fun b off hi => himm b off (himmK b off hi), fun hfx => ⟨?_, ?_⟩⟩
      · refine ⟨hs.below, hs.size, ?_, fun o ho => ?_, fun o o' ob ob' ho ho' g g' l l' e => ?_, fun o ob2 ho hg => ?_, fun g cs hg => ?_, fun e he => hfx e (by rw [hks2] at he; exact he), fun b off ho => ⟨(hs.out b off ho).1, fun o ho' => ?_⟩⟩
        · rw [hn2, ← hlen2]
          exact Nat.le_trans headO_len hle
        · have hlt : o < K.length := by rw [← hn2]; exact ho
          have hk := List.getElem?_eq_getElem hlt
          show B0 ≤ M.blk (K.getD o 0) ∧ M.blk (K.getD o 0) < _
          rw [hgd o _ hk]
          exact hs.blk _ (hKlt o _ hk).1
        · obtain ⟨tk, ob1, g1, g2, g3, g4, _⟩ := hobj o ob ho g
          obtain ⟨tk', ob1', g1', g2', g3', g4', _⟩ := hobj o' ob' ho' g'
          have e : M.blk (K.getD o 0) = M.blk (K.getD o' 0) := e
          rw [hgd o _ g1, hgd o' _ g1'] at e
          have := hs.inj tk tk' _ _ g2 g2' g3 g3' g4 g4' e
          subst this
          exact nodupN_get hnd o o' tk g1 g1'
        · obtain ⟨tk, ob1, g1, g2, g3, g4, g5, g6, g7⟩ := hobj o ob2 ho hg
          show ObjR w s2 M2 (M.blk (K.getD o 0)) (M.cap (K.getD o 0)) ob2
          rw [hgd o _ g1]
          exact g7 s2 M2 rfl (by rw [hks2]; exact hk2) himm
        · have := hs.glob g cs hg
          refine VRs.of_get fun i c hi => ?_
          obtain ⟨v, c1, c2, c3, c4⟩ := this.get i c hi
          refine ⟨v, c1, ?_, c3, himm _ _ (himmK _ _ c4)⟩
          obtain ⟨x, rfl⟩ := hG g cs c hg (List.mem_of_getElem? hi)
          exact VR_v.2 (VR_v.1 c2)
        · have hlt : o < K.length := by rw [← hn2]; exact ho'
          have hk := List.getElem?_eq_getElem hlt
          show M.blk (K.getD o 0) ≠ b
          rw [hgd o _ hk]
          exact (hs.out b off ho).2 _ (hKlt o _ hk).1
      · have hlenA : (headA (kn fx tb) 0 0 h.ents).length = a.tmps.size := by rw [v2.length]; simp
        have hTn : T.n = h.ents.length := nbe hn
        have := initT_sound (w := w) (s := s2) (M := M2) 0 (by rw [Nat.add_zero, hlenA, hT.size, hTn]; exact hle) v2
        have hdef : a.defers = [] := by
          obtain ⟨dv, p1, p2⟩ := hT.defers
          rw [hdl] at p1
          have : dv = [] := p1
          rw [p2, hds, this]; rfl
        have ea : ({ tmps := a.tmps ++ Array.replicate (0 - a.tmps.size) undef, defers := [] } : Act) = a := by
          rw [Nat.zero_sub, ← hdef]
          cases a
          simp
        rw [ea] at this
        exact this
    refine ⟨(key []).1, K, rfl, fun o tk ho => ⟨(hKlt o tk ho).1, ?_⟩, fun fx => (key fx).2⟩
    have hlt : o < (headO s.k 0 h.ents).length := by rw [hlen]; exact (List.getElem?_eq_some_iff.1 ho).1
    obtain ⟨tk', ob, g1, g2, g3, g4, _⟩ := hob s.k rfl o _ (List.getElem?_eq_getElem hlt)
    rw [Nat.zero_add, ho] at g1
    cases g1
    exact ⟨ob, g3, g4⟩
  · cases ha
theorem arrH_sound (hG : ∀ g cs c, G g = some cs → c ∈ cs → ∃ x, c = .v x) (hs : Sim G B0 w0 w s M) (htb : s.k.tb = tb) {h : Hd} {T : Tm} {a : Act} {es : List E} (hT : TmR w s M T a) (hle : Nat.ble h.ents.length Tr.lid = true) (ha : arrH h T s = some es) :
    FitE tb h.ents (E.denL M.env es) ∧ HeadAt G B0 w0 tb M.out h (E.denL M.env es) a w := by
  obtain ⟨k1, K, _, _, k2⟩ := arrH_full hG hs htb hT hle ha
  exact ⟨k1, _, _, fun fx => (k2 fx).2.2⟩
theorem outRet_sound {run : Code → Tm → St → Option (Ex × Tm × St)} (hP : NoNum P) (hrun : Goes P G B0 w0 none run) {q : Sig} {fn : Func} {ex : Ex} {e : Exit} {T : Tm} {r : E} {a : Act} {R : Ending → World → Prop} (h : outRet P G run q fn ex T s = some r)
    (hs : Sim G B0 w0 w s M) (hT : TmR w s M T a) (he : ExR w s M ex e)
    (hR : ∀ v w' s' M', Sim G B0 w0 w' s' M' → Ext w s M w' s' M' → ResR s.k.shape (fun b off => w'.cell? ⟨b, off, none⟩) (fun b off => ¬ M.out b off) q.res v (r.den M.env) → R (.returned v) w') :
    bodyPostM (FW none) 0 P fn R e a w := by
  have key : (match killAll s T.ds with
      | some s =>
        match finA P G run fn T none s with
        | some (r, s') =>
          match frz s' 0 1000 r with
          | some y => resE s'.k q.res y
          | none => none
        | none => none
      | none => none) = some r → LeavesInM (FW none) 0 P fn a.tmps R a.defers .returning w := by
    intro h
    split at h
    · rename_i s2 hk
      obtain ⟨dv, q1, q2⟩ := hT.defers
      rw [q2]
      refine leaves_marks hk hs hT.dlt fun w2 j1 j2 => ?_
      split at h
      · rename_i r1 s3 hf
        split at h
        · rename_i y hy
          refine leavesInM_mono (fun e3 w3 hd => ?_) (fin_sound hP hrun hf (q1.ext j2) j1 (hT.ext j2) rfl)
          have hr : isPan r1 = none := by
            unfold isPan
            split
            · simp [frz, frzG] at hy
            · rfl
          obtain ⟨v, M3, rfl, hv, hs3, hE⟩ := Done.down hd hr
          have hE2 := j2.trans hE
          have hkk : s3.k = s.k := hE2.keep.2.2
          have hv2 : VR w3 (st0 s3.k) M3 y v := frz0 hs3 hy hv
          have hr2 := resE_sound (s := st0 s3.k) h hv2
          refine hR v w3 s3 M3 hs3 hE2 ?_
          rw [← hkk, ← hE2.keep.1]
          refine hr2.mono fun b off u hu hi => ⟨hu, ?_⟩
          rw [← hE2.keep.2.1]
          exact hi.2
        · cases h
      · cases h
    · cases h
  unfold outRet at h
  split at h
  · obtain rfl : e = .normal := he
    exact key h
  · obtain rfl : e = .ret := he
    exact key h
  · cases h

/-- What is there, without objects of one's own. -/
theorem base_sim {L : List (Nat × List Value)} {w0 w : World} {fx : List E} {M : Mp} (hb : Below w0.heap.size w0 w) (hL : TabsMet L w) (hI : ∀ g us, (g, us) ∈ L → ∀ off, off < us.length → ¬ M.out g off) (hfx : ∀ e, e ∈ fx → e.den M.env = .v (.bool true)) (ho : ∀ b off, M.out b off → b < w0.heap.size) :
    Sim (tabsG L) w0.heap.size w0 w (st0 (kn fx tb)) M := by
  refine ⟨hb, Nat.le_refl _, Nat.zero_le _, fun _ hi => absurd hi (Nat.not_lt_zero _), fun _ _ _ _ hi => absurd hi (Nat.not_lt_zero _), fun _ _ hi => absurd hi (Nat.not_lt_zero _), fun g cs hg => ?_, hfx, fun b off h => ⟨Nat.lt_of_lt_of_le (ho b off h) hb.size, fun _ hi => absurd hi (Nat.not_lt_zero _)⟩⟩
  obtain ⟨us, hm, rfl⟩ := tabsG_mem hg
  obtain ⟨h1, h2⟩ := hL g us hm
  refine VRs.of_get fun i c hi => ?_
  simp only [leaves, List.getElem?_map, Option.map_eq_some_iff] at hi
  obtain ⟨u, hu, rfl⟩ := hi
  have hlt : i < us.length := (List.getElem?_eq_some_iff.1 hu).1
  refine ⟨u, h2 i u hu, VR_v_of ((List.all_eq_true.1 h1) u (List.mem_of_getElem? hu)), ?_, fun _ _ hi => absurd hi (Nat.not_lt_zero _), by rw [Nat.zero_add]; exact hI g us hm i hlt⟩
  rfl
theorem arriveF_some {j : Nat} {T : Tm} : ∀ {heads : List Hd} {i : Nat} {o : Out}, arriveF j T s heads i = some o → ∃ idx h es, heads[idx]? = some h ∧ h.loop = j ∧ arrH h T s = some es ∧ o = .go (i + idx) es
  | [], i, o, h => by cases h
  | h :: r, i, o, hh => by
    unfold arriveF at hh
    split at hh
    · rename_i es he
      cases hh
      split at he
      · rename_i hj
        exact ⟨0, h, es, rfl, nbe hj, he, rfl⟩
      · cases he
    · obtain ⟨idx, h', es, h1, h2, h3, h4⟩ := arriveF_some hh
      exact ⟨idx + 1, h', es, by simpa using h1, h2, h3, by rw [h4, show i + 1 + idx = i + (idx + 1) by omega]⟩

theorem fnOk_tree {L : List (Nat × List Value)} {q : Sig} {pre : List D → Prop} {mu : Nat → Bool} {orc : Call} {K k fuel : Nat} (hP : NoNum P) (hmix : P.follows .mixedOrders = true) (horc : ∀ B0 w0, CallOk P (tabsG L) B0 w0 orc)
    (hn : (L.map (·.1)).Nodup) (hsc : (L.all fun x => x.2.all scalar) = true) {fn : Func} {c : Code} (hfn : P.funcs[q.f]? = some fn) (hbody : fn.body = some c) (hle : Nat.ble (q.args.length + fn.ntmps) Tr.lid = true)
    (heads : List Hd) (hlen : (heads.all fun h => Nat.ble h.ents.length Tr.lid) = true) (entry : Tree) (trees : Nat → Tree)
    (hentry : entry.ok (runEntry P (tabsG L) mu (evCode P (tabsG L) (evDrawnX P (tabsG L)) (evFn P (tabsG L) mu (evDrawnX P (tabsG L)) K orc k) false K) tb q fn c heads fuel) [] = true)
    (htrees : ∀ j h, heads[j]? = some h → (trees j).ok (runHead P (tabsG L) mu (evCode P (tabsG L) (evDrawnX P (tabsG L)) (evFn P (tabsG L) mu (evDrawnX P (tabsG L)) K orc k) false K) tb q fn c heads fuel j) [] = true)
    (Inv : Nat → D → List D → Prop) (meas : Nat → List D → Nat)
    (h0 : ∀ ds, FitL tb q.args ds → pre ds → entry.holds (fun o => match o with | .ret d => d = Interp.phi q.g ds | .go j es => Inv j (Interp.phi q.g ds) es) (envOf ds))
    (hj : ∀ j h d ds, heads[j]? = some h → FitE tb h.ents ds → Inv j d ds → (trees j).holds (fun o => match o with | .ret x => x = d | .go i es => Inv i d es ∧ meas i es < meas j ds) (envOf ds)) :
    FnOk P L tb q pre := by
  intro W I vs ds hL hI hargs hpre
  have hd : ∀ call, CallOk P (tabsG L) W.heap.size W call → DrawnOk P (tabsG L) W.heap.size W (evDrawnX P (tabsG L) call) := fun call hc => drawnX_sound hP hmix hc
  have hself := fn_sound (mu := mu) hP K (horc W.heap.size W) hd k
  have hgo : Goes P (tabsG L) W.heap.size W none (evCode P (tabsG L) (evDrawnX P (tabsG L)) (evFn P (tabsG L) mu (evDrawnX P (tabsG L)) K orc k) false K) := (code_sound hP hself (hd _ hself) (rb := false) (ro := none) (fun _ => rfl) K).1
  generalize evCode P (tabsG L) (evDrawnX P (tabsG L)) (evFn P (tabsG L) mu (evDrawnX P (tabsG L)) K orc k) false K = run at hentry htrees hgo
  have hG : ∀ g cs c, tabsG L g = some cs → c ∈ cs → ∃ x, c = .v x := fun g cs c hg hc => by
    obtain ⟨us, _, rfl⟩ := tabsG_mem hg
    unfold leaves at hc
    obtain ⟨x, _, rfl⟩ := List.mem_map.1 hc
    exact ⟨x, rfl⟩
  let outW : Nat → Nat → Prop := fun b off => b < W.heap.size ∧ ¬ I b off
  let d0 := Interp.phi q.g ds
  let R : Ending → World → Prop := fun e W' => ∃ v, e = .returned v ∧ Below W.heap.size W W' ∧ ResR (kn [] tb).shape (fun b off => W'.cell? ⟨b, off, none⟩) (fun b off => I b off ∨ W.heap.size ≤ b) q.res v d0
  have hIo : ∀ g us, (g, us) ∈ L → ∀ off, off < us.length → ¬ outW g off := fun g us hm off hlt ho => ho.2 (hI g us hm off hlt)
  let HI : Nat → Nat → Act → World → Prop := fun j n a w => ∃ idx h ds', heads[idx]? = some h ∧ h.loop = j ∧ FitE tb h.ents ds' ∧ Inv idx d0 ds' ∧ meas idx ds' = n ∧ HeadAt (tabsG L) W.heap.size W tb outW h ds' a w
  -- what a way's end comes to
  have harr : ∀ {j T s o a w M}, Sim (tabsG L) W.heap.size W w s M → s.k.tb = tb → M.out = outW → TmR w s M T a → arrive heads j T s = some o → ∃ idx es, o = .go idx es ∧ (Inv idx d0 (E.denL M.env es) → HI j (meas idx (E.denL M.env es)) a w) := by
    intro j T s o a w M hs htb ho hT h
    obtain ⟨idx, hh, es, q1, q2, q3, q4⟩ := arriveF_some h
    rw [Nat.zero_add] at q4
    have hle := (List.all_eq_true.1 hlen) hh (List.mem_of_getElem? q1)
    obtain ⟨g1, g2⟩ := arrH_sound hG hs htb hT hle q3
    rw [ho] at g2
    exact ⟨idx, es, q4, fun hi => ⟨idx, hh, E.denL M.env es, q1, q2, g1, hi, rfl, g2⟩⟩
  have hret : ∀ {ex T s r a w M e}, Sim (tabsG L) W.heap.size W w s M → s.k.tb = tb → M.out = outW → TmR w s M T a → outRet P (tabsG L) run q fn ex T s = some r → ExR w s M ex e → r.den M.env = d0 → bodyPostM (FW none) 0 P fn R e a w := by
    intro ex T s r a w M e hs htb ho hT h he hr
    refine outRet_sound hP hgo h hs hT he fun v w' s' M' k1 k2 k3 => ⟨v, rfl, k1.below, ?_⟩
    rw [hr, shape_kn (fx := []) htb] at k3
    refine k3.mono fun b off u hu hi => ⟨hu, ?_⟩
    rw [ho] at hi
    by_cases hb : W.heap.size ≤ b
    · exact .inr hb
    · exact .inl (Classical.byContradiction fun hni => hi ⟨by omega, hni⟩)
  have hloops := heads_sound (Q := bodyPostM (FW none) 0 P fn R) hgo c HI (fun j n a w b kf hjb hi => by
    obtain ⟨idx, h, ds', q1, rfl, q4, q5, rfl, blk, cap, q6⟩ := hi
    obtain ⟨fx, o, g1, g2, g3⟩ := tree_sound (htrees idx h q1) (fun e he => by cases he) (hj idx h d0 ds' q1 q4 q5)
    obtain ⟨hs, hT⟩ := q6 fx g1
    have hT : TmR w (headS (kn fx tb) h.ents) ⟨blk, cap, envOf ds', outW⟩ { initT (headA (kn fx tb) 0 0 h.ents) 0 with mu := (mu q.f, false) } a := ⟨hT.size, hT.get, hT.defers, hT.dlt⟩
    have hkh : ∀ fx, (headS (kn fx tb) h.ents).k = kn fx tb := fun fx => by
      have hl := (List.all_eq_true.1 hlen) h (List.mem_of_getElem? q1)
      have hl := Nat.le_of_ble_eq_true hl
      exact (newL_get (l := headO (kn fx tb) 0 h.ents) (s := st0 (kn fx tb)) (by
        have := headO_len (k := kn fx tb) (ents := h.ents) (i := 0)
        show 0 + _ ≤ _
        omega)).2.1
    unfold runHead at g2
    rw [q1] at g2
    simp only at g2
    rw [hjb] at g2
    simp only at g2
    cases hev : evH (tabsG L) run fuel (.inl (b, h.loop + 1)) { initT (headA (kn fx tb) 0 0 h.ents) 0 with mu := (mu q.f, false) } (headS (kn fx tb) h.ents) (.head h.loop :: kf) with
    | none => rw [hev] at g2; cases g2
    | some rs =>
      rw [hev] at g2
      refine ⟨_, _, _, fuel, rs, hs, hT, hev, ?_, ?_⟩
      · rintro ex T' s' rfl e a' w' M' j0 j1 j2 j3
        obtain ⟨r, hr, rfl⟩ := Option.map_eq_some_iff.1 g2
        refine hret j2 (by rw [j3.keep.2.2, hkh]; rfl) (by rw [j3.keep.2.1]) j1 hr j0 ?_
        rw [j3.keep.1]
        exact g3
      · rintro i T' s' hrs a' w' M' j1 j2 j3
        have ha : arrive heads i T' s' = some o := by
          rcases hrs with rfl | rfl
          · exact g2
          · exact g2
        obtain ⟨idx', es, rfl, hh⟩ := harr j2 (by rw [j3.keep.2.2, hkh]; rfl) (by rw [j3.keep.2.1]) j1 ha
        have g3 : Inv idx' d0 (E.denL (envOf ds') es) ∧ meas idx' (E.denL (envOf ds') es) < meas idx ds' := g3
        have e1 : M'.env = envOf ds' := j3.keep.1
        rw [e1] at hh
        exact ⟨_, g3.2, hh g3.1⟩)
  -- the entry
  obtain ⟨fx, o, g1, g2, g3⟩ := tree_sound hentry (fun e he => by cases he) (h0 ds hargs.fit hpre)
  let M : Mp := ⟨id, id, envOf ds, outW⟩
  have hs : Sim (tabsG L) W.heap.size W W (st0 (kn fx tb)) M := base_sim (Below.refl _ _) hL hIo g1 fun b off ho => ho.1
  have hv : VRl W (st0 (kn fx tb)) M (argsA (kn fx tb) 0 q.args) vs.toList := argsA_VRl (k := kn fx tb) (ds0 := ds) (j := 0) (by simp) hargs
  have hal : (argsA (kn fx tb) 0 q.args).length = q.args.length := by
    have : ∀ (hs : List Sh) (i : Nat), (argsA (kn fx tb) i hs).length = hs.length := by
      intro hs
      induction hs with
      | nil => intro i; rfl
      | cons h t ih => intro i; unfold argsA; rw [List.length_cons, ih, List.length_cons]
    exact this _ _
  have hT := initT_sound (w := W) (s := st0 (kn fx tb)) (M := M) fn.ntmps (by rw [hal]; exact Nat.le_of_ble_eq_true hle) hv
  have hT : TmR W (st0 (kn fx tb)) M { initT (argsA (kn fx tb) 0 q.args) fn.ntmps with mu := (mu q.f, false) } { tmps := vs ++ Array.replicate (fn.ntmps - vs.size) undef, defers := [] } := ⟨hT.size, hT.get, hT.defers, hT.dlt⟩
  refine callsIn_of_wp_marks (R := R) hfn hbody trivial ?_
  unfold runEntry at g2
  cases hev : evH (tabsG L) run fuel (.inl (c, 0)) { initT (argsA (kn fx tb) 0 q.args) fn.ntmps with mu := (mu q.f, false) } (st0 (kn fx tb)) [] with
  | none => rw [hev] at g2; cases g2
  | some rs =>
    rw [hev] at g2
    have := evH_sound (hd := headsL c [] 0) (J := fun _ _ _ => True) (Q := bodyPostM (FW none) 0 P fn R) hgo fuel hev (by trivial) (fun c' m e => by cases e; exact fun i x h => by rw [Nat.zero_add]; exact h) W M _ hs hT
      (by
        rintro ex T' s' rfl e a' w' M' j0 j1 j2 j3
        obtain ⟨r, hr, rfl⟩ := Option.map_eq_some_iff.1 g2
        refine hret j2 (by rw [j3.keep.2.2]; rfl) (by rw [j3.keep.2.1]) j1 hr j0 ?_
        rw [j3.keep.1]
        exact g3)
      (by
        rintro i T' s' b k' rfl hib a' w' M' j1 j2 j3
        obtain ⟨idx', es, rfl, hh⟩ := harr j2 (by rw [j3.keep.2.2]; rfl) (by rw [j3.keep.2.1]) j1 g2
        have g3 : Inv idx' d0 (E.denL (envOf ds) es) := g3
        have e1 : M'.env = envOf ds := j3.keep.1
        rw [e1] at hh
        refine wpIn_mono (hloops _ _ (Nat.le_refl _) i b k' a' w' hib (hh g3)) fun e a1 w1 hq => ?_
        exact wpk_mono (fun _ _ _ _ => trivial) k' e a1 w1 hq)
      (by
        rintro i T' s' rfl a' w' M' j1 j2 j3
        trivial)
    exact this
end
end Go.Ab
