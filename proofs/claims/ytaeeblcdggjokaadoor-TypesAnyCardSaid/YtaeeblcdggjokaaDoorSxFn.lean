/- Contracts of functions over plain data: what is handed in and comes back, as expressions. -/
import Derived.Test.YtaeeblcdggjokaaDoorSxWp
import Derived.Test.YtaeeblcdggjokaaDoorSxRow
namespace Go.Ab
set_option linter.unusedVariables false
set_option linter.unusedSimpArgs false
set_option linter.unusedSectionVars false
set_option linter.constructorNameAsVariable false
open Go Go.RowKit

/-- What is handed in: a cell, or a struct. -/
inductive Sh where
  | cell (c : CT)
  | row (t : Nat)
  | fn (f : Nat) (ts : List Nat)
  | lit (x : ByteArray)
section
variable (tb : Nat → List CT) (C : Nat → Nat → Option Value) (I : Nat → Nat → Prop)
def CellsR : List Value → List D → List CT → Prop
  | [], [], [] => True
  | v :: vs, d :: ds, c :: cs => (DV C I d v ∧ fits tb d c) ∧ CellsR vs ds cs
  | _, _, _ => False
def RefR (t : Nat) (v : Value) (d : D) : Prop := ∃ b off cs, v = .pointer (some ⟨b, off, none⟩) ∧ d = .row cs ∧ DVs C I cs b off ∧ fitsC tb cs (tb t)
def RefsR : List Value → List D → List Nat → Prop
  | [], [], [] => True
  | v :: vs, d :: ds, t :: ts => RefR tb C I t v d ∧ RefsR vs ds ts
  | _, _, _ => False
def ArgR : Sh → Value → D → Prop
  | .cell c, v, d => DV C I d v ∧ fits tb d c
  | .row t, v, d => ∃ vs cs, v = .agg vs ∧ d = .row cs ∧ CellsR tb C I vs.toList cs (tb t)
  | .fn f ts, v, d => ∃ caps ds, v = .func (.func f) #[] caps ∧ d = .row ds ∧ RefsR tb C I caps.toList ds ts
  | .lit x, v, d => v = .string x ∧ d = .v (.string x)
def ArgsR : List Sh → List Value → List D → Prop
  | [], [], [] => True
  | h :: hs, v :: vs, d :: ds => ArgR tb C I h v d ∧ ArgsR hs vs ds
  | _, _, _ => False
/-- What comes back: one, or several. -/
def ResR (hs : List Sh) (v : Value) (d : D) : Prop :=
  match hs with
  | [h] => ArgR tb C I h v d
  | hs => ∃ vs ds, v = .tuple vs ∧ d = .row ds ∧ ArgsR tb C I hs vs.toList ds
end

/-! ### Values as expressions -/
def fuelX : Nat := 100000
/-- A pointer to a row that is written no more. -/
def refX (k : Kn) (t : Nat) : AV → Option E
  | .rd t' e 0 => if t = t' then some e else none
  | .ref cs => (cellsX k fuelX (k.shape t) cs).map (.pr .row)
  | _ => none
def refsX (k : Kn) : List Nat → List AV → Option (List E)
  | [], [] => some []
  | t :: ts, a :: as =>
    match refX k t a, refsX k ts as with
    | some x, some y => some (x :: y)
    | _, _ => none
  | _, _ => none
def shE (k : Kn) : Sh → AV → Option E
  | .cell c, a => cellX k fuelX c a
  | .row t, .agg cs => if Nat.beq cs.length (k.shape t).length then (cellsX k fuelX (k.shape t) cs).map (.pr .row) else none
  | .fn f ts, .fn (.func g) [] caps => if Nat.beq f g then (refsX k ts caps).map (.pr .row) else none
  | .lit x, .v (.string y) => if x = y then some (.lit (.string x)) else none
  | _, _ => none
def shEs (k : Kn) : List Sh → List AV → Option (List E)
  | [], [] => some []
  | h :: hs, a :: as =>
    match shE k h a, shEs k hs as with
    | some x, some y => some (x :: y)
    | _, _ => none
  | _, _ => none
/-- What stands for an argument, or a result. -/
def refsA (e : E) : Nat → List Nat → List AV
  | _, [] => []
  | j, t :: ts => .rd t (cellE e j) 0 :: refsA e (j + 1) ts
def shA (k : Kn) (e : E) : Sh → AV
  | .cell (.sc t) => .x t e
  | .cell (.sl t) => .d t e none
  | .row t => .agg (cellsA e 0 (k.shape t))
  | .fn f ts => .fn (.func f) [] (refsA e 0 ts)
  | .lit x => .v (.string x)
def resA (k : Kn) (e : E) : List Sh → AV
  | [h] => shA k e h
  | hs => .tup (hs.zipIdx.map fun (h, i) => shA k (.pr (.cell i) [e]) h)

section
variable [Interp] {P : Program} {G : Nat → Option (List AV)} {B0 : Nat} {w0 w : World} {s : St} {M : Mp}

theorem cellsX_VRl : ∀ (n : Nat) {ct : List CT} {cs : List AV} {l : List E} {vs : List Value}, ct.length = cs.length → cellsX s.k n ct cs = some l → VRl w s M cs vs → CellsR s.k.shape (fun b off => w.cell? ⟨b, off, none⟩) (Imm s M) vs (E.denL M.env l) ct
  | 0, _, _, _, _, _, h, _ => by unfold cellsX at h; cases h
  | n + 1, ct, cs, l, vs, hlen, h, hv => by
    unfold cellsX at h
    split at h
    · cases h
      have : cs = [] := List.length_eq_zero_iff.1 hlen.symm
      subst this
      unfold VRl at hv
      subst hv
      unfold E.denL CellsR
      trivial
    · rename_i c r a as
      split at h
      · rename_i x y h1 h2
        cases h
        unfold VRl at hv
        obtain ⟨v, t, rfl, g1, g4⟩ := hv
        unfold E.denL CellsR
        exact ⟨cellX_sound n h1 g1, cellsX_VRl n (by simpa using hlen) h2 g4⟩
      · cases h
    · cases h
theorem refX_sound {t : Nat} {a : AV} {e : E} {v : Value} (h : refX s.k t a = some e) (hv : VR w s M a v) : RefR s.k.shape (fun b off => w.cell? ⟨b, off, none⟩) (Imm s M) t v (e.den M.env) := by
  unfold refX at h
  split at h
  · rename_i t' e'
    split at h
    · rename_i ht
      cases h
      subst ht
      unfold VR at hv
      obtain ⟨b, off, cs, rfl, he, hd, hf⟩ := hv
      exact ⟨b, off, cs, rfl, he, hd, hf⟩
    · cases h
  · obtain ⟨l, hl, rfl⟩ := Option.map_eq_some_iff.1 h
    unfold VR at hv
    obtain ⟨b, off, rfl, hv⟩ := hv
    obtain ⟨k1, k2⟩ := cellsX_sound _ hl hv
    exact ⟨b, off, _, rfl, rfl, k1, k2⟩
  · cases h
theorem refsX_sound : ∀ {ts : List Nat} {as : List AV} {es : List E} {vs : List Value}, refsX s.k ts as = some es → VRl w s M as vs → RefsR s.k.shape (fun b off => w.cell? ⟨b, off, none⟩) (Imm s M) vs (E.denL M.env es) ts
  | [], [], es, vs, h, hv => by
    simp only [refsX, Option.some.injEq] at h
    subst h; unfold VRl at hv; subst hv
    unfold E.denL RefsR; trivial
  | t :: ts, a :: as, es, vs, hx, hv => by
    unfold refsX at hx
    split at hx
    · rename_i x y h1 h2
      cases hx
      unfold VRl at hv
      obtain ⟨v, r, rfl, g1, g2⟩ := hv
      unfold E.denL RefsR
      exact ⟨refX_sound h1 g1, refsX_sound h2 g2⟩
    · cases hx
  | [], _ :: _, _, _, h, _ => by unfold refsX at h; cases h
  | _ :: _, [], _, _, h, _ => by unfold refsX at h; cases h
theorem shE_sound {h : Sh} {a : AV} {e : E} {v : Value} (hx : shE s.k h a = some e) (hv : VR w s M a v) : ArgR s.k.shape (fun b off => w.cell? ⟨b, off, none⟩) (Imm s M) h v (e.den M.env) := by
  unfold shE at hx
  split at hx
  · exact cellX_sound _ hx hv
  · rename_i t cs
    split at hx
    · rename_i hlen
      obtain ⟨l, hl, rfl⟩ := Option.map_eq_some_iff.1 hx
      unfold VR at hv
      obtain ⟨vs, rfl, hv⟩ := hv
      exact ⟨vs, E.denL M.env l, rfl, rfl, cellsX_VRl _ (nbe hlen).symm hl hv⟩
    · cases hx
  · rename_i f ts g caps
    split at hx
    · rename_i hf
      obtain rfl := nbe hf
      obtain ⟨l, hl, rfl⟩ := Option.map_eq_some_iff.1 hx
      unfold VR at hv
      obtain ⟨f', a', b', rfl, h0, h1, h2⟩ := hv
      simp only [renFn, Option.some.injEq] at h0
      subst h0
      unfold VRl at h1
      have ha : a' = #[] := Array.toList_inj.1 h1
      subst ha
      exact ⟨b', E.denL M.env l, rfl, rfl, refsX_sound hl h2⟩
    · cases hx
  · split at hx
    · rename_i he
      cases hx
      subst he
      exact ⟨(VR_v.1 hv).1, rfl⟩
    · cases hx
  · cases hx
theorem shEs_sound : ∀ {hs : List Sh} {as : List AV} {es : List E} {vs : List Value}, shEs s.k hs as = some es → VRl w s M as vs → ArgsR s.k.shape (fun b off => w.cell? ⟨b, off, none⟩) (Imm s M) hs vs (E.denL M.env es)
  | [], [], es, vs, h, hv => by
    simp only [shEs, Option.some.injEq] at h
    subst h; unfold VRl at hv; subst hv
    unfold E.denL ArgsR; trivial
  | h :: hs, a :: as, es, vs, hx, hv => by
    unfold shEs at hx
    split at hx
    · rename_i x y h1 h2
      cases hx
      unfold VRl at hv
      obtain ⟨v, t, rfl, g1, g2⟩ := hv
      unfold E.denL ArgsR
      exact ⟨shE_sound h1 g1, shEs_sound h2 g2⟩
    · cases hx
  | [], _ :: _, _, _, h, _ => by unfold shEs at h; cases h
  | _ :: _, [], _, _, h, _ => by unfold shEs at h; cases h

/-! ### And back -/
theorem CellsR_VRl {e : E} {cs : List D} (he : e.den M.env = .row cs) : ∀ {ct : List CT} {ds : List D} {vs : List Value} {j : Nat}, ds = cs.drop j → CellsR s.k.shape (fun b off => w.cell? ⟨b, off, none⟩) (Imm s M) vs ds ct → VRl w s M (cellsA e j ct) vs
  | [], [], [], j, _, _ => VRl_nil
  | c :: ct, d :: ds, v :: vs, j, hds, h => by
    unfold CellsR at h
    have hj : cs[j]? = some d := by
      have := congrArg (·[0]?) hds
      simp only [List.getElem?_cons_zero, List.getElem?_drop, Nat.add_zero] at this
      exact this.symm
    unfold cellsA
    refine VRl_cons (cellA_VR he hj h.1.2 h.1.1) (CellsR_VRl he (j := j + 1) ?_ h.2)
    have := congrArg (List.drop 1) hds
    rw [List.drop_drop] at this
    simpa using this
  | [], _ :: _, vs, _, _, h => by unfold CellsR at h; cases vs <;> exact h.elim
  | [], [], _ :: _, _, _, h => by unfold CellsR at h; exact h.elim
  | _ :: _, [], vs, _, _, h => by unfold CellsR at h; cases vs <;> exact h.elim
  | _ :: _, _ :: _, [], _, _, h => by unfold CellsR at h; exact h.elim
theorem RefsR_VRl {e : E} {cs : List D} (he : e.den M.env = .row cs) : ∀ {ts : List Nat} {ds : List D} {vs : List Value} {j : Nat}, ds = cs.drop j → RefsR s.k.shape (fun b off => w.cell? ⟨b, off, none⟩) (Imm s M) vs ds ts → VRl w s M (refsA e j ts) vs
  | [], [], [], j, _, _ => VRl_nil
  | t :: ts, d :: ds, v :: vs, j, hds, h => by
    unfold RefsR at h
    have hj : cs[j]? = some d := by
      have := congrArg (·[0]?) hds
      simp only [List.getElem?_cons_zero, List.getElem?_drop, Nat.add_zero] at this
      exact this.symm
    unfold refsA
    obtain ⟨⟨b, off, us, rfl, rfl, h1, h2⟩, h3⟩ := h
    refine VRl_cons ?_ (RefsR_VRl he (j := j + 1) ?_ h3)
    · unfold VR
      exact ⟨b, off, us, by rw [Nat.add_zero], cellE_den he hj, h1, h2⟩
    · have := congrArg (List.drop 1) hds
      rw [List.drop_drop] at this
      simpa using this
  | [], _ :: _, vs, _, _, h => by unfold RefsR at h; cases vs <;> exact h.elim
  | [], [], _ :: _, _, _, h => by unfold RefsR at h; exact h.elim
  | _ :: _, [], vs, _, _, h => by unfold RefsR at h; cases vs <;> exact h.elim
  | _ :: _, _ :: _, [], _, _, h => by unfold RefsR at h; exact h.elim
theorem shA_VR {h : Sh} {e : E} {v : Value} (ha : ArgR s.k.shape (fun b off => w.cell? ⟨b, off, none⟩) (Imm s M) h v (e.den M.env)) : VR w s M (shA s.k e h) v := by
  cases h with
  | cell c =>
    unfold ArgR at ha
    cases c with
    | sc t =>
      obtain ⟨h1, h2⟩ := ha
      generalize hd : e.den M.env = d at h1 h2
      cases d with
      | v x =>
        unfold DV at h1; unfold fits at h2
        obtain ⟨rfl, _⟩ := h1
        unfold shA VR
        exact ⟨hd, h2⟩
      | nil => unfold fits at h2; exact h2.elim
      | lst _ => unfold fits at h2; exact h2.elim
      | row _ => unfold fits at h2; exact h2.elim
    | sl t => unfold shA VR; exact ⟨ha.1, ha.2, fun t ht => by cases ht⟩
  | row t =>
    obtain ⟨vs, cs, rfl, he, hc⟩ := ha
    unfold shA VR
    exact ⟨vs, rfl, CellsR_VRl he (by simp) hc⟩
  | fn f ts =>
    obtain ⟨caps, ds, rfl, he, hc⟩ := ha
    unfold shA VR
    exact ⟨.func f, #[], caps, rfl, rfl, VRl_nil, RefsR_VRl he (by simp) hc⟩
  | lit x =>
    obtain ⟨rfl, _⟩ := ha
    exact VR_v_of rfl
theorem shAs_VR {e : E} {ds0 : List D} (he : e.den M.env = .row ds0) : ∀ {hs : List Sh} {ds : List D} {vs : List Value} {j : Nat}, ds = ds0.drop j → ArgsR s.k.shape (fun b off => w.cell? ⟨b, off, none⟩) (Imm s M) hs vs ds → VRl w s M ((hs.zipIdx j).map fun x => shA s.k (.pr (.cell x.2) [e]) x.1) vs
  | [], [], [], j, _, _ => VRl_nil
  | h :: hs, d :: ds, v :: vs, j, hds, ha => by
    unfold ArgsR at ha
    have hj : ds0[j]? = some d := by
      have := congrArg (·[0]?) hds
      simp only [List.getElem?_cons_zero, List.getElem?_drop, Nat.add_zero] at this
      exact this.symm
    rw [List.zipIdx_cons, List.map_cons]
    refine VRl_cons (shA_VR ?_) (shAs_VR he (j := j + 1) ?_ ha.2)
    · have : (E.pr (.cell j) [e]).den M.env = d := by
        simp only [E.den, E.denL, Prim.den, he, D.cells]
        rw [List.getD_eq_getElem?_getD, hj]; rfl
      rw [this]; exact ha.1
    · have := congrArg (List.drop 1) hds
      rw [List.drop_drop] at this
      simpa using this
  | [], _ :: _, vs, _, _, h => by unfold ArgsR at h; cases vs <;> exact h.elim
  | [], [], _ :: _, _, _, h => by unfold ArgsR at h; exact h.elim
  | _ :: _, [], vs, _, _, h => by unfold ArgsR at h; cases vs <;> exact h.elim
  | _ :: _, _ :: _, [], _, _, h => by unfold ArgsR at h; exact h.elim
theorem resA_VR {hs : List Sh} {e : E} {v : Value} (ha : ResR s.k.shape (fun b off => w.cell? ⟨b, off, none⟩) (Imm s M) hs v (e.den M.env)) : VR w s M (resA s.k e hs) v := by
  unfold ResR at ha
  split at ha
  · exact shA_VR ha
  · rename_i hno
    obtain ⟨vs, ds, rfl, he, ha⟩ := ha
    have := shAs_VR he (j := 0) (by simp) ha
    unfold resA
    split
    · rename_i h; exact absurd rfl (hno h)
    · unfold VR; exact ⟨vs, rfl, this⟩

/-! ### More is immutable, more is there -/
theorem CellsR.mono {tb : Nat → List CT} {C C' : Nat → Nat → Option Value} {I I' : Nat → Nat → Prop} (h : ∀ b off v, C b off = some v → I b off → C' b off = some v ∧ I' b off) : ∀ {vs : List Value} {ds : List D} {cs : List CT}, CellsR tb C I vs ds cs → CellsR tb C' I' vs ds cs
  | [], [], [], _ => by unfold CellsR; trivial
  | v :: vs, d :: ds, c :: cs, k => by
    unfold CellsR at k ⊢
    exact ⟨⟨k.1.1.mono h, k.1.2⟩, CellsR.mono h k.2⟩
  | [], _ :: _, _, k => by unfold CellsR at k; exact k.elim
  | _ :: _, [], _, k => by unfold CellsR at k; exact k.elim
  | [], [], _ :: _, k => by unfold CellsR at k; exact k.elim
  | _ :: _, _ :: _, [], k => by unfold CellsR at k; exact k.elim
theorem RefsR.mono {tb : Nat → List CT} {C C' : Nat → Nat → Option Value} {I I' : Nat → Nat → Prop} (h : ∀ b off v, C b off = some v → I b off → C' b off = some v ∧ I' b off) : ∀ {vs : List Value} {ds : List D} {ts : List Nat}, RefsR tb C I vs ds ts → RefsR tb C' I' vs ds ts
  | [], [], [], _ => by unfold RefsR; trivial
  | v :: vs, d :: ds, c :: cs, k => by
    unfold RefsR at k ⊢
    obtain ⟨⟨b, off, us, e1, e2, k1, k2⟩, k3⟩ := k
    exact ⟨⟨b, off, us, e1, e2, k1.mono h, k2⟩, RefsR.mono h k3⟩
  | [], _ :: _, _, k => by unfold RefsR at k; exact k.elim
  | _ :: _, [], _, k => by unfold RefsR at k; exact k.elim
  | [], [], _ :: _, k => by unfold RefsR at k; exact k.elim
  | _ :: _, _ :: _, [], k => by unfold RefsR at k; exact k.elim
theorem ArgR.mono {tb : Nat → List CT} {C C' : Nat → Nat → Option Value} {I I' : Nat → Nat → Prop} (h : ∀ b off v, C b off = some v → I b off → C' b off = some v ∧ I' b off) {sh : Sh} {v : Value} {d : D} (k : ArgR tb C I sh v d) : ArgR tb C' I' sh v d := by
  cases sh with
  | cell c => exact ⟨k.1.mono h, k.2⟩
  | row t => obtain ⟨vs, cs, e1, e2, k⟩ := k; exact ⟨vs, cs, e1, e2, k.mono h⟩
  | fn f ts => obtain ⟨vs, cs, e1, e2, k⟩ := k; exact ⟨vs, cs, e1, e2, k.mono h⟩
  | lit x => exact k
theorem ArgsR.mono {tb : Nat → List CT} {C C' : Nat → Nat → Option Value} {I I' : Nat → Nat → Prop} (h : ∀ b off v, C b off = some v → I b off → C' b off = some v ∧ I' b off) : ∀ {hs : List Sh} {vs : List Value} {ds : List D}, ArgsR tb C I hs vs ds → ArgsR tb C' I' hs vs ds
  | [], [], [], _ => by unfold ArgsR; trivial
  | s :: hs, v :: vs, d :: ds, k => by
    unfold ArgsR at k ⊢
    exact ⟨k.1.mono h, ArgsR.mono h k.2⟩
  | [], _ :: _, _, k => by unfold ArgsR at k; exact k.elim
  | _ :: _, [], _, k => by unfold ArgsR at k; exact k.elim
  | [], [], _ :: _, k => by unfold ArgsR at k; exact k.elim
  | _ :: _, _ :: _, [], k => by unfold ArgsR at k; exact k.elim
theorem ResR.mono {tb : Nat → List CT} {C C' : Nat → Nat → Option Value} {I I' : Nat → Nat → Prop} (h : ∀ b off v, C b off = some v → I b off → C' b off = some v ∧ I' b off) {hs : List Sh} {v : Value} {d : D} (k : ResR tb C I hs v d) : ResR tb C' I' hs v d := by
  rcases hs with _ | ⟨a, _ | ⟨b, r⟩⟩
  · obtain ⟨vs, ds, e1, e2, k⟩ := k; exact ⟨vs, ds, e1, e2, k.mono h⟩
  · exact ArgR.mono h k
  · obtain ⟨vs, ds, e1, e2, k⟩ := k; exact ⟨vs, ds, e1, e2, k.mono h⟩

/-! ### Contracts -/
/-- A function's contract: whatever plain data is handed in (and the pre holds of it), it comes back with 'phi g' of it, and leaves what there was. -/
structure Sig where
  f : FuncId
  g : Nat
  args : List Sh
  res : List Sh
def FnOk (P : Program) (L : List (Nat × List Value)) (tb : List (Nat × List CT)) (q : Sig) (pre : List D → Prop) : Prop :=
  ∀ (W : World) (I : Nat → Nat → Prop) (vs : Array Value) (ds : List D), TabsMet L W → (∀ g us, (g, us) ∈ L → ∀ off, off < us.length → I g off) → ArgsR ({ tb := tb } : Kn).shape (fun b off => W.cell? ⟨b, off, none⟩) I q.args vs.toList ds → pre ds →
    CallsIn (FW none) 0 P q.f vs W fun e W' => ∃ v, e = .returned v ∧ Below W.heap.size W W' ∧ ResR ({ tb := tb } : Kn).shape (fun b off => W'.cell? ⟨b, off, none⟩) (fun b off => I b off ∨ W.heap.size ≤ b) q.res v (Interp.phi q.g ds)
/-- What a closure has captured is written no more, from here on. -/
def capsOf : AV → List Nat
  | .fn (.func _) [] caps => caps.filterMap fun c => match c with | .box b 0 => some b | _ => none
  | _ => []
def killL (s : St) : List Nat → St
  | [] => s
  | b :: r => killL (s.put b .dead) r
def frzAll (s : St) (free : Nat → Bool) : List AV → Option (List AV)
  | [] => some []
  | a :: r =>
    match frzG s free 1000 a, frzAll s free r with
    | some x, some y => some (x :: y)
    | _, _ => none
def memN (b : Nat) : List Nat → Bool
  | [] => false
  | c :: r => Nat.beq b c || memN b r
theorem memN_iff {b : Nat} : ∀ {l : List Nat}, memN b l = true ↔ b ∈ l
  | [] => by simp [memN]
  | c :: r => by
    unfold memN
    rw [Bool.or_eq_true, memN_iff, List.mem_cons]
    exact ⟨fun h => h.imp nbe id, fun h => h.imp (fun e => by subst e; exact nbt _) id⟩
theorem kill_list : ∀ {K : List Nat} {s : St}, Sim G B0 w0 w s M → (∀ b, b ∈ K → b < s.n) → Sim G B0 w0 w (killL s K) M ∧ Ext w s M w (killL s K) M ∧ (killL s K).n = s.n ∧ (killL s K).k = s.k ∧ ∀ i, (killL s K).get i = if i ∈ K then some .dead else s.get i
  | [], s, hs, _ => ⟨hs, Ext.refl _ _ _, rfl, rfl, fun i => by simp [killL]⟩
  | b :: r, s, hs, hK => by
    have hb := hK b (List.mem_cons_self ..)
    have hbl : b < Tr.lid := Nat.lt_of_lt_of_le hb hs.bound
    obtain ⟨k1, k2, k3, k4, k5⟩ := kill_list (K := r) (sim_kill hs b hb) (fun c hc => hK c (List.mem_cons_of_mem _ hc))
    refine ⟨k1, (ext_kill b hbl).trans k2, k3, k4, fun i => ?_⟩
    show (killL (s.put b .dead) r).get i = _
    rw [k5, St.get_put _ _ _ _ hbl]
    by_cases h1 : i ∈ r
    · rw [if_pos h1, if_pos (List.mem_cons_of_mem _ h1)]
    · rw [if_neg h1]
      by_cases h2 : i = b
      · rw [if_pos h2, if_pos (by rw [h2]; exact List.mem_cons_self ..)]
      · rw [if_neg h2, if_neg (fun h => by rcases List.mem_cons.1 h with h | h; exact h2 h; exact h1 h)]
theorem frzAll_VRl {s' : St} {free : Nat → Bool} (himm : ∀ b off, Imm s M b off → Imm s' M b off) (hown : ∀ b cs k, b < s.n → s.get b = some (.box cs k) → free b = true → ∀ off, Imm s' M (M.blk b) off) (hk : s.k = s'.k) (hs : Sim G B0 w0 w s M) : ∀ {as ys : List AV} {vs : List Value}, frzAll s free as = some ys → VRl w s M as vs → VRl w s' M ys vs
  | [], ys, vs, h, hv => by
    simp only [frzAll, Option.some.injEq] at h
    subst h; unfold VRl at hv ⊢; exact hv
  | a :: r, ys, vs, h, hv => by
    unfold frzAll at h
    split at h
    · rename_i x y h1 h2
      cases h
      unfold VRl at hv ⊢
      obtain ⟨v, t, e, g1, g2⟩ := hv
      exact ⟨v, t, e, frzG_VR himm hown hk hs _ h1 g1, frzAll_VRl himm hown hk hs h2 g2⟩
    · cases h
/-- Where all but what is kept dies, what stood in a box stands for ever. -/
theorem kill_own {s' : St} {K : List Nat} (hs : Sim G B0 w0 w s M) (hget : ∀ i, s'.get i = if i ∈ K then some .dead else s.get i) (hn : s'.n = s.n) : ∀ b cs k, b < s.n → s.get b = some (.box cs k) → memN b K = true → ∀ off, Imm s' M (M.blk b) off := by
  intro b cs k hb hgb hf off
  have hbK := memN_iff.1 hf
  refine ⟨fun j o hj hgj hbk => ?_, out_own hs hb⟩
  rw [hget] at hgj
  by_cases hjK : j ∈ K
  · rw [if_pos hjK] at hgj; cases hgj; trivial
  · rw [if_neg hjK] at hgj
    rw [hn] at hj
    have e1 := hs.inj j b o (.box cs k) hj hb hgj hgb
    cases o with
    | dead => trivial
    | _ => exact absurd (e1 trivial trivial hbk) (fun e => hjK (by rw [e]; exact hbK))
/-- The contract, taken at a call. -/
def ctrOrc (tb : List (Nat × List CT)) (q : Sig) (need : List E → List E) : Call := fun fr args s =>
  match fr with
  | .func f =>
    if Nat.beq f q.f && decide (s.k.tb = tb) then
      let K := args.flatMap capsOf
      if K.all fun b => Nat.ble (b + 1) s.n then
        match frzAll s (fun b => memN b K) args with
        | some args' =>
          match shEs s.k q.args args' with
          | some es => if (need es).all fun e => hasE e s.k.fx then some (resA s.k (.app q.g es) q.res, killL s K) else none
          | none => none
        | none => none
      else none
    else none
  | _ => none
theorem ctrOrc_ok {L : List (Nat × List Value)} {tb : List (Nat × List CT)} {q : Sig} {pre : List D → Prop} {need : List E → List E} (hn : (L.map (·.1)).Nodup) (hsc : (L.all fun x => x.2.all scalar) = true) (h : FnOk P L tb q pre)
    (hpre : ∀ (env : Nat → D) (es : List E), (∀ e ∈ need es, e.den env = .v (.bool true)) → pre (E.denL env es)) : CallOk P (tabsG L) B0 w0 (ctrOrc tb q need) := by
  intro fr args s r s' ho w M vs hs hv
  unfold ctrOrc at ho
  split at ho
  · rename_i f
    split at ho
    · rename_i hf
      rw [Bool.and_eq_true, decide_eq_true_eq] at hf
      obtain ⟨hf, htb⟩ := hf
      obtain rfl := nbe hf
      simp only at ho
      split at ho
      · rename_i hK
        have hK : ∀ b, b ∈ args.flatMap capsOf → b < s.n := fun b hb => Nat.le_of_ble_eq_true ((List.all_eq_true.1 hK) b hb)
        split at ho
        · rename_i args' hfr
          split at ho
          · rename_i es hes
            split at ho
            · rename_i hneed
              cases ho
              obtain ⟨q1, q2, q3, q4, q5⟩ := kill_list (w := w) (M := M) hs hK
              have hv2 : VRl w (killL s (args.flatMap capsOf)) M args' vs.toList := frzAll_VRl (fun b off hi => by
                refine ⟨fun i o hin hgi hbk => ?_, hi.2⟩
                rw [q5] at hgi
                split at hgi
                · cases hgi; trivial
                · exact hi.1 i o (by rw [← q3]; exact hin) hgi hbk) (kill_own hs q5 q3) q4.symm hs hfr hv
              have hsh : ({ tb := tb } : Kn).shape = s.k.shape := by funext t; unfold Kn.shape; rw [htb]
              rw [← q4] at hes
              have hargs := shEs_sound hes hv2
              have hp : pre (E.denL M.env es) := hpre _ _ fun e he => fact_of hs ((List.all_eq_true.1 hneed) e he)
              refine (h w (Imm (killL s (args.flatMap capsOf)) M) vs (E.denL M.env es) (tabs_of_sim hn hsc hs) (fun g us hm off ho => ?_) (by rw [hsh, ← q4]; exact hargs) hp).mono ?_
              · have hg := q1.glob g _ (tabsG_first hm hn)
                obtain ⟨_, _, _, _, h4⟩ := VRs.get hg off (.v us[off]) (by simp [leaves, ho])
                simpa using h4
              · rintro e W' ⟨v, rfl, hb, hr⟩
                obtain ⟨k1, k2⟩ := sim_frame q1 hb
                refine ⟨M, .inl ⟨v, rfl, ?_⟩, k1, q2.trans k2⟩
                rw [← q4]
                refine resA_VR (e := .app q.g es) ?_
                rw [hsh, ← q4] at hr
                simp only [E.den]
                refine hr.mono fun b off u hu hi => ⟨hu, ?_⟩
                rcases hi with hi | hi
                · exact hi
                · exact ⟨fun i o hin _ hbk => absurd (hs.blk i (by rw [← q3]; exact hin)).2 (by rw [hbk]; omega), out_new hs hi⟩
            · cases ho
          · cases ho
        · cases ho
      · cases ho
    · cases ho
  · cases ho
/-- One contract, or another. -/
def orElse (a b : Call) : Call := fun fr args s => match a fr args s with | some r => some r | none => b fr args s
theorem orElse_ok {a b : Call} (ha : CallOk P G B0 w0 a) (hb : CallOk P G B0 w0 b) : CallOk P G B0 w0 (orElse a b) := by
  intro fr args s r s' h
  unfold orElse at h
  split at h
  · rename_i q hq
    cases h
    exact ha fr args s r s' hq
  · exact hb fr args s r s' h

/-! ### A function, proved by its paths -/
def kn (fx : List E) (tb : List (Nat × List CT)) : Kn := { fx := fx, tb := tb }
def st0 (k : Kn) : St := { n := 0, o := .lf, k := k }
def argsA (k : Kn) : Nat → List Sh → List AV
  | _, [] => []
  | i, h :: hs => shA k (.var i) h :: argsA k (i + 1) hs
def envOf (ds : List D) : Nat → D := fun i => ds.getD i .nil
def resE (k : Kn) (hs : List Sh) (r : AV) : Option E :=
  match hs, r with
  | [h], r => shE k h r
  | hs, .tup l => (shEs k hs l).map (.pr .row)
  | _, _ => none
theorem resE_sound {hs : List Sh} {r : AV} {e : E} {v : Value} (h : resE s.k hs r = some e) (hv : VR w s M r v) : ResR s.k.shape (fun b off => w.cell? ⟨b, off, none⟩) (Imm s M) hs v (e.den M.env) := by
  have key : ∀ {hs : List Sh} {l : List AV} {es : List E} {v : Value}, shEs s.k hs l = some es → VR w s M (.tup l) v → ∃ vs ds, v = .tuple vs ∧ (E.pr .row es).den M.env = .row ds ∧ ArgsR s.k.shape (fun b off => w.cell? ⟨b, off, none⟩) (Imm s M) hs vs.toList ds := by
    intro hs l es v he hv
    unfold VR at hv
    obtain ⟨vs, rfl, hv⟩ := hv
    exact ⟨vs, E.denL M.env es, rfl, rfl, shEs_sound he hv⟩
  rcases hs with _ | ⟨a, _ | ⟨b, r'⟩⟩
  · unfold resE at h
    split at h
    · rename_i hc; cases hc
    · obtain ⟨es, he, rfl⟩ := Option.map_eq_some_iff.1 h
      exact key he hv
    · cases h
  · unfold resE at h
    exact shE_sound h hv
  · unfold resE at h
    split at h
    · rename_i hc; cases hc
    · obtain ⟨es, he, rfl⟩ := Option.map_eq_some_iff.1 h
      exact key he hv
    · cases h
def startM (W : World) (I : Nat → Nat → Prop) (env : Nat → D) : Mp := ⟨id, id, env, fun b off => b < W.heap.size ∧ ¬ I b off⟩
theorem start_imm {W : World} {I : Nat → Nat → Prop} {env : Nat → D} {k : Kn} {b off : Nat} (h : I b off) : Imm (st0 k) (startM W I env) b off := ⟨fun _ _ hi => absurd hi (Nat.not_lt_zero _), fun ho => ho.2 h⟩
theorem start_sim {L : List (Nat × List Value)} {W : World} {I : Nat → Nat → Prop} {env : Nat → D} {k : Kn} (hL : TabsMet L W) (hI : ∀ g us, (g, us) ∈ L → ∀ off, off < us.length → I g off) (hfx : ∀ e, e ∈ k.fx → e.den env = .v (.bool true)) :
    Sim (tabsG L) W.heap.size W W (st0 k) (startM W I env) := by
  refine ⟨Below.refl _ _, Nat.le_refl _, Nat.zero_le _, fun _ hi => absurd hi (Nat.not_lt_zero _), fun _ _ _ _ hi => absurd hi (Nat.not_lt_zero _), fun _ _ hi => absurd hi (Nat.not_lt_zero _), fun g cs hg => ?_, hfx, fun b off ho => ⟨ho.1, fun _ hi => absurd hi (Nat.not_lt_zero _)⟩⟩
  obtain ⟨us, hm, rfl⟩ := tabsG_mem hg
  obtain ⟨h1, h2⟩ := hL g us hm
  refine VRs.of_get fun i c hi => ?_
  simp only [leaves, List.getElem?_map, Option.map_eq_some_iff] at hi
  obtain ⟨u, hu, rfl⟩ := hi
  have hlt : i < us.length := (List.getElem?_eq_some_iff.1 hu).1
  refine ⟨u, h2 i u hu, VR_v_of ((List.all_eq_true.1 h1) u (List.mem_of_getElem? hu)), ?_, start_imm (by rw [Nat.zero_add]; exact hI g us hm i hlt)⟩
  rfl
theorem argsA_VRl {W : World} {I : Nat → Nat → Prop} {ds0 : List D} {k : Kn} : ∀ {hs : List Sh} {vs : List Value} {ds : List D} {j : Nat}, ds = ds0.drop j → ArgsR k.shape (fun b off => W.cell? ⟨b, off, none⟩) I hs vs ds → VRl W (st0 k) (startM W I (envOf ds0)) (argsA k j hs) vs
  | [], [], [], j, _, _ => VRl_nil
  | h :: hs, v :: vs, d :: ds, j, hds, ha => by
    unfold ArgsR at ha
    have hj : ds0[j]? = some d := by
      have := congrArg (·[0]?) hds
      simp only [List.getElem?_cons_zero, List.getElem?_drop, Nat.add_zero] at this
      exact this.symm
    unfold argsA
    refine VRl_cons (shA_VR ?_) (argsA_VRl (j := j + 1) ?_ ha.2)
    · have : (E.var j).den (startM W I (envOf ds0)).env = d := by
        simp only [E.den, startM, envOf]
        rw [List.getD_eq_getElem?_getD, hj]; rfl
      rw [this]
      exact ha.1.mono fun b off u hu hi => ⟨hu, start_imm hi⟩
    · have := congrArg (List.drop 1) hds
      rw [List.drop_drop] at this
      simpa using this
  | [], _ :: _, _, _, _, h => by unfold ArgsR at h; exact h.elim
  | [], [], _ :: _, _, _, h => by unfold ArgsR at h; exact h.elim
  | _ :: _, [], vs, _, _, h => by unfold ArgsR at h; exact h.elim
  | _ :: _, _ :: _, [], _, _, h => by unfold ArgsR at h; exact h.elim
/-- What a path comes to. -/
def pathE (tb : List (Nat × List CT)) (q : Sig) (run : Call) (fx : List E) : Option E :=
  match run (.func q.f) (argsA (kn fx tb) 0 q.args) (st0 (kn fx tb)) with
  | some (r, s') =>
    match frz s' 0 1000 r with
    | some y => resE (kn fx tb) q.res y
    | none => none
  | none => none
theorem fnOk_paths {L : List (Nat × List Value)} {tb : List (Nat × List CT)} {q : Sig} {pre : List D → Prop} {run : Call} (hrun : ∀ B0 w0, CallOk P (tabsG L) B0 w0 run) (paths : List (List E × E)) (hp : ∀ p ∈ paths, pathE tb q run p.1 = some p.2)
    (hcov : ∀ ds, pre ds → ∃ p ∈ paths, (∀ e ∈ p.1, e.den (envOf ds) = .v (.bool true)) ∧ p.2.den (envOf ds) = Interp.phi q.g ds) : FnOk P L tb q pre := by
  intro W I vs ds hL hI hargs hpre
  obtain ⟨p, hpm, hfx, hres⟩ := hcov ds hpre
  have h := hp p hpm
  unfold pathE at h
  split at h
  · rename_i r s' hr
    split at h
    · rename_i y hy
      have hs : Sim (tabsG L) W.heap.size W W (st0 (kn p.1 tb)) (startM W I (envOf ds)) := start_sim hL hI hfx
      have hv := argsA_VRl (k := kn p.1 tb) (ds0 := ds) (j := 0) (by simp) hargs
      refine (hrun W.heap.size W (.func q.f) _ _ _ _ hr W _ vs hs hv).mono ?_
      rintro e W' ⟨M', hd, k2, k3⟩
      rcases hd with ⟨v, rfl, k1⟩ | ⟨y', v, hy', rfl, k1⟩
      · have k4 : VR W' (st0 (kn p.1 tb)) M' y v := frz_VR (s := st0 (kn p.1 tb)) (Nat.zero_le _) (fun i hi => absurd hi (Nat.not_lt_zero _)) k3.keep.2.2 k2 1000 hy k1
        have k5 := resE_sound (s := st0 (kn p.1 tb)) h k4
        have he : M'.env = envOf ds := k3.keep.1
        have ho : M'.out = _ := k3.keep.2.1
        rw [he, hres] at k5
        refine ⟨v, rfl, k2.below, k5.mono fun b off u hu hi => ⟨hu, ?_⟩⟩
        by_cases hb : W.heap.size ≤ b
        · exact .inr hb
        · refine .inl (Classical.byContradiction fun hni => hi.2 ?_)
          rw [ho]
          exact ⟨by omega, hni⟩
      · exfalso
        unfold isPan at hy'
        split at hy'
        · simp [frz, frzG] at hy
        · cases hy'
    · cases h
  · cases h
end
end Go.Ab
