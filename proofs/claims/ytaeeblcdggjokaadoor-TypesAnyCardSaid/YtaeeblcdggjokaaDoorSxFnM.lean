/- Contracts of functions to which objects are lent (boxes, tables, rows of one's own), and which may throw: what is handed in and comes back. -/
import Derived.Test.YtaeeblcdggjokaaDoorSxTree
namespace Go.Ab
set_option linter.unusedVariables false
set_option linter.unusedSimpArgs false
set_option linter.unusedSectionVars false
set_option linter.constructorNameAsVariable false
open Go Go.RowKit

/-- How many objects stand ahead of an entry; how many there are. -/
def isObj : Ent → Bool
  | .own _ | .bx _ _ | .mp _ _ => true
  | _ => false
def objN : List Ent → Nat
  | [] => 0
  | e :: r => (if isObj e then 1 else 0) + objN r
def objIdx (l : List Ent) (j : Nat) : Nat := objN (l.take j)
/-- A contract: entries handed in; results; what was lent and comes back (places of arguments, what they are); what is thrown. -/
structure SigM where
  f : FuncId
  g : Nat
  args : List Ent
  res : List Ent
  back : List Nat
  backE : List Ent
  pan : Option AV
def SigM.outs (q : SigM) : List Ent := q.res ++ q.backE
def SigM.cur (q : SigM) : List Nat := q.back.map (objIdx q.args)

section
variable (sh : Nat → List CT) (C : Nat → Nat → Option Value) (I : Nat → Nat → Prop) (H : Nat → Option Obj)
def conR : AV → Value → Prop
  | .v x, y => y = x ∧ scalar x = true
  | .fn (.func f) [] [], y => y = .func (.func f) #[] #[]
  | _, _ => False
/-- What a block holds. -/
def ownD (t : Nat) (d : D) (b c : Nat) : Prop := ∃ cs ty fr, H b = some (.cells cs ty fr) ∧ cs.size = c * (sh t).length ∧ d.rows.length * (sh t).length ≤ cs.size ∧ Free fr cs.size
def boxD (t z : Nat) (d : D) (b c : Nat) : Prop := ∃ cs ty fr ds, H b = some (.cells cs ty fr) ∧ d = .row ds ∧ CellsR sh C I (cs.toList.take (sh t).length) ds (sh t) ∧ Free fr cs.size ∧ BoxK z (sh t).length cs.size c ty
def mapD (kt ct : Ty) (d : D) (b : Nat) : Prop := ∃ ents clock rows, H b = some (.map ents clock) ∧ d = .lst rows ∧ MDr kt ct rows ents.toList
/-- What is handed in, or comes back, and in which blocks. -/
def ArgsM : List Ent → List Value → List D → List (Nat × Nat) → Prop
  | [], [], [], [] => True
  | .any :: r, _ :: vs, ds, bs => ArgsM r vs ds bs
  | .con a :: r, v :: vs, ds, bs => conR a v ∧ ArgsM r vs ds bs
  | .sh h :: r, v :: vs, d :: ds, bs => ArgR sh C I h v d ∧ ArgsM r vs ds bs
  | .rf t :: r, v :: vs, d :: ds, bs => RefR sh C I t v d ∧ ArgsM r vs ds bs
  | .own t :: r, v :: vs, d :: ds, b :: bs => ((DV C I d v ∧ fits sh d (.sl t)) ∧ v = .slice (some ⟨b.1, 0, none⟩) d.rows.length b.2 ∧ ownD sh H t d b.1 b.2) ∧ ArgsM r vs ds bs
  | .bx t z :: r, v :: vs, d :: ds, b :: bs => (v = .pointer (some ⟨b.1, 0, none⟩) ∧ boxD sh C I H t z d b.1 b.2) ∧ ArgsM r vs ds bs
  | .mp kt ct :: r, v :: vs, d :: ds, b :: bs => (v = .map (some b.1) ∧ mapD H kt ct d b.1) ∧ ArgsM r vs ds bs
  | _, _, _, _ => False
/-- A cell that no object writes. -/
def ImmD : List Ent → List D → List (Nat × Nat) → Nat → Nat → Prop
  | .any :: r, ds, bs, b, off => ImmD r ds bs b off
  | .con _ :: r, ds, bs, b, off => ImmD r ds bs b off
  | .sh _ :: r, _ :: ds, bs, b, off => ImmD r ds bs b off
  | .rf _ :: r, _ :: ds, bs, b, off => ImmD r ds bs b off
  | .own t :: r, d :: ds, x :: bs, b, off => (x.1 = b → off < d.rows.length * (sh t).length) ∧ ImmD r ds bs b off
  | .bx _ _ :: r, _ :: ds, x :: bs, b, off => x.1 ≠ b ∧ ImmD r ds bs b off
  | .mp _ _ :: r, _ :: ds, x :: bs, b, off => x.1 ≠ b ∧ ImmD r ds bs b off
  | _, _, _, _, _ => True
end
/-- What comes back as one value. -/
def resV (hs : List Ent) (v : Value) (rs : List Value) : Prop :=
  match hs with
  | [_] => rs = [v]
  | _ => v = .tuple rs.toArray
/-- A constant that is thrown. -/
def conV : AV → Value → Prop
  | .v x, y => y = x ∧ scalar x = true
  | .iface t (.v x), y => y = .iface t x ∧ scalar x = true
  | .iface t (.agg []), y => y = .iface t (.agg #[])
  | _, _ => False
/-- What holds behind a call. -/
structure PostM (tb : List (Nat × List CT)) (q : SigM) (W : World) (I : Nat → Nat → Prop) (bs : List (Nat × Nat)) (d : D) (e : Ending) (W' : World) : Prop where
  below : Below 0 W W'
  blocks : ∀ b, b < W.heap.size → b ∉ bs.map (·.1) → W'.heap[b]? = W.heap[b]?
  cells : ∀ b off v, W.cell? ⟨b, off, none⟩ = some v → I b off → W'.cell? ⟨b, off, none⟩ = some v
  ends : (∃ rs v vb ds' bs', d = .row ds' ∧ e = .returned v ∧ resV q.res v rs ∧ rs.length = q.res.length ∧
      ArgsM ({ tb := tb } : Kn).shape (fun b off => W'.cell? ⟨b, off, none⟩) (fun b off => (I b off ∨ W.heap.size ≤ b ∨ b ∈ bs.map (·.1)) ∧ ImmD ({ tb := tb } : Kn).shape q.outs ds' bs' b off) (fun b => W'.heap[b]?) q.outs (rs ++ vb) ds' bs' ∧
      (bs'.map (·.1)).Nodup ∧ (∀ b off v, W.cell? ⟨b, off, none⟩ = some v → I b off → ImmD ({ tb := tb } : Kn).shape q.outs ds' bs' b off) ∧ (∀ b, b ∈ bs'.map (·.1) → W.heap.size ≤ b ∨ b ∈ bs.map (·.1)) ∧
      bs'.drop (objN q.res) = q.cur.map fun o => bs.getD o (0, 0)) ∨
    (∃ y a, d = .nil ∧ e = .panicked [{ v := y, recovered := false }] ∧ q.pan = some a ∧ conV a y)
section
variable [Interp]
def FnOkM (P : Program) (L : List (Nat × List Value)) (tb : List (Nat × List CT)) (q : SigM) (pre : List D → Prop) : Prop :=
  ∀ (W : World) (I : Nat → Nat → Prop) (vs : Array Value) (ds : List D) (bs : List (Nat × Nat)), TabsMet L W → (∀ g us, (g, us) ∈ L → ∀ off, off < us.length → I g off) →
    ArgsM ({ tb := tb } : Kn).shape (fun b off => W.cell? ⟨b, off, none⟩) I (fun b => W.heap[b]?) q.args vs.toList ds bs → (bs.map (·.1)).Nodup → (∀ b off v, W.cell? ⟨b, off, none⟩ = some v → I b off → ImmD ({ tb := tb } : Kn).shape q.args ds bs b off) → pre ds →
    CallsIn (FW none) 0 P q.f vs W (PostM tb q W I bs (Interp.phi q.g ds))
end

/-! ### More is immutable -/
section
variable [Interp]
variable {sh : Nat → List CT} {C C' : Nat → Nat → Option Value} {I I' : Nat → Nat → Prop} {H : Nat → Option Obj}
theorem boxD.mono (h : ∀ b off v, C b off = some v → I b off → C' b off = some v ∧ I' b off) {t z : Nat} {d : D} {b c : Nat} (k : boxD sh C I H t z d b c) : boxD sh C' I' H t z d b c := by
  obtain ⟨cs, ty, fr, ds, a1, a2, a3, a4⟩ := k
  exact ⟨cs, ty, fr, ds, a1, a2, a3.mono h, a4⟩
theorem ArgsM.mono (h : ∀ b off v, C b off = some v → I b off → C' b off = some v ∧ I' b off) : ∀ {es : List Ent} {vs : List Value} {ds : List D} {bs : List (Nat × Nat)}, ArgsM sh C I H es vs ds bs → ArgsM sh C' I' H es vs ds bs
  | [], [], [], [], _ => trivial
  | .any :: r, _ :: vs, ds, bs, k => by unfold ArgsM at k ⊢; exact ArgsM.mono h k
  | .con a :: r, v :: vs, ds, bs, k => by unfold ArgsM at k ⊢; exact ⟨k.1, ArgsM.mono h k.2⟩
  | .sh hh :: r, v :: vs, d :: ds, bs, k => by unfold ArgsM at k ⊢; exact ⟨k.1.mono h, ArgsM.mono h k.2⟩
  | .rf t :: r, v :: vs, d :: ds, bs, k => by
    unfold ArgsM at k ⊢
    obtain ⟨⟨b, off, us, e1, e2, k1, k2⟩, k3⟩ := k
    exact ⟨⟨b, off, us, e1, e2, k1.mono h, k2⟩, ArgsM.mono h k3⟩
  | .own t :: r, v :: vs, d :: ds, b :: bs, k => by unfold ArgsM at k ⊢; exact ⟨⟨⟨k.1.1.1.mono h, k.1.1.2⟩, k.1.2⟩, ArgsM.mono h k.2⟩
  | .bx t z :: r, v :: vs, d :: ds, b :: bs, k => by unfold ArgsM at k ⊢; exact ⟨⟨k.1.1, k.1.2.mono h⟩, ArgsM.mono h k.2⟩
  | .mp kt ct :: r, v :: vs, d :: ds, b :: bs, k => by unfold ArgsM at k ⊢; exact ⟨k.1, ArgsM.mono h k.2⟩
  | [], _ :: _, _, _, k => by unfold ArgsM at k; exact k.elim
  | [], [], _ :: _, _, k => by unfold ArgsM at k; exact k.elim
  | [], [], [], _ :: _, k => by unfold ArgsM at k; exact k.elim
  | .any :: _, [], _, _, k => by unfold ArgsM at k; exact k.elim
  | .con _ :: _, [], _, _, k => by unfold ArgsM at k; exact k.elim
  | .sh _ :: _, [], _, _, k => by unfold ArgsM at k; exact k.elim
  | .sh _ :: _, _ :: _, [], _, k => by unfold ArgsM at k; exact k.elim
  | .rf _ :: _, [], _, _, k => by unfold ArgsM at k; exact k.elim
  | .rf _ :: _, _ :: _, [], _, k => by unfold ArgsM at k; exact k.elim
  | .own _ :: _, [], _, _, k => by unfold ArgsM at k; exact k.elim
  | .own _ :: _, _ :: _, [], _, k => by unfold ArgsM at k; exact k.elim
  | .own _ :: _, _ :: _, _ :: _, [], k => by unfold ArgsM at k; exact k.elim
  | .bx _ _ :: _, [], _, _, k => by unfold ArgsM at k; exact k.elim
  | .bx _ _ :: _, _ :: _, [], _, k => by unfold ArgsM at k; exact k.elim
  | .bx _ _ :: _, _ :: _, _ :: _, [], k => by unfold ArgsM at k; exact k.elim
  | .mp _ _ :: _, [], _, _, k => by unfold ArgsM at k; exact k.elim
  | .mp _ _ :: _, _ :: _, [], _, k => by unfold ArgsM at k; exact k.elim
  | .mp _ _ :: _, _ :: _, _ :: _, [], k => by unfold ArgsM at k; exact k.elim
theorem ArgsM.fit {tb : List (Nat × List CT)} : ∀ {es : List Ent} {vs : List Value} {ds : List D} {bs : List (Nat × Nat)}, ArgsM (kn [] tb).shape C I H es vs ds bs → FitE tb es ds
  | [], [], [], [], _ => rfl
  | .any :: r, _ :: vs, ds, bs, k => by unfold ArgsM at k; unfold FitE; exact ArgsM.fit k
  | .con a :: r, v :: vs, ds, bs, k => by unfold ArgsM at k; unfold FitE; exact ArgsM.fit k.2
  | .sh hh :: r, v :: vs, d :: ds, bs, k => by unfold ArgsM at k; unfold FitE; exact ⟨k.1.fit, ArgsM.fit k.2⟩
  | .rf t :: r, v :: vs, d :: ds, bs, k => by
    unfold ArgsM at k; unfold FitE
    obtain ⟨⟨b, off, us, e1, e2, k1, k2⟩, k3⟩ := k
    exact ⟨⟨us, e2, k2⟩, ArgsM.fit k3⟩
  | .own t :: r, v :: vs, d :: ds, b :: bs, k => by unfold ArgsM at k; unfold FitE; exact ⟨k.1.1.2, ArgsM.fit k.2⟩
  | .bx t z :: r, v :: vs, d :: ds, b :: bs, k => by
    unfold ArgsM at k; unfold FitE
    obtain ⟨⟨_, cs, ty, fr, us, _, e2, k1, _⟩, k3⟩ := k
    exact ⟨⟨us, e2, k1.fitsC⟩, ArgsM.fit k3⟩
  | .mp kt ct :: r, v :: vs, d :: ds, b :: bs, k => by
    unfold ArgsM at k; unfold FitE
    obtain ⟨⟨_, ents, clock, rows, _, e2, k1⟩, k3⟩ := k
    exact ⟨⟨rows, e2, MDr.fit k1⟩, ArgsM.fit k3⟩
  | [], _ :: _, _, _, k => by unfold ArgsM at k; exact k.elim
  | [], [], _ :: _, _, k => by unfold ArgsM at k; exact k.elim
  | [], [], [], _ :: _, k => by unfold ArgsM at k; exact k.elim
  | .any :: _, [], _, _, k => by unfold ArgsM at k; exact k.elim
  | .con _ :: _, [], _, _, k => by unfold ArgsM at k; exact k.elim
  | .sh _ :: _, [], _, _, k => by unfold ArgsM at k; exact k.elim
  | .sh _ :: _, _ :: _, [], _, k => by unfold ArgsM at k; exact k.elim
  | .rf _ :: _, [], _, _, k => by unfold ArgsM at k; exact k.elim
  | .rf _ :: _, _ :: _, [], _, k => by unfold ArgsM at k; exact k.elim
  | .own _ :: _, [], _, _, k => by unfold ArgsM at k; exact k.elim
  | .own _ :: _, _ :: _, [], _, k => by unfold ArgsM at k; exact k.elim
  | .own _ :: _, _ :: _, _ :: _, [], k => by unfold ArgsM at k; exact k.elim
  | .bx _ _ :: _, [], _, _, k => by unfold ArgsM at k; exact k.elim
  | .bx _ _ :: _, _ :: _, [], _, k => by unfold ArgsM at k; exact k.elim
  | .bx _ _ :: _, _ :: _, _ :: _, [], k => by unfold ArgsM at k; exact k.elim
  | .mp _ _ :: _, [], _, _, k => by unfold ArgsM at k; exact k.elim
  | .mp _ _ :: _, _ :: _, [], _, k => by unfold ArgsM at k; exact k.elim
  | .mp _ _ :: _, _ :: _, _ :: _, [], k => by unfold ArgsM at k; exact k.elim
end

/-! ### From data to a state -/
abbrev blkL (bs : List (Nat × Nat)) : Nat → Nat := fun o => (bs.getD o (0, 0)).1
abbrev capL (bs : List (Nat × Nat)) : Nat → Nat := fun o => (bs.getD o (0, 0)).2
theorem bs_get {bs : List (Nat × Nat)} {o : Nat} {x : Nat × Nat} (h : bs[o]? = some x) : blkL bs o = x.1 ∧ capL bs o = x.2 := by
  unfold blkL capL
  rw [List.getD_eq_getElem?_getD, h]; exact ⟨rfl, rfl⟩
section
variable [Interp] {P : Program} {G : Nat → Option (List AV)} {B0 : Nat} {w0 w : World} {s : St} {M : Mp} {tb : List (Nat × List CT)}
theorem conV_VR {a : AV} {v : Value} (h : conV a v) : VR w s M a v := by
  unfold conV at h
  split at h
  · exact VR_v.2 h
  · obtain ⟨rfl, hx⟩ := h
    unfold VR
    exact ⟨_, rfl, VR_v.2 ⟨rfl, hx⟩⟩
  · subst h
    unfold VR
    refine ⟨_, rfl, ?_⟩
    unfold VR
    exact ⟨_, rfl, VRl_nil⟩
  · exact h.elim
theorem conR_VR {a : AV} {v : Value} (h : conR a v) : VR w s M a v := by
  unfold conR at h
  split at h
  · exact VR_v.2 h
  · subst h
    unfold VR
    exact ⟨_, #[], #[], rfl, rfl, VRl_nil, VRl_nil⟩
  · exact h.elim
/-- Objects, and values, that expressions tell. -/
def objsE (k : Kn) (ve : Nat → E) : Nat → List Ent → List AObj
  | _, [] => []
  | i, .any :: r => objsE k ve i r
  | i, .con _ :: r => objsE k ve i r
  | i, .sh _ :: r => objsE k ve (i + 1) r
  | i, .rf _ :: r => objsE k ve (i + 1) r
  | i, .own t :: r => .row (.e (ve i) (k.shape t).length) (k.shape t).length :: objsE k ve (i + 1) r
  | i, .mp kt ct :: r => .sym (.map kt ct (ve i)) :: objsE k ve (i + 1) r
  | i, .bx t z :: r => .box (cellsA (ve i) 0 (k.shape t)) z :: objsE k ve (i + 1) r
def valsE (k : Kn) (ve : Nat → E) (tk : Nat → Nat) : Nat → Nat → List Ent → List AV
  | _, _, [] => []
  | i, o, .any :: r => .any :: valsE k ve tk i o r
  | i, o, .con a :: r => a :: valsE k ve tk i o r
  | i, o, .sh h :: r => shA k (ve i) h :: valsE k ve tk (i + 1) o r
  | i, o, .rf t :: r => .rd t (ve i) 0 :: valsE k ve tk (i + 1) o r
  | i, o, .own t :: r => .d t (ve i) (some (tk o)) :: valsE k ve tk (i + 1) (o + 1) r
  | i, o, .mp _ _ :: r => .mp (tk o) :: valsE k ve tk (i + 1) (o + 1) r
  | i, o, .bx _ _ :: r => .box (tk o) 0 :: valsE k ve tk (i + 1) (o + 1) r
theorem headO_E {k : Kn} : ∀ {es : List Ent} {i : Nat}, headO k i es = objsE k E.var i es
  | [], _ => rfl
  | e :: r, i => by cases e <;> simp only [headO, objsE, headO_E (es := r)]
theorem headA_E {k : Kn} : ∀ {es : List Ent} {i o : Nat}, headA k i o es = valsE k E.var id i o es
  | [], _, _ => rfl
  | e :: r, i, o => by cases e <;> simp only [headA, valsE, headA_E (es := r), id]
/-- The objects of what is handed in. -/
theorem argsM_objs {k2 : Kn} {ve : Nat → E} {I : Nat → Nat → Prop} {s2 : St} {M2 : Mp} {ds0 : List D} {bs0 : List (Nat × Nat)} (hve : ∀ (i : Nat) (d : D), ds0[i]? = some d → (ve i).den M2.env = d) (hsh : s2.k.shape = k2.shape)
    (himm : ∀ b off v, w.cell? ⟨b, off, none⟩ = some v → I b off → Imm s2 M2 b off) : ∀ {es : List Ent} {vs : List Value} {ds : List D} {bs : List (Nat × Nat)} {i o : Nat}, ArgsM k2.shape (fun b off => w.cell? ⟨b, off, none⟩) I (fun b => w.heap[b]?) es vs ds bs → ds = ds0.drop i → bs = bs0.drop o →
      ∀ (j : Nat) (ob2 : AObj), (objsE k2 ve i es)[j]? = some ob2 → ∃ x, bs0[o + j]? = some x ∧ ObjR w s2 M2 x.1 x.2 ob2
  | [], vs, ds, bs, i, o, ha, hd, hb, j, ob2, hj => by simp [objsE] at hj
  | .any :: r, vs, ds, bs, i, o, ha, hd, hb, j, ob2, hj => by
    cases vs with
    | nil => unfold ArgsM at ha; exact ha.elim
    | cons v vs => unfold ArgsM at ha; exact argsM_objs hve hsh himm ha hd hb j ob2 hj
  | .con a :: r, vs, ds, bs, i, o, ha, hd, hb, j, ob2, hj => by
    cases vs with
    | nil => unfold ArgsM at ha; exact ha.elim
    | cons v vs => unfold ArgsM at ha; exact argsM_objs hve hsh himm ha.2 hd hb j ob2 hj
  | .sh hh :: r, vs, ds, bs, i, o, ha, hd, hb, j, ob2, hj => by
    cases vs with
    | nil => unfold ArgsM at ha; exact ha.elim
    | cons v vs =>
      cases ds with
      | nil => unfold ArgsM at ha; exact ha.elim
      | cons d ds => unfold ArgsM at ha; exact argsM_objs hve hsh himm ha.2 (drop_one hd).2 hb j ob2 hj
  | .rf t :: r, vs, ds, bs, i, o, ha, hd, hb, j, ob2, hj => by
    cases vs with
    | nil => unfold ArgsM at ha; exact ha.elim
    | cons v vs =>
      cases ds with
      | nil => unfold ArgsM at ha; exact ha.elim
      | cons d ds => unfold ArgsM at ha; exact argsM_objs hve hsh himm ha.2 (drop_one hd).2 hb j ob2 hj
  | .own t :: r, vs, ds, bs, i, o, ha, hd, hb, j, ob2, hj => by
    cases vs with
    | nil => unfold ArgsM at ha; exact ha.elim
    | cons v vs =>
    cases ds with
    | nil => unfold ArgsM at ha; exact ha.elim
    | cons d ds =>
    cases bs with
    | nil => unfold ArgsM at ha; exact ha.elim
    | cons b bs =>
    unfold ArgsM at ha
    obtain ⟨hd1, hd2⟩ := drop_one hd
    obtain ⟨hb1, hb2⟩ := drop_one hb
    cases j with
    | zero =>
      simp only [objsE, List.getElem?_cons_zero, Option.some.injEq] at hj
      subst hj
      obtain ⟨⟨_, _, cs, ty, fr, a1, a2, a3, a4⟩, _⟩ := ha
      refine ⟨b, hb1, cs, ty, fr, a1, a2, ?_, a4⟩
      show ((ve i).den M2.env).rows.length * _ ≤ _
      rw [hve i _ hd1]; exact a3
    | succ j =>
      simp only [objsE, List.getElem?_cons_succ] at hj
      have := argsM_objs hve hsh himm ha.2 hd2 hb2 j ob2 hj
      rw [show o + 1 + j = o + (j + 1) by omega] at this
      exact this
  | .bx t z :: r, vs, ds, bs, i, o, ha, hd, hb, j, ob2, hj => by
    cases vs with
    | nil => unfold ArgsM at ha; exact ha.elim
    | cons v vs =>
    cases ds with
    | nil => unfold ArgsM at ha; exact ha.elim
    | cons d ds =>
    cases bs with
    | nil => unfold ArgsM at ha; exact ha.elim
    | cons b bs =>
    unfold ArgsM at ha
    obtain ⟨hd1, hd2⟩ := drop_one hd
    obtain ⟨hb1, hb2⟩ := drop_one hb
    cases j with
    | zero =>
      simp only [objsE, List.getElem?_cons_zero, Option.some.injEq] at hj
      subst hj
      obtain ⟨⟨_, cs, ty, fr, us, a1, a2, a3, a4, a5⟩, _⟩ := ha
      have hlen : (cellsA (ve i) 0 (k2.shape t)).length = (k2.shape t).length := cellsA_length
      refine ⟨b, hb1, cs, ty, fr, a1, ?_, cellsA_isCell, a4, by rw [hlen]; exact a5⟩
      rw [hlen]
      have he' : (ve i).den M2.env = .row us := by rw [hve i _ hd1, a2]
      refine CellsR_VRl (ds := us) he' (by simp) ?_
      rw [hsh]
      exact a3.mono fun b off u hu hi => ⟨hu, himm b off u hu hi⟩
    | succ j =>
      simp only [objsE, List.getElem?_cons_succ] at hj
      have := argsM_objs hve hsh himm ha.2 hd2 hb2 j ob2 hj
      rw [show o + 1 + j = o + (j + 1) by omega] at this
      exact this
  | .mp kt ct :: r, vs, ds, bs, i, o, ha, hd, hb, j, ob2, hj => by
    cases vs with
    | nil => unfold ArgsM at ha; exact ha.elim
    | cons v vs =>
    cases ds with
    | nil => unfold ArgsM at ha; exact ha.elim
    | cons d ds =>
    cases bs with
    | nil => unfold ArgsM at ha; exact ha.elim
    | cons b bs =>
    unfold ArgsM at ha
    obtain ⟨hd1, hd2⟩ := drop_one hd
    obtain ⟨hb1, hb2⟩ := drop_one hb
    cases j with
    | zero =>
      simp only [objsE, List.getElem?_cons_zero, Option.some.injEq] at hj
      subst hj
      obtain ⟨⟨_, ents, clock, rows, a1, a2, a3⟩, _⟩ := ha
      refine ⟨b, hb1, ents, clock, rows, a1, ?_, a3⟩
      rw [hve i _ hd1, a2]
    | succ j =>
      simp only [objsE, List.getElem?_cons_succ] at hj
      have := argsM_objs hve hsh himm ha.2 hd2 hb2 j ob2 hj
      rw [show o + 1 + j = o + (j + 1) by omega] at this
      exact this
/-- What an object of what is handed in does not write. -/
theorem argsM_below {k2 : Kn} {ve : Nat → E} {env : Nat → D} {C : Nat → Nat → Option Value} {I : Nat → Nat → Prop} {H : Nat → Option Obj} {ds0 : List D} {bs0 : List (Nat × Nat)} {b off : Nat} (hve : ∀ (i : Nat) (d : D), ds0[i]? = some d → (ve i).den env = d) : ∀ {es : List Ent} {vs : List Value} {ds : List D} {bs : List (Nat × Nat)} {i o : Nat}, ArgsM k2.shape C I H es vs ds bs → ds = ds0.drop i → bs = bs0.drop o → ImmD k2.shape es ds bs b off →
      ∀ (j : Nat) (ob2 : AObj), (objsE k2 ve i es)[j]? = some ob2 → blkL bs0 (o + j) = b → below0 env ob2 off
  | [], vs, ds, bs, i, o, ha, hd, hb, hm, j, ob2, hj, e => by simp [objsE] at hj
  | .any :: r, vs, ds, bs, i, o, ha, hd, hb, hm, j, ob2, hj, e => by
    cases vs with
    | nil => unfold ArgsM at ha; exact ha.elim
    | cons v vs => unfold ArgsM at ha; unfold ImmD at hm; exact argsM_below hve ha hd hb hm j ob2 hj e
  | .con a :: r, vs, ds, bs, i, o, ha, hd, hb, hm, j, ob2, hj, e => by
    cases vs with
    | nil => unfold ArgsM at ha; exact ha.elim
    | cons v vs => unfold ArgsM at ha; unfold ImmD at hm; exact argsM_below hve ha.2 hd hb hm j ob2 hj e
  | .sh hh :: r, vs, ds, bs, i, o, ha, hd, hb, hm, j, ob2, hj, e => by
    cases vs with
    | nil => unfold ArgsM at ha; exact ha.elim
    | cons v vs =>
      cases ds with
      | nil => unfold ArgsM at ha; exact ha.elim
      | cons d ds => unfold ArgsM at ha; unfold ImmD at hm; exact argsM_below hve ha.2 (drop_one hd).2 hb hm j ob2 hj e
  | .rf t :: r, vs, ds, bs, i, o, ha, hd, hb, hm, j, ob2, hj, e => by
    cases vs with
    | nil => unfold ArgsM at ha; exact ha.elim
    | cons v vs =>
      cases ds with
      | nil => unfold ArgsM at ha; exact ha.elim
      | cons d ds => unfold ArgsM at ha; unfold ImmD at hm; exact argsM_below hve ha.2 (drop_one hd).2 hb hm j ob2 hj e
  | .own t :: r, vs, ds, bs, i, o, ha, hd, hb, hm, j, ob2, hj, e => by
    cases vs with
    | nil => unfold ArgsM at ha; exact ha.elim
    | cons v vs =>
    cases ds with
    | nil => unfold ArgsM at ha; exact ha.elim
    | cons d ds =>
    cases bs with
    | nil => unfold ArgsM at ha; exact ha.elim
    | cons x bs =>
    unfold ArgsM at ha
    unfold ImmD at hm
    obtain ⟨hd1, hd2⟩ := drop_one hd
    obtain ⟨hb1, hb2⟩ := drop_one hb
    cases j with
    | zero =>
      simp only [objsE, List.getElem?_cons_zero, Option.some.injEq] at hj
      subst hj
      show off < ((ve i).den env).rows.length * _
      rw [hve i _ hd1]
      exact hm.1 (by rw [← (bs_get hb1).1]; exact e)
    | succ j =>
      simp only [objsE, List.getElem?_cons_succ] at hj
      exact argsM_below hve ha.2 hd2 hb2 hm.2 j ob2 hj (by rw [show o + 1 + j = o + (j + 1) by omega]; exact e)
  | .bx t z :: r, vs, ds, bs, i, o, ha, hd, hb, hm, j, ob2, hj, e => by
    cases vs with
    | nil => unfold ArgsM at ha; exact ha.elim
    | cons v vs =>
    cases ds with
    | nil => unfold ArgsM at ha; exact ha.elim
    | cons d ds =>
    cases bs with
    | nil => unfold ArgsM at ha; exact ha.elim
    | cons x bs =>
    unfold ArgsM at ha
    unfold ImmD at hm
    obtain ⟨hd1, hd2⟩ := drop_one hd
    obtain ⟨hb1, hb2⟩ := drop_one hb
    cases j with
    | zero => exact (hm.1 (by rw [← (bs_get hb1).1]; exact e)).elim
    | succ j =>
      simp only [objsE, List.getElem?_cons_succ] at hj
      exact argsM_below hve ha.2 hd2 hb2 hm.2 j ob2 hj (by rw [show o + 1 + j = o + (j + 1) by omega]; exact e)
  | .mp kt ct :: r, vs, ds, bs, i, o, ha, hd, hb, hm, j, ob2, hj, e => by
    cases vs with
    | nil => unfold ArgsM at ha; exact ha.elim
    | cons v vs =>
    cases ds with
    | nil => unfold ArgsM at ha; exact ha.elim
    | cons d ds =>
    cases bs with
    | nil => unfold ArgsM at ha; exact ha.elim
    | cons x bs =>
    unfold ArgsM at ha
    unfold ImmD at hm
    obtain ⟨hd1, hd2⟩ := drop_one hd
    obtain ⟨hb1, hb2⟩ := drop_one hb
    cases j with
    | zero => exact (hm.1 (by rw [← (bs_get hb1).1]; exact e)).elim
    | succ j =>
      simp only [objsE, List.getElem?_cons_succ] at hj
      exact argsM_below hve ha.2 hd2 hb2 hm.2 j ob2 hj (by rw [show o + 1 + j = o + (j + 1) by omega]; exact e)
/-- The values of what is handed in. -/
theorem argsM_vals {k2 : Kn} {ve : Nat → E} {tk : Nat → Nat} {I : Nat → Nat → Prop} {s2 : St} {M2 : Mp} {ds0 : List D} {bs0 : List (Nat × Nat)} (hve : ∀ (i : Nat) (d : D), ds0[i]? = some d → (ve i).den M2.env = d) (hks2 : s2.k = k2) (hblk : ∀ (o : Nat) (x : Nat × Nat), bs0[o]? = some x → M2.blk (tk o) = x.1 ∧ M2.cap (tk o) = x.2 ∧ tk o < s2.n)
    (himm : ∀ b off v, w.cell? ⟨b, off, none⟩ = some v → I b off → Imm s2 M2 b off) : ∀ {es : List Ent} {vs : List Value} {ds : List D} {bs : List (Nat × Nat)} {i o : Nat}, ArgsM k2.shape (fun b off => w.cell? ⟨b, off, none⟩) I (fun b => w.heap[b]?) es vs ds bs → ds = ds0.drop i → bs = bs0.drop o →
      VRl w s2 M2 (valsE k2 ve tk i o es) vs
  | [], vs, ds, bs, i, o, ha, hd, hb => by
    cases vs with
    | nil => exact VRl_nil
    | cons v vs => unfold ArgsM at ha; exact ha.elim
  | .any :: r, vs, ds, bs, i, o, ha, hd, hb => by
    cases vs with
    | nil => unfold ArgsM at ha; exact ha.elim
    | cons v vs => unfold ArgsM at ha; unfold valsE; exact VRl_cons (by unfold VR; trivial) (argsM_vals hve hks2 hblk himm ha hd hb)
  | .con a :: r, vs, ds, bs, i, o, ha, hd, hb => by
    cases vs with
    | nil => unfold ArgsM at ha; exact ha.elim
    | cons v vs => unfold ArgsM at ha; unfold valsE; exact VRl_cons (conR_VR ha.1) (argsM_vals hve hks2 hblk himm ha.2 hd hb)
  | .sh hh :: r, vs, ds, bs, i, o, ha, hd, hb => by
    cases vs with
    | nil => unfold ArgsM at ha; exact ha.elim
    | cons v vs =>
    cases ds with
    | nil => unfold ArgsM at ha; exact ha.elim
    | cons d ds =>
    unfold ArgsM at ha
    obtain ⟨hd1, hd2⟩ := drop_one hd
    unfold valsE
    refine VRl_cons ?_ (argsM_vals hve hks2 hblk himm ha.2 hd2 hb)
    rw [← hks2]
    refine shA_VR ?_
    rw [hve i _ hd1, hks2]
    exact ha.1.mono fun b off u hu hi => ⟨hu, himm b off u hu hi⟩
  | .rf t :: r, vs, ds, bs, i, o, ha, hd, hb => by
    cases vs with
    | nil => unfold ArgsM at ha; exact ha.elim
    | cons v vs =>
    cases ds with
    | nil => unfold ArgsM at ha; exact ha.elim
    | cons d ds =>
    unfold ArgsM at ha
    obtain ⟨hd1, hd2⟩ := drop_one hd
    unfold valsE
    refine VRl_cons ?_ (argsM_vals hve hks2 hblk himm ha.2 hd2 hb)
    obtain ⟨⟨b, off, us, e1, e2, k1, k2⟩, _⟩ := ha
    unfold VR
    exact ⟨b, off, us, by rw [e1, Nat.add_zero], by rw [hve i _ hd1, e2], k1.mono fun b off u hu hi => ⟨hu, himm b off u hu hi⟩, by rw [hks2]; exact k2⟩
  | .own t :: r, vs, ds, bs, i, o, ha, hd, hb => by
    cases vs with
    | nil => unfold ArgsM at ha; exact ha.elim
    | cons v vs =>
    cases ds with
    | nil => unfold ArgsM at ha; exact ha.elim
    | cons d ds =>
    cases bs with
    | nil => unfold ArgsM at ha; exact ha.elim
    | cons x bs =>
    unfold ArgsM at ha
    obtain ⟨hd1, hd2⟩ := drop_one hd
    obtain ⟨hb1, hb2⟩ := drop_one hb
    obtain ⟨p1, p2, p3⟩ := hblk o x hb1
    unfold valsE
    refine VRl_cons ?_ (argsM_vals hve hks2 hblk himm ha.2 hd2 hb2)
    obtain ⟨⟨⟨k1, k2'⟩, k3, _⟩, _⟩ := ha
    unfold VR
    rw [hve i _ hd1]
    refine ⟨k1.mono fun b off u hu hi => ⟨hu, himm b off u hu hi⟩, by rw [hks2]; exact k2', fun t ht => ?_⟩
    cases ht
    exact ⟨p3, fun tip' e' hg' => ⟨_, by rw [p1, p2]; exact k3⟩⟩
  | .bx t z :: r, vs, ds, bs, i, o, ha, hd, hb => by
    cases vs with
    | nil => unfold ArgsM at ha; exact ha.elim
    | cons v vs =>
    cases ds with
    | nil => unfold ArgsM at ha; exact ha.elim
    | cons d ds =>
    cases bs with
    | nil => unfold ArgsM at ha; exact ha.elim
    | cons x bs =>
    unfold ArgsM at ha
    obtain ⟨hd1, hd2⟩ := drop_one hd
    obtain ⟨hb1, hb2⟩ := drop_one hb
    obtain ⟨p1, p2, p3⟩ := hblk o x hb1
    unfold valsE
    refine VRl_cons ?_ (argsM_vals hve hks2 hblk himm ha.2 hd2 hb2)
    unfold VR
    exact ⟨p3, by rw [p1]; exact ha.1.1⟩
  | .mp kt ct :: r, vs, ds, bs, i, o, ha, hd, hb => by
    cases vs with
    | nil => unfold ArgsM at ha; exact ha.elim
    | cons v vs =>
    cases ds with
    | nil => unfold ArgsM at ha; exact ha.elim
    | cons d ds =>
    cases bs with
    | nil => unfold ArgsM at ha; exact ha.elim
    | cons x bs =>
    unfold ArgsM at ha
    obtain ⟨hd1, hd2⟩ := drop_one hd
    obtain ⟨hb1, hb2⟩ := drop_one hb
    obtain ⟨p1, p2, p3⟩ := hblk o x hb1
    unfold valsE
    refine VRl_cons ?_ (argsM_vals hve hks2 hblk himm ha.2 hd2 hb2)
    unfold VR
    exact ⟨p3, by rw [p1]; exact ha.1.1⟩
theorem argsM_len {k2 : Kn} {ve : Nat → E} {C : Nat → Nat → Option Value} {I : Nat → Nat → Prop} {H : Nat → Option Obj} : ∀ {es : List Ent} {vs : List Value} {ds : List D} {bs : List (Nat × Nat)} {i : Nat}, ArgsM k2.shape C I H es vs ds bs → (objsE k2 ve i es).length = bs.length ∧ objN es = bs.length ∧ vs.length = es.length
  | [], vs, ds, bs, i, ha => by
    cases vs <;> cases ds <;> cases bs <;> first | exact ⟨rfl, rfl, rfl⟩ | (unfold ArgsM at ha; exact ha.elim)
  | e :: r, vs, ds, bs, i, ha => by
    cases vs with
    | nil => cases e <;> (unfold ArgsM at ha; exact ha.elim)
    | cons v vs =>
    cases e with
    | any => unfold ArgsM at ha; obtain ⟨h1, h2, h3⟩ := argsM_len (ve := ve) (i := i) ha; exact ⟨h1, by simp only [objN, isObj]; simpa using h2, by simp only [List.length_cons, h3]⟩
    | con a => unfold ArgsM at ha; obtain ⟨h1, h2, h3⟩ := argsM_len (ve := ve) (i := i) ha.2; exact ⟨h1, by simp only [objN, isObj]; simpa using h2, by simp only [List.length_cons, h3]⟩
    | sh hh =>
      cases ds with
      | nil => unfold ArgsM at ha; exact ha.elim
      | cons d ds => unfold ArgsM at ha; obtain ⟨h1, h2, h3⟩ := argsM_len (ve := ve) (i := i + 1) ha.2; exact ⟨h1, by simp only [objN, isObj]; simpa using h2, by simp only [List.length_cons, h3]⟩
    | rf t =>
      cases ds with
      | nil => unfold ArgsM at ha; exact ha.elim
      | cons d ds => unfold ArgsM at ha; obtain ⟨h1, h2, h3⟩ := argsM_len (ve := ve) (i := i + 1) ha.2; exact ⟨h1, by simp only [objN, isObj]; simpa using h2, by simp only [List.length_cons, h3]⟩
    | own t =>
      cases ds with
      | nil => unfold ArgsM at ha; exact ha.elim
      | cons d ds =>
      cases bs with
      | nil => unfold ArgsM at ha; exact ha.elim
      | cons b bs => unfold ArgsM at ha; obtain ⟨h1, h2, h3⟩ := argsM_len (ve := ve) (i := i + 1) ha.2; exact ⟨by simp only [objsE, List.length_cons, h1], by simp only [objN, isObj, List.length_cons, h2, if_true]; omega, by simp only [List.length_cons, h3]⟩
    | bx t z =>
      cases ds with
      | nil => unfold ArgsM at ha; exact ha.elim
      | cons d ds =>
      cases bs with
      | nil => unfold ArgsM at ha; exact ha.elim
      | cons b bs => unfold ArgsM at ha; obtain ⟨h1, h2, h3⟩ := argsM_len (ve := ve) (i := i + 1) ha.2; exact ⟨by simp only [objsE, List.length_cons, h1], by simp only [objN, isObj, List.length_cons, h2, if_true]; omega, by simp only [List.length_cons, h3]⟩
    | mp kt ct =>
      cases ds with
      | nil => unfold ArgsM at ha; exact ha.elim
      | cons d ds =>
      cases bs with
      | nil => unfold ArgsM at ha; exact ha.elim
      | cons b bs => unfold ArgsM at ha; obtain ⟨h1, h2, h3⟩ := argsM_len (ve := ve) (i := i + 1) ha.2; exact ⟨by simp only [objsE, List.length_cons, h1], by simp only [objN, isObj, List.length_cons, h2, if_true]; omega, by simp only [List.length_cons, h3]⟩
theorem headO_live {k : Kn} : ∀ {es : List Ent} {i j : Nat} {ob : AObj}, (headO k i es)[j]? = some ob → ob.live
  | [], _, _, _, h => by simp [headO] at h
  | e :: r, i, j, ob, h => by
    cases e <;> simp only [headO] at h <;> first | exact headO_live h | (cases j with
      | zero => simp only [List.getElem?_cons_zero, Option.some.injEq] at h; subst h; trivial
      | succ j => simp only [List.getElem?_cons_succ] at h; exact headO_live h)
theorem nodup_fst {bs : List (Nat × Nat)} (h : (bs.map (·.1)).Nodup) {o o' : Nat} (ho : o < bs.length) (ho' : o' < bs.length) (e : blkL bs o = blkL bs o') : o = o' := by
  obtain ⟨x, hx⟩ : ∃ x, bs[o]? = some x := ⟨_, List.getElem?_eq_getElem ho⟩
  obtain ⟨y, hy⟩ : ∃ x, bs[o']? = some x := ⟨_, List.getElem?_eq_getElem ho'⟩
  rw [(bs_get hx).1, (bs_get hy).1] at e
  have key : ∀ i j : Nat, i < j → j < bs.length → ∀ x y, bs[i]? = some x → bs[j]? = some y → x.1 ≠ y.1 := fun i j hij hj x y hx hy => by
    have := List.pairwise_iff_getElem.1 h i j (by rw [List.length_map]; omega) (by rw [List.length_map]; exact hj) hij
    rw [List.getElem_map, List.getElem_map] at this
    rw [List.getElem?_eq_getElem (by omega)] at hx
    rw [List.getElem?_eq_getElem hj] at hy
    cases hx; cases hy
    exact this
  rcases Nat.lt_trichotomy o o' with k | k | k
  · exact absurd e (key o o' k ho' x y hx hy)
  · exact k
  · exact absurd e.symm (key o' o k ho y x hy hx)
/-- The state of what is handed in. -/
theorem canonM {L : List (Nat × List Value)} {W : World} {I : Nat → Nat → Prop} {es : List Ent} {vs : List Value} {ds : List D} {bs : List (Nat × Nat)} (hL : TabsMet L W) (hI : ∀ g us, (g, us) ∈ L → ∀ off, off < us.length → I g off)
    (ha : ArgsM (kn [] tb).shape (fun b off => W.cell? ⟨b, off, none⟩) I (fun b => W.heap[b]?) es vs ds bs) (hnd : (bs.map (·.1)).Nodup) (hd : ∀ b off v, W.cell? ⟨b, off, none⟩ = some v → I b off → ImmD (kn [] tb).shape es ds bs b off) (hle : es.length ≤ Tr.lid) (fx : List E) :
    (headS (kn fx tb) es).n = bs.length ∧ (headS (kn fx tb) es).k = kn fx tb ∧ (∀ o, o < bs.length → ∃ ob, (headS (kn fx tb) es).get o = some ob ∧ ob.live) ∧
    (∀ b off v, W.cell? ⟨b, off, none⟩ = some v → I b off → Imm (headS (kn fx tb) es) ⟨blkL bs, capL bs, envOf ds, fun b off => b < W.heap.size ∧ ¬ I b off ∧ b ∉ bs.map (·.1)⟩ b off) ∧
    ((∀ e, e ∈ fx → e.den (envOf ds) = .v (.bool true)) → Sim (tabsG L) 0 W W (headS (kn fx tb) es) ⟨blkL bs, capL bs, envOf ds, fun b off => b < W.heap.size ∧ ¬ I b off ∧ b ∉ bs.map (·.1)⟩ ∧
      VRl W (headS (kn fx tb) es) ⟨blkL bs, capL bs, envOf ds, fun b off => b < W.heap.size ∧ ¬ I b off ∧ b ∉ bs.map (·.1)⟩ (headA (kn fx tb) 0 0 es) vs) := by
  have hk2 : (kn fx tb).shape = (kn [] tb).shape := rfl
  obtain ⟨l1, l2, l3⟩ := argsM_len (k2 := kn fx tb) (ve := E.var) (i := 0) (show ArgsM (kn fx tb).shape _ _ _ _ _ _ _ from ha)
  rw [← headO_E] at l1
  obtain ⟨n1, n2, n3⟩ := newL_get (l := headO (kn fx tb) 0 es) (s := st0 (kn fx tb)) (by
    have := headO_len (k := kn fx tb) (ents := es) (i := 0)
    show 0 + _ ≤ _
    omega)
  have n0 : (st0 (kn fx tb)).n = 0 := rfl
  rw [n0, Nat.zero_add, l1] at n1
  have n3' : ∀ o, o < bs.length → (headS (kn fx tb) es).get o = (headO (kn fx tb) 0 es)[o]? := fun o ho => by
    have := n3 o (by rw [n0, Nat.zero_add, l1]; exact ho)
    rw [n0, if_neg (Nat.not_lt_zero _)] at this
    exact this
  have hn2 : (headS (kn fx tb) es).n = bs.length := n1
  have hlt : ∀ (o : Nat) (x : Nat × Nat), bs[o]? = some x → x.1 < W.heap.size := by
    intro o x hx
    have ho : o < bs.length := (List.getElem?_eq_some_iff.1 hx).1
    obtain ⟨ob, hob⟩ : ∃ ob, (headO (kn fx tb) 0 es)[o]? = some ob := ⟨_, List.getElem?_eq_getElem (by rw [l1]; exact ho)⟩
    obtain ⟨y, hy, hr⟩ := argsM_objs (w := W) (k2 := kn fx tb) (s2 := st0 (kn fx tb)) (M2 := ⟨blkL bs, capL bs, envOf ds, fun _ _ => False⟩) (ds0 := ds) (bs0 := bs) (i := 0) (o := 0) (ve := E.var) (fun i d h => env_var h) rfl (fun b off v _ _ => ⟨fun _ _ hi => absurd hi (Nat.not_lt_zero _), fun h => h⟩) (show ArgsM (kn fx tb).shape _ I _ es vs ds bs from ha) (by simp) (by simp) o ob (by rw [← headO_E]; exact hob)
    rw [Nat.zero_add, hx] at hy
    cases hy
    have : ∀ (b : Nat) (oo : Obj), W.heap[b]? = some oo → b < W.heap.size := fun b oo h => (Array.getElem?_eq_some_iff.1 h).1
    have hlv := headO_live hob
    cases ob with
    | box cs z => obtain ⟨c, e', fr, a1, _⟩ := hr; exact this _ _ a1
    | row tip z => obtain ⟨c, e', fr, a1, _⟩ := hr; exact this _ _ a1
    | fz cs z => obtain ⟨c, e', fr, a1, _⟩ := hr; exact this _ _ a1
    | map cs => obtain ⟨c, e', a1, _⟩ := hr; exact this _ _ a1
    | dead => exact hlv.elim
    | loop T ps asg body st pend => obtain ⟨rc, a1, _⟩ := hr; exact this _ _ a1
    | defs => exact this _ _ hr
    | sym k =>
      cases k with
      | map kt ct e => obtain ⟨c, e', rows, a1, _⟩ := hr; exact this _ _ a1
      | arr ct e => obtain ⟨c, e', fr, rows, a1, _⟩ := hr; exact this _ _ a1
  have himm : ∀ b off v, W.cell? ⟨b, off, none⟩ = some v → I b off → Imm (headS (kn fx tb) es) ⟨blkL bs, capL bs, envOf ds, fun b off => b < W.heap.size ∧ ¬ I b off ∧ b ∉ bs.map (·.1)⟩ b off := fun b off v hc hi => by
    refine ⟨imm0_iff.2 fun o ob2 ho hg hbk => ?_, fun h => h.2.1 hi⟩
    rw [hn2] at ho
    rw [n3' o ho] at hg
    exact argsM_below (k2 := kn fx tb) (bs0 := bs) (ds0 := ds) (i := 0) (o := 0) (ve := E.var) (fun i d h => env_var h) (show ArgsM (kn fx tb).shape _ I _ es vs ds bs from ha) (by simp) (by simp) (hd b off v hc hi) o ob2 (by rw [← headO_E]; exact hg) (by rw [Nat.zero_add]; exact hbk)
  refine ⟨hn2, n2, fun o ho => ?_, himm, fun hfx => ?_⟩
  · obtain ⟨ob, hob⟩ : ∃ ob, (headO (kn fx tb) 0 es)[o]? = some ob := ⟨_, List.getElem?_eq_getElem (by rw [l1]; exact ho)⟩
    exact ⟨ob, by rw [n3' o ho]; exact hob, headO_live hob⟩
  have hblk : ∀ (o : Nat) (x : Nat × Nat), bs[o]? = some x → blkL bs o = x.1 ∧ capL bs o = x.2 ∧ o < (headS (kn fx tb) es).n := fun o x hx => ⟨(bs_get hx).1, (bs_get hx).2, by rw [hn2]; exact (List.getElem?_eq_some_iff.1 hx).1⟩
  have hobj := argsM_objs (w := W) (k2 := kn fx tb) (s2 := headS (kn fx tb) es) (M2 := ⟨blkL bs, capL bs, envOf ds, fun b off => b < W.heap.size ∧ ¬ I b off ∧ b ∉ bs.map (·.1)⟩) (ds0 := ds) (bs0 := bs) (i := 0) (o := 0) (ve := E.var) (fun i d h => env_var h) (by rw [show (headS (kn fx tb) es).k = kn fx tb from n2]) himm (show ArgsM (kn fx tb).shape _ I _ es vs ds bs from ha) (by simp) (by simp)
  have hvals := argsM_vals (w := W) (k2 := kn fx tb) (s2 := headS (kn fx tb) es) (M2 := ⟨blkL bs, capL bs, envOf ds, fun b off => b < W.heap.size ∧ ¬ I b off ∧ b ∉ bs.map (·.1)⟩) (ds0 := ds) (bs0 := bs) (i := 0) (o := 0) (ve := E.var) (tk := id) (fun i d h => env_var h) n2 hblk himm (show ArgsM (kn fx tb).shape _ I _ es vs ds bs from ha) (by simp) (by simp)
  rw [← headA_E] at hvals
  rw [← headO_E] at hobj
  have hget : ∀ o, o < bs.length → ∃ x, bs[o]? = some x := fun o ho => ⟨_, List.getElem?_eq_getElem ho⟩
  refine ⟨⟨Below.refl _ _, Nat.zero_le _, by rw [hn2, ← l1]; exact Nat.le_trans headO_len hle, fun o ho => ?_, fun o o' ob ob' ho ho' _ _ _ _ e => ?_, fun o ob ho hg => ?_, fun g cs hg => ?_, fun e he => hfx e (by rw [show (headS (kn fx tb) es).k = kn fx tb from n2] at he; exact he), fun b off h => ⟨h.1, fun o ho => ?_⟩⟩, hvals⟩
  · rw [hn2] at ho
    obtain ⟨x, hx⟩ := hget o ho
    exact ⟨Nat.zero_le _, by show blkL bs o < _; rw [(bs_get hx).1]; exact hlt o x hx⟩
  · rw [hn2] at ho ho'
    exact nodup_fst hnd ho ho' e
  · rw [hn2] at ho
    rw [n3' o ho] at hg
    obtain ⟨x, hx, hr⟩ := hobj o ob hg
    rw [Nat.zero_add] at hx
    show ObjR W _ _ (blkL bs o) (capL bs o) ob
    rw [(bs_get hx).1, (bs_get hx).2]; exact hr
  · obtain ⟨us, hm, rfl⟩ := tabsG_mem hg
    obtain ⟨h1, h2⟩ := hL g us hm
    refine VRs.of_get fun i c hi => ?_
    simp only [leaves, List.getElem?_map, Option.map_eq_some_iff] at hi
    obtain ⟨u, hu, rfl⟩ := hi
    have hltu : i < us.length := (List.getElem?_eq_some_iff.1 hu).1
    have hcell : W.cell? ⟨g, i, none⟩ = some u := by have := h2 i u hu; rw [Nat.zero_add] at this; exact this
    refine ⟨u, by rw [Nat.zero_add]; exact hcell, VR_v_of ((List.all_eq_true.1 h1) u (List.mem_of_getElem? hu)), ?_, by rw [Nat.zero_add]; exact himm g i u hcell (hI g us hm i hltu)⟩
    rfl
  · rw [hn2] at ho
    obtain ⟨x, hx⟩ := hget o ho
    intro e
    apply h.2.2
    rw [List.mem_map]
    exact ⟨x, List.mem_of_getElem? hx, by rw [← (bs_get hx).1]; exact e⟩
end
end Go.Ab
