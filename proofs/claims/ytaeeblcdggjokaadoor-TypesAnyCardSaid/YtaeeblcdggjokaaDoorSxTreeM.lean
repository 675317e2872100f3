/- A function to which objects are lent, proved by the trees of its ways. -/
import Derived.Test.YtaeeblcdggjokaaDoorSxFnM
namespace Go.Ab
set_option linter.unusedVariables false
set_option linter.unusedSimpArgs false
set_option linter.unusedSectionVars false
set_option linter.constructorNameAsVariable false
open Go Go.RowKit

section
variable [Interp] {P : Program} {G : Nat → Option (List AV)} {B0 : Nat} {w0 w : World} {s : St} {M : Mp} {tb : List (Nat × List CT)}
theorem conR_of {a : AV} {v : Value} (h : conOk a = true) (hv : VR w s M a v) : conR a v := by
  unfold conOk at h
  split at h
  · exact VR_v.1 hv
  · unfold VR at hv
    obtain ⟨f', a', b', e, k0, k1, k2⟩ := hv
    unfold VRl at k1 k2
    simp only [renFn, Option.some.injEq] at k0
    subst k0
    have ha : a' = #[] := Array.toList_inj.1 k1
    have hb : b' = #[] := Array.toList_inj.1 k2
    subst ha hb
    exact e
  · cases h
/-- From a state to data. -/
theorem arrM (hs : Sim G B0 w0 w s M) {free : Nat → Bool} {sK : St} (hkK : s.k = sK.k) (himmK : ∀ b off, Imm s M b off → Imm sK M b off) (hown : ∀ b cs k, b < s.n → s.get b = some (.box cs k) → free b = true → ∀ off, Imm sK M (M.blk b) off) :
    ∀ {ents : List Ent} {as : List AV} {vs : List Value} {es : List E}, arrE s free ents as = some es → VRl w s M as vs →
      ArgsM s.k.shape (fun b off => w.cell? ⟨b, off, none⟩) (Imm sK M) (fun b => w.heap[b]?) ents vs (E.denL M.env es) ((keptL ents as).map fun tk => (M.blk tk, M.cap tk)) ∧
      (∀ tk, tk ∈ keptL ents as → tk < s.n ∧ ∃ ob, s.get tk = some ob ∧ ob.live) ∧
      ∀ b off, (∀ tk ob, tk ∈ keptL ents as → s.get tk = some ob → M.blk tk = b → below0 M.env ob off) → ImmD s.k.shape ents (E.denL M.env es) ((keptL ents as).map fun tk => (M.blk tk, M.cap tk)) b off
  | [], [], vs, es, h, hv => by
    simp only [arrE, Option.some.injEq] at h
    subst h
    unfold VRl at hv
    subst hv
    exact ⟨by unfold E.denL; trivial, fun tk h => (by cases h), fun b off _ => by unfold ImmD; trivial⟩
  | .any :: r, a :: t, vs, es, h, hv => by
    unfold arrE at h
    unfold VRl at hv
    obtain ⟨v, vs, rfl, _, hv2⟩ := hv
    obtain ⟨k1, k2, k3⟩ := arrM hs hkK himmK hown h hv2
    have hK : keptL (.any :: r) (a :: t) = keptL r t := by cases a <;> rfl
    rw [hK]
    exact ⟨by unfold ArgsM; exact k1, k2, fun b off hb => by unfold ImmD; exact k3 b off hb⟩
  | .con c :: r, a :: t, vs, es, h, hv => by
    unfold arrE at h
    split at h
    · rename_i hc
      rw [Bool.and_eq_true] at hc
      obtain rfl := aEq_eq hc.2
      unfold VRl at hv
      obtain ⟨v, vs, rfl, hv1, hv2⟩ := hv
      obtain ⟨k1, k2, k3⟩ := arrM hs hkK himmK hown h hv2
      have hK : keptL (.con c :: r) (c :: t) = keptL r t := by cases c <;> rfl
      rw [hK]
      exact ⟨by unfold ArgsM; exact ⟨conR_of hc.1 hv1, k1⟩, k2, fun b off hb => by unfold ImmD; exact k3 b off hb⟩
    · cases h
  | .sh hh :: r, a :: t, vs, es, h, hv => by
    unfold arrE at h
    split at h
    · rename_i y hy
      split at h
      · rename_i e es' he hes
        cases h
        unfold VRl at hv
        obtain ⟨v, vs, rfl, hv1, hv2⟩ := hv
        obtain ⟨k1, k2, k3⟩ := arrM hs hkK himmK hown hes hv2
        have hK : keptL (.sh hh :: r) (a :: t) = keptL r t := by cases a <;> rfl
        rw [hK]
        have q1 : VR w sK M y v := frzG_VR himmK hown hkK hs _ hy hv1
        rw [hkK] at he
        have q2 := shE_sound he q1
        rw [← hkK] at q2
        unfold E.denL
        exact ⟨by unfold ArgsM; exact ⟨q2, k1⟩, k2, fun b off hb => by unfold ImmD; exact k3 b off hb⟩
      · cases h
    · cases h
  | .rf hh :: r, a :: t, vs, es, h, hv => by
    unfold arrE at h
    split at h
    · rename_i y hy
      split at h
      · rename_i e es' he hes
        cases h
        unfold VRl at hv
        obtain ⟨v, vs, rfl, hv1, hv2⟩ := hv
        obtain ⟨k1, k2, k3⟩ := arrM hs hkK himmK hown hes hv2
        have hK : keptL (.rf hh :: r) (a :: t) = keptL r t := by cases a <;> rfl
        rw [hK]
        have q1 : VR w sK M y v := frzG_VR himmK hown hkK hs _ hy hv1
        rw [hkK] at he
        have q2 := refX_sound he q1
        rw [← hkK] at q2
        unfold E.denL
        exact ⟨by unfold ArgsM; exact ⟨q2, k1⟩, k2, fun b off hb => by unfold ImmD; exact k3 b off hb⟩
      · cases h
    · cases h
  | .own hh :: r, a :: t, vs, es, h, hv => by
    unfold arrE at h
    split at h
    · rename_i e tk es' he hes
      cases h
      unfold VRl at hv
      obtain ⟨v, vs, rfl, hv1, hv2⟩ := hv
      obtain ⟨k1, k2, k3⟩ := arrM hs hkK himmK hown hes hv2
      rw [own_kept he]
      obtain ⟨rows, ovs, tip, d1, f1, hlt, hg, htip, ev, g1, g2⟩ := ownE_sound hs rfl he hv1
      obtain ⟨c, e', fr, a1, a2, a3, a4⟩ := hs.obj tk _ hlt hg
      unfold E.denL
      rw [List.map_cons]
      refine ⟨?_, fun tk' h' => ?_, fun b off hb => ?_⟩
      · unfold ArgsM
        rw [d1]
        refine ⟨⟨⟨?_, by unfold fits; exact f1⟩, ev, c, e', fr, a1, a2, by show rows.length * _ ≤ _; rw [← htip]; exact a3, a4⟩, k1⟩
        rw [ev]
        unfold DV
        refine .inr ⟨_, _, _, rfl, ?_, ?_⟩
        · have hvv := hv1
          rw [ev] at hvv
          cases a <;> (try (unfold ownE at he; cases he; done))
          · unfold VR at hvv
            obtain ⟨b', off', cap', e1, hle, _⟩ := hvv
            cases e1
            exact hle
          · rcases VR_d hvv with ⟨_, a1, c1, e1⟩ | ⟨rows', b', off', cap', _, e1, hle, _⟩
            · injection e1 with e1 e2 e3
              omega
            · injection e1 with e1 e2 e3
              rw [e2, e3]; exact hle
        · refine DVr_of (fun d hd => (fitsR_row f1 d hd).imp fun _ h => h.1) (g1.mono fun b off u hu hi => ⟨hu, himmK _ _ hi⟩) fun j u hj => ?_
          rw [Nat.zero_add]
          refine ⟨g2 j u hj, himmK _ _ (imm_row hs hlt hg ?_)⟩
          rw [htip, ← flat_length f1, ← g1.length]
          exact (List.getElem?_eq_some_iff.1 hj).1
      · rcases List.mem_cons.1 h' with rfl | h'
        · exact ⟨hlt, _, hg, trivial⟩
        · exact k2 tk' h'
      · unfold ImmD
        refine ⟨fun hbk => ?_, k3 b off fun tk' ob h' => hb tk' ob (List.mem_cons_of_mem _ h')⟩
        have := hb tk _ (List.mem_cons_self ..) hg hbk
        have this : off < tip.val M.env := this
        rw [d1]
        show off < rows.length * _
        rw [← htip]; exact this
    · cases h
  | .bx hh z :: r, a :: t, vs, es, h, hv => by
    cases a <;> (try (unfold arrE at h; cases h; done))
    rename_i b0 off0
    unfold arrE at h
    split at h
    · rename_i e es' he hes
      cases h
      unfold VRl at hv
      obtain ⟨v, vs, rfl, hv1, hv2⟩ := hv
      unfold VR at hv1
      obtain ⟨k1, k2, k3⟩ := arrM hs hkK himmK hown hes hv2
      obtain ⟨rfl, cs, c, ty, fr, ds, q1, q2, q3, q4, q5, q6⟩ := bxE_sound hs hkK himmK hown he hv1.1
      have hK : keptL (.bx hh z :: r) (.box b0 0 :: t) = b0 :: keptL r t := rfl
      rw [hK]
      unfold E.denL
      rw [List.map_cons]
      refine ⟨?_, fun tk' h' => ?_, fun b off hb => ?_⟩
      · unfold ArgsM
        exact ⟨⟨hv1.2, c, ty, fr, ds, q2, q5, q6, q3, q4⟩, k1⟩
      · rcases List.mem_cons.1 h' with rfl | h'
        · exact ⟨hv1.1, _, q1, trivial⟩
        · exact k2 tk' h'
      · unfold ImmD
        exact ⟨fun hbk => hb b0 _ (List.mem_cons_self ..) q1 hbk, k3 b off fun tk' ob h' => hb tk' ob (List.mem_cons_of_mem _ h')⟩
    · cases h
  | .mp kt ct :: r, a :: t, vs, es, h, hv => by
    cases a <;> (try (unfold arrE at h; cases h; done))
    rename_i m
    unfold arrE at h
    split at h
    · rename_i e es' he hes
      cases h
      unfold VRl at hv
      obtain ⟨v, vs, rfl, hv1, hv2⟩ := hv
      unfold VR at hv1
      obtain ⟨k1, k2, k3⟩ := arrM hs hkK himmK hown hes hv2
      obtain ⟨ents', clock, rows, ob, q1, q2, q3, q4, q5, q6⟩ := mapE_sound hs hv1.1 he
      have hK : keptL (.mp kt ct :: r) (.mp m :: t) = m :: keptL r t := rfl
      rw [hK]
      unfold E.denL
      rw [List.map_cons]
      refine ⟨?_, fun tk' h' => ?_, fun b off hb => ?_⟩
      · unfold ArgsM
        exact ⟨⟨hv1.2, ents', clock, rows, q4, q5, q6⟩, k1⟩
      · rcases List.mem_cons.1 h' with rfl | h'
        · exact ⟨hv1.1, _, q1, q2⟩
        · exact k2 tk' h'
      · unfold ImmD
        refine ⟨fun hbk => ?_, k3 b off fun tk' ob h' => hb tk' ob (List.mem_cons_of_mem _ h')⟩
        have := hb m _ (List.mem_cons_self ..) q1 hbk
        cases ob with
        | row tip e => exact q3 tip e rfl
        | dead => exact q2
        | _ => exact this
    · cases h
  | [], _ :: _, _, _, h, _ => by cases h
  | .any :: _, [], _, _, h, _ => by cases h
  | .con _ :: _, [], _, _, h, _ => by cases h
  | .sh _ :: _, [], _, _, h, _ => by cases h
  | .rf _ :: _, [], _, _, h, _ => by cases h
  | .own _ :: _, [], _, _, h, _ => by cases h
  | .bx _ _ :: _, [], _, _, h, _ => by cases h
  | .mp _ _ :: _, [], _, _, h, _ => by cases h
end

/-- A loop's head, and where what was lent stands there. -/
structure HdM where
  loop : Nat
  ents : List Ent
  st : List Nat
def HdM.hd (h : HdM) : Hd := ⟨h.loop, h.ents⟩
def natsEq : List Nat → List Nat → Bool
  | [], [] => true
  | a :: r, b :: t => Nat.beq a b && natsEq r t
  | _, _ => false
theorem natsEq_eq : ∀ {a b : List Nat}, natsEq a b = true → a = b
  | [], [], _ => rfl
  | a :: r, b :: t, h => by
    unfold natsEq at h
    rw [Bool.and_eq_true] at h
    rw [nbe h.1, natsEq_eq h.2]
  | [], _ :: _, h => by cases h
  | _ :: _, [], h => by cases h
def allLt (l : List Nat) (n : Nat) : Bool := l.all fun o => Nat.ble (o + 1) n
theorem allLt_iff {l : List Nat} {n : Nat} (h : allLt l n = true) : ∀ o, o ∈ l → o < n := fun o ho => Nat.le_of_ble_eq_true ((List.all_eq_true.1 h) o ho)
def arrHM (h : HdM) (cur : List Nat) (T : Tm) (s : St) : Option (List E) :=
  let K := keptL h.ents ((List.range T.n).map (gt T))
  if natsEq (h.st.map fun o => K.getD o 0) cur && allLt h.st K.length then arrH h.hd T s else none
def arriveFM (j : Nat) (cur : List Nat) (T : Tm) (s : St) : List HdM → Nat → Option Out
  | [], _ => none
  | h :: r, i =>
    match (if Nat.beq h.loop j then arrHM h cur T s else none) with
    | some es => some (.go i es)
    | none => arriveFM j cur T s r (i + 1)
/-- A constant that tells the same everywhere. -/
def conP : AV → Bool
  | .v x => scalar x
  | .iface _ (.v x) => scalar x
  | .iface _ (.agg []) => true
  | _ => false
def resL : List Ent → AV → Option (List AV)
  | [_], r => some [r]
  | _, .tup l => some l
  | _, _ => none
def outRetM (P : Program) (G : Nat → Option (List AV)) (run : Code → Tm → St → Option (Ex × Tm × St)) (q : SigM) (fn : Func) (cur : List Nat) (ex : Ex) (T : Tm) (s : St) : Option E :=
  match (match ex with
    | .normal | .ret =>
      match killAll s T.ds with
      | some s => finA P G run fn T none s
      | none => none
    | .panic y =>
      match T.ds with
      | [] => finA P G run fn T (some y) s
      | _ => none
    | _ => none) with
  | some (.pan y, _) =>
    match q.pan with
    | some a => if aEq y a && conP a then some .nil else none
    | none => none
  | some (r, s') =>
    match resL q.res r with
    | some rs =>
      let as := rs ++ q.back.map (gt T)
      let K := keptL q.outs as
      if Nat.beq rs.length q.res.length && nodupN K && natsEq (K.drop (objN q.res)) cur then (arrE s' (fun b => !memN b K) q.outs as).map (.pr .row) else none
    | none => none
  | none => none
def outOfM (P : Program) (G : Nat → Option (List AV)) (run : Code → Tm → St → Option (Ex × Tm × St)) (q : SigM) (fn : Func) (heads : List HdM) (cur : List Nat) : Option Rs → Option Out
  | some (.done ex T s) => (outRetM P G run q fn cur ex T s).map .ret
  | some (.enter j T s) => arriveFM j cur T s heads 0
  | some (.again j T s) => arriveFM j cur T s heads 0
  | none => none
def runEntryM (P : Program) (G : Nat → Option (List AV)) (mu : Nat → Bool) (run : Code → Tm → St → Option (Ex × Tm × St)) (tb : List (Nat × List CT)) (q : SigM) (fn : Func) (c : Code) (heads : List HdM) (fuel : Nat) (fx : List E) : Option Out :=
  if allLt q.cur (objN q.args) then outOfM P G run q fn heads q.cur (evH G run fuel (.inl (c, 0)) { initT (headA (kn fx tb) 0 0 q.args) fn.ntmps with mu := (mu q.f, false) } (headS (kn fx tb) q.args) []) else none
def runHeadM (P : Program) (G : Nat → Option (List AV)) (mu : Nat → Bool) (run : Code → Tm → St → Option (Ex × Tm × St)) (tb : List (Nat × List CT)) (q : SigM) (fn : Func) (c : Code) (heads : List HdM) (fuel : Nat) (j : Nat) (fx : List E) : Option Out :=
  match heads[j]? with
  | some h =>
    match (headsL c [] 0)[h.loop]? with
    | some (b, k) => outOfM P G run q fn heads h.st (evH G run fuel (.inl (b, h.loop + 1)) { initT (headA (kn fx tb) 0 0 h.ents) 0 with mu := (mu q.f, false) } (headS (kn fx tb) h.ents) (.head h.loop :: k))
    | none => none
  | none => none

section
variable [Interp] {P : Program} {G : Nat → Option (List AV)} {B0 : Nat} {w0 w : World} {s : St} {M : Mp} {tb : List (Nat × List CT)}
theorem conP_VR {a : AV} {v : Value} (h : conP a = true) (hv : VR w s M a v) : conV a v := by
  unfold conP at h
  split at h
  · exact VR_v.1 hv
  · unfold VR at hv
    obtain ⟨x, rfl, hx⟩ := hv
    obtain ⟨rfl, h2⟩ := VR_v.1 hx
    exact ⟨rfl, h2⟩
  · unfold VR at hv
    obtain ⟨x, rfl, hx⟩ := hv
    unfold VR at hx
    obtain ⟨vs, rfl, hx⟩ := hx
    unfold VRl at hx
    have : vs = #[] := Array.toList_inj.1 hx
    subst this
    rfl
  · cases h
/-- What of the start's world is kept. -/
structure Kept (W : World) (I : Nat → Nat → Prop) (bs : List (Nat × Nat)) (w : World) (s : St) (M : Mp) : Prop where
  size : W.heap.size ≤ w.heap.size
  blocks : ∀ b, b < W.heap.size → b ∉ bs.map (·.1) → w.heap[b]? = W.heap[b]?
  cells : ∀ b off v, W.cell? ⟨b, off, none⟩ = some v → I b off → w.cell? ⟨b, off, none⟩ = some v ∧ Imm s M b off
  old : ∀ i o, i < s.n → s.get i = some o → o.live → M.blk i < W.heap.size → M.blk i ∈ bs.map (·.1)
theorem Kept.ext {W : World} {I : Nat → Nat → Prop} {bs : List (Nat × Nat)} {w' : World} {s' : St} {M' : Mp} (h : Kept W I bs w s M) (k : Ext w s M w' s' M') : Kept W I bs w' s' M' := by
  refine ⟨Nat.le_trans h.size k.frm.size, fun b hb hn => ?_, fun b off v hc hi => ?_, fun i o hi hg hl hlt => ?_⟩
  · rw [k.frm.blocks b (Nat.lt_of_lt_of_le hb h.size) fun i o hi hg hl e => hn (by rw [← e]; exact h.old i o hi hg hl (by rw [e]; exact hb)), h.blocks b hb hn]
  · obtain ⟨k1, k2⟩ := h.cells b off v hc hi
    exact k.cells b off v k1 k2
  · obtain ⟨j, oj, h1, h2, h3, h4⟩ := k.frm.old i o hi hg hl (Nat.lt_of_lt_of_le hlt h.size)
    rw [← h4]
    exact h.old j oj h1 h2 h3 (by rw [h4]; exact hlt)
abbrev outW (W : World) (I : Nat → Nat → Prop) (bs : List (Nat × Nat)) : Nat → Nat → Prop := fun b off => b < W.heap.size ∧ ¬ I b off ∧ b ∉ bs.map (·.1)
theorem nodup_blk (hs : Sim G B0 w0 w s M) : ∀ {K : List Nat}, nodupN K = true → (∀ tk, tk ∈ K → tk < s.n ∧ ∃ ob, s.get tk = some ob ∧ ob.live) → ((K.map fun tk => (M.blk tk, M.cap tk)).map (·.1)).Nodup
  | [], _, _ => by simp
  | a :: r, h, hk => by
    unfold nodupN at h
    rw [Bool.and_eq_true, Bool.not_eq_true'] at h
    rw [List.map_cons, List.map_cons, List.nodup_cons]
    refine ⟨fun hm => ?_, nodup_blk hs h.2 fun tk ht => hk tk (List.mem_cons_of_mem _ ht)⟩
    rw [List.map_map, List.mem_map] at hm
    obtain ⟨tk, ht, e⟩ := hm
    have e : M.blk tk = M.blk a := e
    obtain ⟨h1, o1, g1, l1⟩ := hk a (List.mem_cons_self ..)
    obtain ⟨h2, o2, g2, l2⟩ := hk tk (List.mem_cons_of_mem _ ht)
    have := hs.inj tk a o2 o1 h2 h1 g2 g1 l2 l1 e
    subst this
    rw [memN_iff.2 ht] at h
    cases h.1
theorem map_pair_ext {W : World} {cur : List Nat} {w' : World} {s' : St} {M' : Mp} (k : Ext w s M w' s' M') (hc : ∀ o, o ∈ cur → o < s.n) : (cur.map fun tk => (M'.blk tk, M'.cap tk)) = cur.map fun tk => (M.blk tk, M.cap tk) :=
  List.map_congr_left fun o ho => by rw [(k.map o (hc o ho)).1, (k.map o (hc o ho)).2]
theorem resL_VRl {hs : List Ent} {r : AV} {rs : List AV} {v : Value} (h : resL hs r = some rs) (hv : VR w s M r v) : ∃ us, resV hs v us ∧ VRl w s M rs us := by
  unfold resL at h
  split at h
  · cases h
    exact ⟨[v], rfl, VRl_cons hv VRl_nil⟩
  · rename_i l hno
    cases h
    unfold VR at hv
    obtain ⟨us, rfl, hv⟩ := hv
    refine ⟨us.toList, ?_, hv⟩
    unfold resV
    split
    · rename_i x; exact absurd rfl (hno x)
    · simp
  · cases h
theorem VRl_append {a b : List AV} {us vs : List Value} (h : VRl w s M a us) (k : VRl w s M b vs) : VRl w s M (a ++ b) (us ++ vs) := h.append k
theorem vrl_back {T : Tm} {a : Act} (h : TmR w s M T a) : ∀ l : List Nat, VRl w s M (l.map (gt T)) (l.map fun t => a.tmps.getD t undef)
  | [] => VRl_nil
  | t :: r => VRl_cons (h.get t) (vrl_back h r)
theorem outRetM_sound {run : Code → Tm → St → Option (Ex × Tm × St)} (hP : NoNum P) (hrun : Goes P G B0 w0 none run) {q : SigM} {fn : Func} {cur : List Nat} {ex : Ex} {e : Exit} {T : Tm} {r : E} {a : Act} {W : World} {I : Nat → Nat → Prop} {bs : List (Nat × Nat)}
    (h : outRetM P G run q fn cur ex T s = some r) (hs : Sim G B0 w0 w s M) (hB : ∀ w' s' M', Sim G B0 w0 w' s' M' → Below 0 W w') (htb : s.k.tb = tb) (hT : TmR w s M T a) (he : ExR w s M ex e) (hk : Kept W I bs w s M) (hout : M.out = outW W I bs)
    (hcur : (cur.map fun tk => (M.blk tk, M.cap tk)) = q.cur.map fun o => bs.getD o (0, 0)) (hcl : ∀ o, o ∈ cur → o < s.n) : bodyPostM (FW none) 0 P fn (PostM tb q W I bs (r.den M.env)) e a w := by
  unfold outRetM at h
  have fin : ∀ (p : Option AV) (s1 : St) (w1 : World) (dv : List Deferred) (u : FrameMode), (match finA P G run fn T p s1 with
      | some (.pan y, _) =>
        match q.pan with
        | some a => if aEq y a && conP a then some E.nil else none
        | none => none
      | some (r, s') =>
        match resL q.res r with
        | some rs =>
          let as := rs ++ q.back.map (gt T)
          let K := keptL q.outs as
          if Nat.beq rs.length q.res.length && nodupN K && natsEq (K.drop (objN q.res)) cur then (arrE s' (fun b => !memN b K) q.outs as).map (.pr .row) else none
        | none => none
      | none => none) = some r → Sim G B0 w0 w1 s1 M → Ext w s M w1 s1 M → DLr w1 s1 M T.dl dv → PRm w1 s1 M p u → LeavesInM (FW none) 0 P fn a.tmps (PostM tb q W I bs (r.den M.env)) dv u w1 := by
    intro p s1 w1 dv u h hs1 hE1 hdl hp
    have hT1 := hT.ext hE1
    split at h
    · rename_i y s2 hf
      refine leavesInM_mono (fun e3 w3 hd => ?_) (fin_sound hP hrun hf hdl hs1 hT1 hp)
      split at h
      · rename_i a' hpan
        split at h
        · rename_i hc
          cases h
          rw [Bool.and_eq_true] at hc
          obtain rfl := aEq_eq hc.1
          obtain ⟨M3, hv, hs3, hE3⟩ := hd
          have hk3 := hk.ext (hE1.trans hE3)
          rcases hv with ⟨v, rfl, hv⟩ | ⟨y', v, hy, rfl, hv⟩
          · unfold VR at hv; exact hv.elim
          · obtain rfl : y = y' := by simpa [isPan] using hy
            exact ⟨hB _ _ _ hs3, hk3.blocks, fun b off v hc hi => (hk3.cells b off v hc hi).1, .inr ⟨v, y, rfl, rfl, hpan, conP_VR hc.2 hv⟩⟩
        · cases h
      · cases h
    · rename_i r1 s2 hno hf
      split at h
      · rename_i rs hrs
        simp only at h
        split at h
        · rename_i hc
          simp only [Bool.and_eq_true] at hc
          obtain ⟨⟨hc1, hc2⟩, hc3⟩ := hc
          obtain ⟨es, hes, rfl⟩ := Option.map_eq_some_iff.1 h
          refine leavesInM_mono (fun e3 w3 hd => ?_) (fin_sound hP hrun hf hdl hs1 hT1 hp)
          have hr : isPan r1 = none := by
            unfold isPan
            split
            · rename_i y; exact absurd rfl (hno y)
            · rfl
          obtain ⟨v, M3, rfl, hv, hs3, hE3⟩ := Done.down hd hr
          have hE := hE1.trans hE3
          have hk3 := hk.ext hE
          obtain ⟨us, hus, hvl⟩ := resL_VRl hrs hv
          have hb := vrl_back (hT.ext hE) q.back
          have hall := VRl_append hvl hb
          generalize hK : keptL q.outs (rs ++ q.back.map (gt T)) = K at hc2 hc3 hes
          obtain ⟨sK, _, q3, q4, hgetK, himmK, hown⟩ := others hs3 K
          obtain ⟨k1, k2, k3⟩ := arrM hs3 q4 himmK hown hes hall
          rw [hK] at k1 k2 k3
          have hsh : s2.k.shape = ({ tb := tb } : Kn).shape := by
            funext t
            unfold Kn.shape
            rw [hE.keep.2.2, htb]
          rw [hsh] at k1 k3
          have henv : M3.env = M.env := hE.keep.1
          rw [henv] at k1 k3
          have himmd : ∀ b off, Imm sK M3 b off → ImmD ({ tb := tb } : Kn).shape q.outs (E.denL M.env es) (K.map fun tk => (M3.blk tk, M3.cap tk)) b off := fun b off hi => k3 b off fun tk ob ht hg hbk => by
            have := imm0_iff.1 hi.1 tk ob (by rw [q3]; exact (k2 tk ht).1) (by rw [hgetK tk (k2 tk ht).1, if_pos (memN_iff.2 ht)]; exact hg) hbk
            rw [henv] at this; exact this
          have hcls : ∀ b off, Imm sK M3 b off → I b off ∨ W.heap.size ≤ b ∨ b ∈ bs.map (·.1) := fun b off hi => by
            have := hi.2
            rw [hE.keep.2.1, hout] at this
            by_cases c1 : I b off
            · exact .inl c1
            by_cases c2 : W.heap.size ≤ b
            · exact .inr (.inl c2)
            by_cases c3 : b ∈ bs.map (·.1)
            · exact .inr (.inr c3)
            · exact absurd ⟨by omega, c1, c3⟩ this
          have k1 := k1.mono (C' := fun b off => w3.cell? ⟨b, off, none⟩) (I' := fun b off => (I b off ∨ W.heap.size ≤ b ∨ b ∈ bs.map (·.1)) ∧ ImmD ({ tb := tb } : Kn).shape q.outs (E.denL M.env es) (K.map fun tk => (M3.blk tk, M3.cap tk)) b off)
            fun b off v hc hi => ⟨hc, hcls b off hi, himmd b off hi⟩
          refine ⟨hB _ _ _ hs3, hk3.blocks, fun b off v hc hi => (hk3.cells b off v hc hi).1, .inl ⟨us, v, _, E.denL M.env es, K.map fun tk => (M3.blk tk, M3.cap tk), by simp only [E.den, Prim.den], rfl, hus, by rw [← hvl.length]; exact nbe hc1, k1, nodup_blk hs3 hc2 k2, fun b off v hc hi => himmd b off (himmK b off (hk3.cells b off v hc hi).2), fun b hb => ?_, ?_⟩⟩
          · rw [List.map_map, List.mem_map] at hb
            obtain ⟨tk, ht, rfl⟩ := hb
            obtain ⟨h1, ob, h2, h3⟩ := k2 tk ht
            by_cases c : W.heap.size ≤ M3.blk tk
            · exact .inl c
            · exact .inr (hk3.old tk ob h1 h2 h3 (by omega))
          · rw [← List.map_drop, natsEq_eq hc3, map_pair_ext (W := W) hE hcl]
            exact hcur
        · cases h
      · cases h
    · cases h
  cases ex with
  | normal =>
    obtain rfl : e = .normal := he
    show LeavesInM (FW none) 0 P fn a.tmps _ a.defers .returning w
    simp only at h
    cases hk2 : killAll s T.ds with
    | none => rw [hk2] at h; cases h
    | some s1 =>
      rw [hk2] at h
      obtain ⟨dv, q1, q2⟩ := hT.defers
      rw [q2]
      exact leaves_marks hk2 hs hT.dlt fun w2 j1 j2 => fin none s1 w2 dv .returning h j1 j2 (q1.ext j2) rfl
  | ret =>
    obtain rfl : e = .ret := he
    show LeavesInM (FW none) 0 P fn a.tmps _ a.defers .returning w
    simp only at h
    cases hk2 : killAll s T.ds with
    | none => rw [hk2] at h; cases h
    | some s1 =>
      rw [hk2] at h
      obtain ⟨dv, q1, q2⟩ := hT.defers
      rw [q2]
      exact leaves_marks hk2 hs hT.dlt fun w2 j1 j2 => fin none s1 w2 dv .returning h j1 j2 (q1.ext j2) rfl
  | panic y =>
    simp only at h
    cases hds : T.ds with
    | cons _ _ => rw [hds] at h; cases h
    | nil =>
      rw [hds] at h
      obtain ⟨v, rfl, hv'⟩ := he
      obtain ⟨dv, q1, q2⟩ := hT.defers
      rw [hds] at q2
      show LeavesInM (FW none) 0 P fn a.tmps _ a.defers (.panicking [{ v, recovered := false }]) w
      rw [q2]
      exact fin (some y) s w dv _ h hs (Ext.refl _ _ _) q1 ⟨v, rfl, hv'⟩
  | exit i => cases h
  | goto l => cases h
theorem arriveFM_some {j : Nat} {cur : List Nat} {T : Tm} : ∀ {heads : List HdM} {i : Nat} {o : Out}, arriveFM j cur T s heads i = some o → ∃ idx h es, heads[idx]? = some h ∧ h.loop = j ∧ arrHM h cur T s = some es ∧ o = .go (i + idx) es
  | [], i, o, h => by cases h
  | h :: r, i, o, hh => by
    unfold arriveFM at hh
    split at hh
    · rename_i es he
      cases hh
      split at he
      · rename_i hj
        exact ⟨0, h, es, rfl, nbe hj, he, rfl⟩
      · cases he
    · obtain ⟨idx, h', es, h1, h2, h3, h4⟩ := arriveFM_some hh
      exact ⟨idx + 1, h', es, by simpa using h1, h2, h3, by rw [h4, show i + 1 + idx = i + (idx + 1) by omega]⟩
/-- Where the state of a head stands. -/
structure HeadM (L : List (Nat × List Value)) (tb : List (Nat × List CT)) (W : World) (I : Nat → Nat → Prop) (bs curB : List (Nat × Nat)) (h : HdM) (ds : List D) (a : Act) (w : World) (M : Mp) : Prop where
  env : M.env = envOf ds
  out : M.out = outW W I bs
  cur : (h.st.map fun tk => (M.blk tk, M.cap tk)) = curB
  all : ∀ fx, (∀ o, o ∈ h.st → o < (headS (kn fx tb) h.ents).n) ∧ Kept W I bs w (headS (kn fx tb) h.ents) M ∧
    ((∀ e, e ∈ fx → e.den (envOf ds) = .v (.bool true)) → Sim (tabsG L) 0 W w (headS (kn fx tb) h.ents) M ∧ TmR w (headS (kn fx tb) h.ents) M (initT (headA (kn fx tb) 0 0 h.ents) 0) a)
theorem arrHM_sound {L : List (Nat × List Value)} {W : World} {I : Nat → Nat → Prop} {bs curB : List (Nat × Nat)} (hG : ∀ g cs c, tabsG L g = some cs → c ∈ cs → ∃ x, c = .v x) (hs : Sim (tabsG L) 0 W w s M) (htb : s.k.tb = tb) {h : HdM} {cur : List Nat} {T : Tm} {a : Act} {es : List E} (hT : TmR w s M T a) (hle : Nat.ble h.ents.length Tr.lid = true)
    (hk : Kept W I bs w s M) (hout : M.out = outW W I bs) (hcur : (cur.map fun tk => (M.blk tk, M.cap tk)) = curB) (ha : arrHM h cur T s = some es) :
    FitE tb h.ents (E.denL M.env es) ∧ ∃ M2, HeadM L tb W I bs curB h (E.denL M.env es) a w M2 := by
  unfold arrHM at ha
  simp only at ha
  split at ha
  · rename_i hc
    rw [Bool.and_eq_true] at hc
    obtain ⟨k1, K, hK, k2, k3⟩ := arrH_full (h := h.hd) hG hs htb hT hle ha
    rw [← show keptL h.ents ((List.range T.n).map (gt T)) = keptL h.hd.ents ((List.range T.n).map (gt T)) from rfl] at hK
    rw [← hK] at hc
    refine ⟨k1, ⟨fun o => M.blk (K.getD o 0), fun o => M.cap (K.getD o 0), envOf (E.denL M.env es), M.out⟩, rfl, hout, ?_, fun fx => ?_⟩
    · rw [← hcur, ← natsEq_eq hc.1, List.map_map]; rfl
    · obtain ⟨n1, n2, n3⟩ := k3 fx
      have n1 : (headS (kn fx tb) h.ents).n = K.length := n1
      refine ⟨fun o ho => by rw [n1]; exact allLt_iff hc.2 o ho, ⟨hk.size, hk.blocks, fun b off v hcv hi => ⟨(hk.cells b off v hcv hi).1, n2 b off (hk.cells b off v hcv hi).2⟩, fun i o hi hg hl hlt => ?_⟩, n3⟩
      rw [n1] at hi
      have hki := List.getElem?_eq_getElem hi
      obtain ⟨p1, ob, p2, p3⟩ := k2 i _ hki
      have e : K.getD i 0 = K[i] := by rw [List.getD_eq_getElem?_getD, hki]; rfl
      show M.blk (K.getD i 0) ∈ _
      have hlt : M.blk (K.getD i 0) < W.heap.size := hlt
      rw [e] at hlt ⊢
      exact hk.old _ ob p1 p2 p3 hlt
  · cases ha

theorem fnOkM_tree {L : List (Nat × List Value)} {q : SigM} {pre : List D → Prop} {mu : Nat → Bool} {orc : Call} {K k fuel : Nat} (hP : NoNum P) (hmix : P.follows .mixedOrders = true) (horc : ∀ B0 w0, CallOk P (tabsG L) B0 w0 orc)
    (hn : (L.map (·.1)).Nodup) (hsc : (L.all fun x => x.2.all scalar) = true) {fn : Func} {c : Code} (hfn : P.funcs[q.f]? = some fn) (hbody : fn.body = some c) (hle : Nat.ble (q.args.length + fn.ntmps) Tr.lid = true)
    (heads : List HdM) (hlen : (heads.all fun h => Nat.ble h.ents.length Tr.lid) = true) (entry : Tree) (trees : Nat → Tree)
    (hentry : entry.ok (runEntryM P (tabsG L) mu (evCode P (tabsG L) (evDrawnX P (tabsG L)) (evFn P (tabsG L) mu (evDrawnX P (tabsG L)) K orc k) false K) tb q fn c heads fuel) [] = true)
    (htrees : ∀ j h, heads[j]? = some h → (trees j).ok (runHeadM P (tabsG L) mu (evCode P (tabsG L) (evDrawnX P (tabsG L)) (evFn P (tabsG L) mu (evDrawnX P (tabsG L)) K orc k) false K) tb q fn c heads fuel j) [] = true)
    (Inv : Nat → D → List D → Prop) (meas : Nat → List D → Nat)
    (h0 : ∀ ds, FitE tb q.args ds → pre ds → entry.holds (fun o => match o with | .ret d => d = Interp.phi q.g ds | .go j es => Inv j (Interp.phi q.g ds) es) (envOf ds))
    (hj : ∀ j h d ds, heads[j]? = some h → FitE tb h.ents ds → Inv j d ds → (trees j).holds (fun o => match o with | .ret x => x = d | .go i es => Inv i d es ∧ meas i es < meas j ds) (envOf ds)) :
    FnOkM P L tb q pre := by
  intro W I vs ds bs hL hI hargs hnd hdis hpre
  have hd : ∀ call, CallOk P (tabsG L) 0 W call → DrawnOk P (tabsG L) 0 W (evDrawnX P (tabsG L) call) := fun call hc => drawnX_sound hP hmix hc
  have hself := fn_sound (mu := mu) hP K (horc 0 W) hd k
  have hgo : Goes P (tabsG L) 0 W none (evCode P (tabsG L) (evDrawnX P (tabsG L)) (evFn P (tabsG L) mu (evDrawnX P (tabsG L)) K orc k) false K) := (code_sound hP hself (hd _ hself) (rb := false) (ro := none) (fun _ => rfl) K).1
  generalize evCode P (tabsG L) (evDrawnX P (tabsG L)) (evFn P (tabsG L) mu (evDrawnX P (tabsG L)) K orc k) false K = run at hentry htrees hgo
  have hG : ∀ g cs c, tabsG L g = some cs → c ∈ cs → ∃ x, c = .v x := fun g cs c hg hc => by
    obtain ⟨us, _, rfl⟩ := tabsG_mem hg
    unfold leaves at hc
    obtain ⟨x, _, rfl⟩ := List.mem_map.1 hc
    exact ⟨x, rfl⟩
  let d0 := Interp.phi q.g ds
  let curB : List (Nat × Nat) := q.cur.map fun o => bs.getD o (0, 0)
  let R : Ending → World → Prop := PostM tb q W I bs d0
  have hB : ∀ w' s' M', Sim (tabsG L) 0 W w' s' M' → Below 0 W w' := fun w' s' M' h => h.below
  let HI : Nat → Nat → Act → World → Prop := fun j n a w => ∃ idx h ds' M, heads[idx]? = some h ∧ h.loop = j ∧ FitE tb h.ents ds' ∧ Inv idx d0 ds' ∧ meas idx ds' = n ∧ HeadM L tb W I bs curB h ds' a w M
  have harr : ∀ {j T s o a w M cur}, Sim (tabsG L) 0 W w s M → s.k.tb = tb → M.out = outW W I bs → Kept W I bs w s M → (cur.map fun tk => (M.blk tk, M.cap tk)) = curB → TmR w s M T a → arriveFM j cur T s heads 0 = some o → ∃ idx es, o = .go idx es ∧ (Inv idx d0 (E.denL M.env es) → HI j (meas idx (E.denL M.env es)) a w) := by
    intro j T s o a w M cur hs htb ho hk hc hT h
    obtain ⟨idx, hh, es, q1, q2, q3, q4⟩ := arriveFM_some h
    rw [Nat.zero_add] at q4
    have hle := (List.all_eq_true.1 hlen) hh (List.mem_of_getElem? q1)
    obtain ⟨g1, M2, g2⟩ := arrHM_sound hG hs htb hT hle hk ho hc q3
    exact ⟨idx, es, q4, fun hi => ⟨idx, hh, E.denL M.env es, M2, q1, q2, g1, hi, rfl, g2⟩⟩
  have hloops := heads_sound (Q := bodyPostM (FW none) 0 P fn R) hgo c HI (fun j n a w b kf hjb hi => by
    obtain ⟨idx, h, ds', M, q1, rfl, q4, q5, rfl, q6⟩ := hi
    obtain ⟨fx, o, g1, g2, g3⟩ := tree_sound (htrees idx h q1) (fun e he => by cases he) (hj idx h d0 ds' q1 q4 q5)
    obtain ⟨hst, hkp, q7⟩ := q6.all fx
    obtain ⟨hs, hT⟩ := q7 g1
    have hT : TmR w (headS (kn fx tb) h.ents) M { initT (headA (kn fx tb) 0 0 h.ents) 0 with mu := (mu q.f, false) } a := ⟨hT.size, hT.get, hT.defers, hT.dlt⟩
    have hkh : ∀ fx, (headS (kn fx tb) h.ents).k = kn fx tb := fun fx => by
      have hl := (List.all_eq_true.1 hlen) h (List.mem_of_getElem? q1)
      have hl := Nat.le_of_ble_eq_true hl
      exact (newL_get (l := headO (kn fx tb) 0 h.ents) (s := st0 (kn fx tb)) (by
        have := headO_len (k := kn fx tb) (ents := h.ents) (i := 0)
        show 0 + _ ≤ _
        omega)).2.1
    unfold runHeadM at g2
    rw [q1] at g2
    simp only at g2
    rw [hjb] at g2
    simp only at g2
    cases hev : evH (tabsG L) run fuel (.inl (b, h.loop + 1)) { initT (headA (kn fx tb) 0 0 h.ents) 0 with mu := (mu q.f, false) } (headS (kn fx tb) h.ents) (.head h.loop :: kf) with
    | none => rw [hev] at g2; cases g2
    | some rs =>
      rw [hev] at g2
      refine ⟨_, _, _, fuel, rs, hs, hT, hev, ?_, ?_⟩
      · rintro ex T' s' rfl e a' w' M' j0 j1 j2 j3
        obtain ⟨r, hr, rfl⟩ := Option.map_eq_some_iff.1 g2
        have g3 : r.den (envOf ds') = d0 := g3
        have e1 : M'.env = envOf ds' := j3.keep.1.trans q6.env
        have := outRetM_sound hP hgo hr j2 hB (by rw [j3.keep.2.2, hkh]) j1 j0 (hkp.ext j3) (by rw [j3.keep.2.1]; exact q6.out) (by rw [map_pair_ext (W := W) j3 hst]; exact q6.cur) (fun o ho => Nat.lt_of_lt_of_le (hst o ho) j3.n)
        rw [e1, g3] at this
        exact this
      · rintro i T' s' hrs a' w' M' j1 j2 j3
        have ha : arriveFM i h.st T' s' heads 0 = some o := by
          rcases hrs with rfl | rfl
          · exact g2
          · exact g2
        obtain ⟨idx', es, rfl, hh⟩ := harr j2 (by rw [j3.keep.2.2, hkh]; rfl) (by rw [j3.keep.2.1]; exact q6.out) (hkp.ext j3) (by rw [map_pair_ext (W := W) j3 hst]; exact q6.cur) j1 ha
        have g3 : Inv idx' d0 (E.denL (envOf ds') es) ∧ meas idx' (E.denL (envOf ds') es) < meas idx ds' := g3
        have e1 : M'.env = envOf ds' := j3.keep.1.trans q6.env
        rw [e1] at hh
        exact ⟨_, g3.2, hh g3.1⟩)
  -- the entry
  obtain ⟨fx, o, g1, g2, g3⟩ := tree_sound hentry (fun e he => by cases he) (h0 ds hargs.fit hpre)
  have hle' := Nat.le_of_ble_eq_true hle
  obtain ⟨c1, c2, c3, c4, c5⟩ := canonM hL hI hargs hnd hdis (by omega) fx
  obtain ⟨hs, hv⟩ := c5 g1
  let M : Mp := ⟨blkL bs, capL bs, envOf ds, outW W I bs⟩
  have hkp : Kept W I bs W (headS (kn fx tb) q.args) M := ⟨Nat.le_refl _, fun _ _ _ => rfl, fun b off v hc hi => ⟨hc, c4 b off v hc hi⟩, fun i o hi hg hl hlt => by
    rw [c1] at hi
    obtain ⟨x, hx⟩ : ∃ x, bs[i]? = some x := ⟨_, List.getElem?_eq_getElem hi⟩
    show blkL bs i ∈ _
    rw [(bs_get hx).1, List.mem_map]
    exact ⟨x, List.mem_of_getElem? hx, rfl⟩⟩
  have hal : (headA (kn fx tb) 0 0 q.args).length = q.args.length := by
    rw [hv.length]
    exact (argsM_len (k2 := kn [] tb) (ve := E.var) (i := 0) hargs).2.2
  have hT := initT_sound (w := W) (s := headS (kn fx tb) q.args) (M := M) fn.ntmps (by rw [hal]; exact hle') hv
  have hT : TmR W (headS (kn fx tb) q.args) M { initT (headA (kn fx tb) 0 0 q.args) fn.ntmps with mu := (mu q.f, false) } { tmps := vs ++ Array.replicate (fn.ntmps - vs.size) undef, defers := [] } := ⟨hT.size, hT.get, hT.defers, hT.dlt⟩
  refine callsIn_of_wp_marks (R := R) hfn hbody trivial ?_
  unfold runEntryM at g2
  split at g2
  · rename_i hcl
    have hcl := allLt_iff hcl
    have hcl : ∀ o, o ∈ q.cur → o < (headS (kn fx tb) q.args).n := fun o ho => by
      rw [c1, ← (argsM_len (k2 := kn [] tb) (ve := E.var) (i := 0) hargs).2.1]; exact hcl o ho
    have hcur : (q.cur.map fun tk => (M.blk tk, M.cap tk)) = curB := rfl
    cases hev : evH (tabsG L) run fuel (.inl (c, 0)) { initT (headA (kn fx tb) 0 0 q.args) fn.ntmps with mu := (mu q.f, false) } (headS (kn fx tb) q.args) [] with
    | none => rw [hev] at g2; cases g2
    | some rs =>
      rw [hev] at g2
      have := evH_sound (hd := headsL c [] 0) (J := fun _ _ _ => True) (Q := bodyPostM (FW none) 0 P fn R) hgo fuel hev (by trivial) (fun c' m e => by cases e; exact fun i x h => by rw [Nat.zero_add]; exact h) W M _ hs hT
        (by
          rintro ex T' s' rfl e a' w' M' j0 j1 j2 j3
          obtain ⟨r, hr, rfl⟩ := Option.map_eq_some_iff.1 g2
          have g3 : r.den (envOf ds) = d0 := g3
          have e1 : M'.env = envOf ds := j3.keep.1
          have := outRetM_sound hP hgo hr j2 hB (by rw [j3.keep.2.2, c2]) j1 j0 (hkp.ext j3) (by rw [j3.keep.2.1]) (by rw [map_pair_ext (W := W) j3 hcl]) (fun o ho => Nat.lt_of_lt_of_le (hcl o ho) j3.n)
          rw [e1, g3] at this
          exact this)
        (by
          rintro i T' s' b k' rfl hib a' w' M' j1 j2 j3
          obtain ⟨idx', es, rfl, hh⟩ := harr j2 (by rw [j3.keep.2.2, c2]; rfl) (by rw [j3.keep.2.1]) (hkp.ext j3) (by rw [map_pair_ext (W := W) j3 hcl]) j1 g2
          have g3 : Inv idx' d0 (E.denL (envOf ds) es) := g3
          have e1 : M'.env = envOf ds := j3.keep.1
          rw [e1] at hh
          refine wpIn_mono (hloops _ _ (Nat.le_refl _) i b k' a' w' hib (hh g3)) fun e a1 w1 hq => ?_
          exact wpk_mono (fun _ _ _ _ => trivial) k' e a1 w1 hq)
        (by
          rintro i T' s' rfl a' w' M' j1 j2 j3
          trivial)
      exact this
  · cases g2
end
end Go.Ab
