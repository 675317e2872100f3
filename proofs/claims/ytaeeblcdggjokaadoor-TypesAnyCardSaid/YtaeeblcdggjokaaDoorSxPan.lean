/- Regions whose order is drawn, and that panic: whichever order is drawn, the first operation that acts panics. -/
import Derived.Test.YtaeeblcdggjokaaDoorSxDrawA
namespace Go.Ab
set_option linter.unusedVariables false
set_option linter.unusedSimpArgs false
set_option linter.unusedSectionVars false
set_option linter.constructorNameAsVariable false
open Go Go.RowKit

section
variable [Interp] {P : Program} {G : Nat → Option (List AV)} {call : Ab.Call} {ops : Array Oper}

theorem pure_cert {pr : Option (Nat × Nat)} (hst : Static P pr ops) {s : St} : ∀ {l : List Nat} {T Tf : Tm}, l.Pairwise (· < ·) → evPure P G call ops l T s = some Tf →
    Tf.n = T.n ∧ Tf.mu = T.mu ∧ (∀ t, (∀ j, j ∈ l → ∀ q, ops[j]? = some q → q.dst ≠ some t) → gt Tf t = gt T t) ∧
    ∀ k, k ∈ l → ∃ o x Tk, ops[k]? = some o ∧ (eff P o = false ∧ gk ops Tk o = true) ∧ Tk.mu = T.mu ∧ (Region.wanted o (yieldedA ops Tk) = true → evOp P G call o Tk s = some (x, s) ∧ isPan x = none) ∧ (Region.wanted o (yieldedA ops Tk) = false → x = und) ∧
      (∀ d, o.dst = some d → gt Tf d = x ∧ d + 1 ≤ T.n ∧ T.n ≤ Tr.lid) ∧ (∀ t, (∀ j, j ∈ l → k ≤ j → ∀ q, ops[j]? = some q → q.dst ≠ some t) → gt Tf t = gt Tk t) ∧ (∀ t, (∀ j, j ∈ l → j < k → ∀ q, ops[j]? = some q → q.dst ≠ some t) → gt Tk t = gt T t)
  | [], T, Tf, _, h => by
    simp only [evPure, Option.some.injEq] at h
    subst h
    exact ⟨rfl, rfl, fun _ _ => rfl, fun k hk => by cases hk⟩
  | i :: rest, T, Tf, hp, h => by
    rw [List.pairwise_cons] at hp
    unfold evPure at h
    split at h
    · cases h
    · rename_i o hfo
      obtain ⟨ho, hgk⟩ := fetch_some hfo
      split at h
      · cases h
      · rename_i he
        have he : eff P o = false := by simpa using he
        -- what the operation comes to
        have hx : ∃ x T1, (Region.wanted o (yieldedA ops T) = true → evOp P G call o T s = some (x, s) ∧ isPan x = none) ∧ (Region.wanted o (yieldedA ops T) = false → x = und) ∧ putT T o.dst x = some T1 ∧ evPure P G call ops rest T1 s = some Tf := by
          split at h
          · rename_i hw
            split at h
            · rename_i x s1 hx
              split at h
              · rename_i hc
                simp only [Bool.and_eq_true] at hc
                split at h
                · rename_i T1 hT1
                  have hs1 : s1 = s := by
                    have := hc.2
                    exact noneff_state (fun h => by cases h) hc.2 he hx
                  subst hs1
                  exact ⟨x, T1, fun _ => ⟨hx, by simpa using hc.1⟩, (fun h' => by rw [hw] at h'; cases h'), hT1, h⟩
                · cases h
              · cases h
            · cases h
          · rename_i hw
            split at h
            · rename_i T1 hT1
              exact ⟨und, T1, (fun h' => absurd h' hw), fun _ => rfl, hT1, h⟩
            · cases h
        obtain ⟨x, T1, hx1, hx2, hT1, hr⟩ := hx
        obtain ⟨p1, p2, p3⟩ := putT_some hT1
        obtain ⟨q1, q2, q3, q4⟩ := pure_cert hst hp.2 hr
        have hmu := (putT_rest hT1).2.2
        refine ⟨q1.trans p1, q2.trans hmu, fun t ht => ?_, fun k hk => ?_⟩
        · rw [q3 t fun j hj => ht j (List.mem_cons_of_mem _ hj), p2 t, if_neg (ht i (by simp) o ho)]
        · rw [List.mem_cons] at hk
          rcases hk with rfl | hk
          · refine ⟨o, x, T, ho, ⟨he, hgk⟩, rfl, hx1, hx2, fun d hd => ⟨?_, p3 d hd⟩, fun t ht => ?_, fun t _ => rfl⟩
            · rw [q3 d fun j hj q hq hd' => ?_, p2 d, if_pos hd]
              have := hst.dst k o d ho hd j q hq (dstIs_iff.2 hd')
              have := hp.1 j hj
              omega
            · rw [q3 t fun j hj => ht j (List.mem_cons_of_mem _ hj) (Nat.le_of_lt (hp.1 j hj)), p2 t, if_neg (ht k (by simp) (Nat.le_refl _) o ho)]
          · obtain ⟨o', x', Tk, c1, c2, c3, c4, c5, c6, c7, c8⟩ := q4 k hk
            have hik := hp.1 k hk
            refine ⟨o', x', Tk, c1, c2, c3.trans hmu, c4, c5, fun d hd => by rw [← p1]; exact c6 d hd, fun t ht => c7 t fun j hj hjk => ht j (List.mem_cons_of_mem _ hj) hjk, fun t ht => ?_⟩
            rw [c8 t fun j hj hjk => ht j (List.mem_cons_of_mem _ hj) hjk, p2 t, if_neg (ht i (by simp) hik o ho)]

/-- Whatever order is drawn: the first that acts panics. -/
theorem pan_order {pr : Option (Nat × Nat)} (hst : Static P pr ops) {i : Nat} {oi : Oper} (hi : ops[i]? = some oi) (hei : eff P oi = true) (hfirst : ∀ k o, ops[k]? = some o → eff P o = true → k ≠ i → bitOf (masks ops) k i = true)
    {l : List Nat} (hl : l.Pairwise (· < ·)) (hmem : ∀ k, k < ops.size → k ≠ i → bitOf (masks ops) k i = false → k ∈ l) (hmem' : ∀ k, k ∈ l → k ≠ i ∧ bitOf (masks ops) k i = false) {T0 Tf : Tm} {s s' : St} {x y : AV} (hrun : evPure P G call ops l T0 s = some Tf)
    (hw : Region.wanted oi (yieldedA ops Tf) = true) (hgi : gk ops Tf oi = true) (hev : evOp P G call oi Tf s = some (x, s')) (hx : isPan x = some y) :
    ∀ {L D : List Nat} {T : Tm}, Valid ops D L → (∀ i ∈ D, i < ops.size ∧ ∀ o, ops[i]? = some o → ∀ e, e ∈ o.after.toList → Region.binds .any e = true → e.on ∈ D) → i ∉ D → T.n = T0.n → T.mu = T0.mu → T.ds = T0.ds → T.dl = T0.dl →
      (∀ t, ((∃ j q, j ∈ D ∧ ops[j]? = some q ∧ q.dst = some t) ∧ gt T t = gt Tf t) ∨ (gt T t = gt T0 t ∧ ∀ i ∈ D, ∀ o, ops[i]? = some o → o.dst ≠ some t)) →
      ∃ T', evOps P G call false ops L T s = some (some y, T', s') ∧ T'.n = T0.n ∧ T'.ds = T0.ds ∧ T'.dl = T0.dl ∧ ∀ t, (∃ j q, j ∈ l ∧ ops[j]? = some q ∧ q.dst = some t ∧ gt T' t = gt Tf t) ∨ gt T' t = gt T0 t := by
  obtain ⟨f1, f2, f3, f4⟩ := pure_cert hst hl hrun
  have hisz : i < ops.size := (Array.getElem?_eq_some_iff.1 hi).1
  intro L
  induction L with
  | nil => intro D T hv _ hiD; exact absurd (hv i hisz) hiD
  | cons k rest ih =>
    intro D T hv hD hiD hn hmu hds hdl hg
    obtain ⟨hk, hnD, hdep, hv'⟩ := hv
    have ho : ops[k]? = some ops[k] := Array.getElem?_eq_getElem hk
    generalize hok : ops[k] = o at ho
    have hdone : ∀ j, bitOf (masks ops) k j = true → j ∈ D := fun j hb =>
      bit_lt_dep (fun k => k ∈ D) hst.back (fun k q hq hk e he hb => (hD k hk).2 q hq e he hb) k j hk hb (fun q hq e he hb => hdep q hq e he hb)
    have hnot : ∀ j, j ∈ D → bitOf (masks ops) j k = false := fun j hj => by
      cases hb : bitOf (masks ops) j k with
      | false => rfl
      | true => exact absurd (bit_lt_dep (fun k => k ∈ D) hst.back (fun k q hq hk e he hb => (hD k hk).2 q hq e he hb) j k (hD j hj).1 hb (fun q hq e he hb => (hD j hj).2 q hq e he hb)) hnD
    have hDl : ∀ j, j ∈ D → j ∈ l := fun j hj => hmem j (hD j hj).1 (fun e => hiD (e ▸ hj)) (by
      cases hb : bitOf (masks ops) j i with
      | false => rfl
      | true => exact absurd (bit_lt_dep (fun k => k ∈ D) hst.back (fun k q hq hk e he hb => (hD k hk).2 q hq e he hb) j i (hD j hj).1 hb (fun q hq e he hb => (hD j hj).2 q hq e he hb)) hiD)
    by_cases hki : k = i
    · subst hki
      rw [hi] at ho; cases ho
      have hread : ∀ t, t ∈ readsOf ops oi → gt T t = gt Tf t := fun t ht => by
        rcases hg t with ⟨_, h⟩ | ⟨h, hno⟩
        · exact h
        · rw [h]
          refine (f3 t fun j hj q hq he => ?_).symm
          rcases hst.read k oi hi t ht j q hq (dstIs_iff.2 he) with hb | hb | hb
          · exact hno j (hdone j hb) q hq he
          · rw [(hmem' j hj).2] at hb; cases hb
          · exact (hmem' j hj).1 hb.symm
      obtain ⟨r1, r2, r3⟩ := reads_agree (P := P) (G := G) (call := call) (s := s) (hmu.trans f2.symm) hread
      refine ⟨T, ?_, hn, hds, hdl, fun t => ?_⟩
      · unfold evOps
        rw [fetch_of hi (by rw [r3]; exact hgi)]
        simp only
        rw [r2, hw]
        simp only [if_true]
        split
        · rename_i c hop
          simp only [evOp, evOp1, evSym, hop, reduceCtorEq] at hev
        · rw [r1, hev]
          simp only [hx]
      · rcases hg t with ⟨⟨j, q, hj, hq, hd⟩, h⟩ | ⟨h, _⟩
        · exact .inl ⟨j, q, hDl j hj, hq, hd, h⟩
        · exact .inr h
    · have hbk : bitOf (masks ops) k i = false := by
        cases hb : bitOf (masks ops) k i with
        | false => rfl
        | true => exact absurd (hdone i hb) hiD
      have hkl : k ∈ l := hmem k hk hki hbk
      obtain ⟨o', xk, Tk, c1, c2, c3, c4, c5, c6, c7, c8⟩ := f4 k hkl
      rw [ho] at c1; cases c1
      have hread : ∀ t, t ∈ readsOf ops o → gt T t = gt Tk t := fun t ht => by
        rcases hg t with ⟨⟨j, q, hj, hq, hd⟩, h⟩ | ⟨h, hno⟩
        · rw [h]
          refine c7 t fun j' hj' hkj q' hq' hd' => ?_
          have : j = j' := hst.dst j q t hq hd j' q' hq' (dstIs_iff.2 hd')
          subst this
          rcases hst.read k o ho t ht j q hq (dstIs_iff.2 hd) with hb | hb | hb
          · have := bit_lt' hst ho hb; omega
          · rw [hnot j hj] at hb; cases hb
          · subst hb; exact hnD hj
        · rw [h]
          refine (c8 t fun j hj hjk q hq hd => ?_).symm
          rcases hst.read k o ho t ht j q hq (dstIs_iff.2 hd) with hb | hb | hb
          · exact hno j (hdone j hb) q hq hd
          · have := bit_lt' hst hq hb; omega
          · omega
      obtain ⟨r1, r2, r3⟩ := reads_agree (P := P) (G := G) (call := call) (s := s) (hmu.trans c3.symm) hread
      obtain ⟨T1, hp⟩ := putT_of (T := T) (d := o.dst) xk fun q hq => by
        have := (c6 q hq).2
        rw [hn]; exact this
      obtain ⟨p1, p2, _⟩ := putT_some hp
      obtain ⟨p4, p5, p6⟩ := putT_rest hp
      have hD' : ∀ j ∈ k :: D, j < ops.size ∧ ∀ q, ops[j]? = some q → ∀ e, e ∈ q.after.toList → Region.binds .any e = true → e.on ∈ k :: D := fun j hj => by
        rw [List.mem_cons] at hj
        rcases hj with rfl | hj
        · exact ⟨hk, fun q hq e he hb => List.mem_cons_of_mem _ (hdep q hq e he hb)⟩
        · exact ⟨(hD j hj).1, fun q hq e he hb => List.mem_cons_of_mem _ ((hD j hj).2 q hq e he hb)⟩
      have hg' : ∀ t, ((∃ j q, j ∈ k :: D ∧ ops[j]? = some q ∧ q.dst = some t) ∧ gt T1 t = gt Tf t) ∨ (gt T1 t = gt T0 t ∧ ∀ j ∈ k :: D, ∀ q, ops[j]? = some q → q.dst ≠ some t) := fun t => by
        rw [p2 t]
        by_cases e : o.dst = some t
        · rw [if_pos e]; exact .inl ⟨⟨k, o, by simp, ho, e⟩, ((c6 t e).1).symm⟩
        · rw [if_neg e]
          rcases hg t with ⟨⟨j, q, hj, hq, hd⟩, h⟩ | ⟨h, hno⟩
          · exact .inl ⟨⟨j, q, List.mem_cons_of_mem _ hj, hq, hd⟩, h⟩
          · refine .inr ⟨h, fun j hj q hq => ?_⟩
            rw [List.mem_cons] at hj
            rcases hj with rfl | hj
            · rw [ho] at hq; cases hq; exact e
            · exact hno j hj q hq
      obtain ⟨T', e1, e2, e3, e4, e5⟩ := ih hv' hD' (by rw [List.mem_cons, not_or]; exact ⟨fun e => hki e.symm, hiD⟩) (p1.trans hn) (p6.trans hmu) (p4.trans hds) (p5.trans hdl) hg'
      refine ⟨T', ?_, e2, e3, e4, e5⟩
      unfold evOps
      rw [fetch_of ho (by rw [r3]; exact c2.2)]
      simp only
      rw [r2]
      cases hwk : Region.wanted o (yieldedA ops Tk) with
      | true =>
        obtain ⟨g1, g2⟩ := c4 hwk
        simp only [if_true]
        split
        · rename_i c hop
          simp only [evOp, evOp1, evSym, hop, reduceCtorEq] at g1
        · rw [r1, g1]
          simp only [g2, hp]
          exact e1
      | false =>
        have := c5 hwk
        subst this
        simp only [Bool.false_eq_true, if_false, hp]
        exact e1

theorem clearT_some : ∀ {l : List Oper} {T T' : Tm}, clearT l T = some T' → T'.n = T.n ∧ T'.ds = T.ds ∧ T'.dl = T.dl ∧ T'.mu = T.mu ∧ ∀ t, (gt T' t = .any ∧ ∃ o, o ∈ l ∧ o.dst = some t) ∨ (gt T' t = gt T t ∧ ∀ o ∈ l, o.dst ≠ some t)
  | [], T, T', h => by
    simp only [clearT, Option.some.injEq] at h
    subst h
    exact ⟨rfl, rfl, rfl, rfl, fun t => .inr ⟨rfl, fun o ho => by cases ho⟩⟩
  | o :: r, T, T', h => by
    unfold clearT at h
    split at h
    · rename_i T1 h1
      obtain ⟨p1, p2, _⟩ := putT_some h1
      obtain ⟨p4, p5, p6⟩ := putT_rest h1
      obtain ⟨q1, q2, q3, q4, q5⟩ := clearT_some h
      refine ⟨q1.trans p1, q2.trans p4, q3.trans p5, q4.trans p6, fun t => ?_⟩
      rcases q5 t with ⟨e, o', ho', hd'⟩ | ⟨e, hno⟩
      · exact .inl ⟨e, o', List.mem_cons_of_mem _ ho', hd'⟩
      · rw [p2 t] at e
        by_cases ed : o.dst = some t
        · rw [if_pos ed] at e; exact .inl ⟨e, o, by simp, ed⟩
        · rw [if_neg ed] at e
          refine .inr ⟨e, fun o' ho' => ?_⟩
          rw [List.mem_cons] at ho'
          rcases ho' with rfl | ho'
          · exact ed
          · exact hno o' ho'
    · cases h

/-- A drawn region: as it ends, or panics. -/
theorem drawnX_sound {B0 : Nat} {w0 : World} (hP : NoNum P) (hmix : P.follows .mixedOrders = true) (hcall : CallOk P G B0 w0 call) : DrawnOk P G B0 w0 (evDrawnX P G call) := by
  intro ops T s p T' s' h w M a Q hs hT hq ro t
  unfold evDrawnX at h
  split at h
  · rename_i T1 s1 h1
    simp only [Option.some.injEq, Prod.mk.injEq] at h
    obtain ⟨rfl, rfl, rfl⟩ := h
    exact drawnB_sound hP hmix hcall ops T s T1 s1 h1 w M a Q hs hT (fun a' w' M' k1 k2 k3 => hq _ a' w' M' rfl k1 k2 k3) ro t
  · unfold evPan at h
    split at h
    · cases h
    · rename_i oi i hhead
      simp only at h
      split at h
      · rename_i hc
        rw [Bool.and_eq_true] at hc
        have hst := static_of hc.1
        have hmemz : (oi, i) ∈ ops.toList.zipIdx ∧ eff P oi = true := by
          have := List.mem_of_mem_head? hhead
          rw [List.mem_filter] at this
          exact this
        have hi : ops[i]? = some oi := by
          have := hmemz.1
          rw [List.mk_mem_zipIdx_iff_getElem?, Array.getElem?_toList] at this
          exact this
        have hfirst : ∀ k o, ops[k]? = some o → eff P o = true → k ≠ i → bitOf (masks ops) k i = true := fun k o ho he hne => by
          have h2 := hc.2
          rw [List.all_eq_true] at h2
          have := h2 (o, k) (by rw [List.mk_mem_zipIdx_iff_getElem?, Array.getElem?_toList]; exact ho)
          simp only [he, Bool.not_true, Bool.false_or, Bool.or_eq_true] at this
          rcases this with h3 | h3
          · exact absurd (nbe h3) hne
          · exact h3
        split at h
        · rename_i Tf hrun
          split at h
          · rename_i hw
            rw [Bool.and_eq_true] at hw
            obtain ⟨hgi, hw⟩ := hw
            split at h
            · rename_i x s1 hev
              split at h
              · rename_i y hx
                split at h
                · rename_i T2 hcl
                  simp only [Option.some.injEq, Prod.mk.injEq] at h
                  obtain ⟨rfl, rfl, rfl⟩ := h
                  rw [hmix]
                  obtain ⟨T3, e1, e2, e3, e4, e5⟩ := pan_order (T0 := { T with mu := (T.mu.1, true) }) hst hi hmemz.2 hfirst (List.Pairwise.filter _ List.pairwise_lt_range) (fun k hk hne hb => by
                      rw [List.mem_filter, List.mem_range]
                      refine ⟨hk, ?_⟩
                      rw [nbf hne, hb]; rfl) (fun k hk => by
                      rw [List.mem_filter] at hk
                      have := hk.2
                      rw [Bool.and_eq_true, Bool.not_eq_true', Bool.not_eq_true'] at this
                      exact ⟨(fun e => by rw [e, nbt] at this; cases this.1), this.2⟩) hrun hw hgi hev hx (schedule_valid hst.back t) (by simp) (by simp) rfl rfl rfl rfl (fun t => .inr ⟨rfl, fun i hi => by cases hi⟩)
                  refine ops_sound hP hcall (fun h => by cases h) e1 (sim_drew hs) (T := { T with mu := (T.mu.1, true) }) (a := a) ⟨(hT.ext ext_drew).size, (hT.ext ext_drew).get, (hT.ext ext_drew).defers, (hT.ext ext_drew).dlt⟩ fun e a' w' M' k0 k1 k2 k3 => ?_
                  obtain ⟨c1, c2, c3, c4, c5⟩ := clearT_some hcl
                  refine hq e a' w' M' k0 ⟨?_, fun t => ?_, ?_, ?_⟩ k2 (ext_drew.trans k3)
                  · rw [k1.size, e2, c1]
                  · have hg3 := k1.get t
                    rcases c5 t with ⟨e, o, ho, hd⟩ | ⟨e, hno⟩
                    · rw [e]; unfold VR; trivial
                    · rw [e]
                      rcases e5 t with ⟨j, q, hj, hq, hd, _⟩ | h4
                      · exact absurd hd (hno q (List.mem_filterMap.2 ⟨j, hj, hq⟩))
                      · have h4 : gt T3 t = gt T t := h4
                        rw [h4] at hg3; exact hg3
                  · have := k1.defers; rw [e3, e4] at this; rw [c2, c3]; exact this
                  · have := k1.dlt; rw [e3] at this; rw [c2]; exact this
                · cases h
              · cases h
            · cases h
          · cases h
        · cases h
      · cases h
end
end Go.Ab
