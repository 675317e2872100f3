/- Contracts: what Go's library brings, numbers, value.formed. -/
import Derived.Test.YtaeeblcdggjokaaDoorVkC2
import Derived.Test.YtaeeblcdggjokaaDoorShelf
namespace Go.Proofs.YtaeeblcdggjokaaDoor.Vk
open Go Go.Ab Go.RowKit
set_option maxRecDepth 100000
set_option linter.unusedVariables false
set_option linter.unusedSimpArgs false
set_option linter.unusedSectionVars false
set_option linter.constructorNameAsVariable false
theorem ok_scalar [Interp] {q : Sig} {pre : List D → Prop} {t : Ty} (hr : q.res = [.cell (.sc t)]) (h : ∀ (W : World) (vs : Array Value) (ds : List D), TabsMet tabs W → ArgsR (kn [] tb).shape (fun b off => W.cell? ⟨b, off, none⟩) (fun _ _ => True) q.args vs.toList ds → pre ds →
    Calls Tryd.prog q.f vs W fun e W' => ∃ v, e = .returned v ∧ Below W.heap.size W W' ∧ Interp.phi q.g ds = .v v ∧ tyV t v = true) : Ok q pre := by
  intro W J vs ds hL hI ha hp
  refine (callsIn_wide.2 (h W vs ds hL (ha.mono fun b off v hc _ => ⟨hc, trivial⟩) hp)).mono ?_
  rintro e W' ⟨v, rfl, hb, h1, h2⟩
  refine ⟨v, rfl, hb, ?_⟩
  rw [hr, h1]
  exact ⟨by unfold DV; exact ⟨rfl, tyV_ok h2⟩, by unfold fits; exact h2⟩
theorem arg_str {C : Nat → Nat → Option Value} {J : Nat → Nat → Prop} {v : Value} {d : D} (h : ArgR (kn [] tb).shape C J (.cell (.sc .s)) v d) : ∃ s, v = .string s ∧ d = sD s := by
  obtain ⟨h1, h2⟩ := h
  obtain ⟨s, rfl⟩ := fits_str h2
  unfold DV at h1
  exact ⟨s, h1.1, rfl⟩
theorem args_one {C : Nat → Nat → Option Value} {J : Nat → Nat → Prop} {h : Sh} {vs : Array Value} {ds : List D} (k : ArgsR (kn [] tb).shape C J [h] vs.toList ds) : ∃ v d, vs = #[v] ∧ ds = [d] ∧ ArgR (kn [] tb).shape C J h v d := by
  obtain ⟨vs⟩ := vs
  match vs, ds, k with
  | [v], [d], k => exact ⟨v, d, rfl, rfl, k.1⟩
  | [], _ :: _, k => exact k.elim
  | [], [], k => exact k.elim
  | [_], [], k => exact k.elim
  | _ :: _ :: _, [], k => exact k.elim
  | _ :: _ :: _, [_], k => exact k.2.elim
  | [_], _ :: _ :: _, k => exact k.2.elim
  | _ :: _ :: _, _ :: _ :: _, k => exact k.2.elim
theorem args_two {C : Nat → Nat → Option Value} {J : Nat → Nat → Prop} {h h' : Sh} {vs : Array Value} {ds : List D} (k : ArgsR (kn [] tb).shape C J [h, h'] vs.toList ds) : ∃ v u d e, vs = #[v, u] ∧ ds = [d, e] ∧ ArgR (kn [] tb).shape C J h v d ∧ ArgR (kn [] tb).shape C J h' u e := by
  obtain ⟨vs⟩ := vs
  cases vs with
  | nil => cases ds <;> exact k.elim
  | cons v vs =>
    cases ds with
    | nil => exact k.elim
    | cons d ds =>
      obtain ⟨k1, k⟩ := k
      cases vs with
      | nil => cases ds <;> exact k.elim
      | cons u vs =>
        cases ds with
        | nil => exact k.elim
        | cons e ds =>
          obtain ⟨k2, k⟩ := k
          cases vs with
          | nil =>
            cases ds with
            | nil => exact ⟨v, u, d, e, rfl, rfl, k1, k2⟩
            | cons _ _ => exact k.elim
          | cons _ _ => cases ds <;> exact k.elim
theorem utf_met {W : World} (h : TabsMet tabs W) : Lib.Utf8Tabs 1 2 W := by
  have e1 : ∃ us, (1, us) ∈ tabs ∧ (List.range 256).all (fun c => match us[c]? with | some v => scEq v (.int .u8 (Lib.firstT c)) | none => false) = true := by
    have k1 : (match tabs.find? (fun x => x.1 == 1) with | some x => (List.range 256).all (fun c => match x.2[c]? with | some v => scEq v (.int .u8 (Lib.firstT c)) | none => false) | none => false) = true := by kernel_rfl
    split at k1
    · rename_i x hx
      have hm := List.mem_of_find?_eq_some hx
      have hp := List.find?_some hx
      simp only [beq_iff_eq] at hp
      exact ⟨x.2, by rw [← hp]; exact hm, k1⟩
    · cases k1
  have e2 : ∃ us, (2, us) ∈ tabs ∧ (List.range 16).all (fun c => match us[2 * c]?, us[2 * c + 1]? with | some v, some u => scEq v (.int .u8 (Lib.accLo c)) && scEq u (.int .u8 (Lib.accHi c)) | _, _ => false) = true := by
    have k1 : (match tabs.find? (fun x => x.1 == 2) with | some x => (List.range 16).all (fun c => match x.2[2 * c]?, x.2[2 * c + 1]? with | some v, some u => scEq v (.int .u8 (Lib.accLo c)) && scEq u (.int .u8 (Lib.accHi c)) | _, _ => false) | none => false) = true := by kernel_rfl
    split at k1
    · rename_i x hx
      have hm := List.mem_of_find?_eq_some hx
      have hp := List.find?_some hx
      simp only [beq_iff_eq] at hp
      exact ⟨x.2, by rw [← hp]; exact hm, k1⟩
    · cases k1
  obtain ⟨us, m1, k1⟩ := e1
  obtain ⟨ws, m2, k2⟩ := e2
  refine ⟨fun c hc => ?_, fun i hi => ?_⟩
  · have := List.all_eq_true.1 k1 c (List.mem_range.2 hc)
    split at this
    · rename_i v hv
      have := scEq_eq this
      subst this
      have := (h _ us m1).2 c _ hv
      rwa [Nat.zero_add] at this
    · cases this
  · have := List.all_eq_true.1 k2 i (List.mem_range.2 hi)
    split at this
    · rename_i v u hv hu
      rw [Bool.and_eq_true] at this
      have e1 := scEq_eq this.1
      have e2 := scEq_eq this.2
      subst e1 e2
      have g1 := (h _ ws m2).2 _ _ hv
      have g2 := (h _ ws m2).2 _ _ hu
      rw [Nat.zero_add] at g1 g2
      exact ⟨g1, g2⟩
    · cases this
theorem valid_ok (n : Nat) : @Ok (I n) q_valid (okD n) := by
  letI := I n
  refine ok_scalar (t := .b) rfl fun W vs ds hL ha hp => ?_
  obtain ⟨v, d, rfl, rfl, h1⟩ := args_one ha
  · obtain ⟨s, rfl, rfl⟩ := arg_str h1
    have hs := lim_sD.1 (okD_one.1 hp).2
    have hs : s.size ≤ 140737488355328 := hs
    refine (Tryd.utf8_ValidString s W (by omega) (utf_met hL)).mono ?_
    rintro e W' ⟨rfl, hb⟩
    exact ⟨_, rfl, hb, phi_valid n s, rfl⟩
theorem trim_ok (n : Nat) : @Ok (I n) q_trim (okD n) := by
  letI := I n
  refine ok_scalar (t := .s) rfl fun W vs ds hL ha hp => ?_
  obtain ⟨v, u, d, e, rfl, rfl, h1, h2, h3⟩ := args_two ha
  · obtain ⟨s, rfl, rfl⟩ := arg_str h1
    subst h2 h3
    have hs := lim_sD.1 (okD_two.1 hp).2.1
    have hs : s.size ≤ 140737488355328 := hs
    refine (Tryd.strings_Trim_laid s tenDigits W (by omega) (by decide) (fun j b hj => ?_)).mono ?_
    · have : (tenDigits.data.toList.all fun b => decide (b.toNat < 128)) = true := by decide
      have := List.all_eq_true.1 this b (List.mem_of_getElem? hj)
      simpa using this
    · rintro e W' ⟨rfl, hb⟩
      exact ⟨_, rfl, hb, phi_trim n s tenDigits, rfl⟩
/-- calamus/num.Check: func 61, params [37], ntmps 37. -/
def heads_numcheck : List Hd := []
def entry_numcheck : Tree :=
  (.ite (.pr .and [(.pr (.bcmp .eql) [(.pr (.cell 0) [(.var 0)]), (.lit (.bool false))]), (.pr (.scmp .eql) [(.pr (.cell 1) [(.var 0)]), (.lit (.string (mkS [48])))]), (.pr (.icmp .eql) [(.pr (.cell 2) [(.var 0)]), (.lit (.int .i64 0))])])
    (.leaf (.ret (.lit (.int .i64 0))))
    (.ite (.pr (.scmp .neq) [(.pr (.cell 1) [(.var 0)]), (.lit (.string .empty))])
      (.giv (.app 1000 [(.pr (.cell 1) [(.var 0)]), (.lit (.string (mkS [48, 49, 50, 51, 52, 53, 54, 55, 56, 57])))])
        (.ite (.pr (.scmp .eql) [(.app 6 [(.pr (.cell 1) [(.var 0)]), (.lit (.string (mkS [48, 49, 50, 51, 52, 53, 54, 55, 56, 57])))]), (.lit (.string .empty))])
          (.ite (.pr (.icmp .gtr) [(.pr .slen [(.pr (.cell 1) [(.var 0)])]), (.lit (.int .i64 40))])
            (.leaf (.ret (.lit (.int .i64 10))))
            (.giv (.pr (.icmp .lss) [(.lit (.int .i64 0)), (.pr .slen [(.pr (.cell 1) [(.var 0)])])])
              (.ite (.pr (.icmp .eql) [(.pr .sat [(.pr (.cell 1) [(.var 0)]), (.lit (.int .i64 0))]), (.lit (.int .u8 48))])
                (.leaf (.ret (.lit (.int .i64 10))))
                (.ite (.pr (.icmp .geq) [(.pr .slen [(.pr (.cell 1) [(.var 0)])]), (.lit (.int .i64 1))])
                  (.giv (.pr (.icmp .leq) [(.lit (.int .i64 0)), (.pr (.iop .sub .i64) [(.pr .slen [(.pr (.cell 1) [(.var 0)])]), (.lit (.int .i64 1))])])
                    (.giv (.pr (.icmp .leq) [(.pr (.iop .sub .i64) [(.pr .slen [(.pr (.cell 1) [(.var 0)])]), (.lit (.int .i64 1))]), (.pr .slen [(.pr (.cell 1) [(.var 0)])])])
                      (.ite (.pr (.scmp .eql) [(.pr .ssub [(.pr (.cell 1) [(.var 0)]), (.pr (.iop .sub .i64) [(.pr .slen [(.pr (.cell 1) [(.var 0)])]), (.lit (.int .i64 1))]), (.pr .slen [(.pr (.cell 1) [(.var 0)])])]), (.lit (.string (mkS [48])))])
                        (.leaf (.ret (.lit (.int .i64 10))))
                        (.ite (.pr (.icmp .lss) [(.pr (.cell 2) [(.var 0)]), (.lit (.int .i64 (-400)))])
                          (.leaf (.ret (.lit (.int .i64 10))))
                          (.ite (.pr (.icmp .gtr) [(.pr (.cell 2) [(.var 0)]), (.lit (.int .i64 400))])
                            (.leaf (.ret (.lit (.int .i64 10))))
                            (.leaf (.ret (.lit (.int .i64 0)))))))))
                  (.ite (.pr (.icmp .lss) [(.pr (.cell 2) [(.var 0)]), (.lit (.int .i64 (-400)))])
                    (.leaf (.ret (.lit (.int .i64 10))))
                    (.ite (.pr (.icmp .gtr) [(.pr (.cell 2) [(.var 0)]), (.lit (.int .i64 400))])
                      (.leaf (.ret (.lit (.int .i64 10))))
                      (.leaf (.ret (.lit (.int .i64 0))))))))))
          (.leaf (.ret (.lit (.int .i64 10))))))
      (.leaf (.ret (.lit (.int .i64 10))))))
def trees_numcheck : List Tree := []
noncomputable def deps_numcheck : List Sig := [q_trim]
theorem ok_numcheck : check q_numcheck deps_numcheck heads_numcheck entry_numcheck trees_numcheck = true := by kernel_rfl
theorem size_zero {d : ByteArray} : d.size = 0 ↔ d = ByteArray.empty := by
  constructor
  · intro h
    exact ByteArray.ext (Array.eq_empty_of_size_eq_zero h)
  · intro h; rw [h]; rfl
theorem numcheck_ok (n : Nat) : @Ok (I n) q_numcheck (okD n) := by
  letI := I n
  refine fn_ok (hphi n) ok_numcheck (by
    intro q hq
    simp only [deps_numcheck, List.mem_singleton] at hq
    subst hq
    exact trim_ok n) (fun _ _ _ => False) (fun _ _ => 0) ?_ (fun j h t d ds hj => by simp [heads_numcheck] at hj)
  intro ds hf hp
  obtain ⟨a, b, c, rfl⟩ := one_num hf
  have hb : okD n [sD b, sD tenDigits] := by
    rw [okD_one, sz_row] at hp
    simp only [D.szL, D.sz, D.Lim, D.LimL, and_true, true_and] at hp
    exact okD_two.2 ⟨by rw [sz_sD, sz_sD]; omega, lim_sD.2 hp.2, lim_sD.2 (by decide)⟩
  have hs : b.size ≤ 140737488355328 := lim_sD.1 (okD_two.1 hb).2.1
  have hz := @size_zero b
  have hw : 0 < b.size → IntKind.i64.wrap ((b.size : Int) - 1) = ((b.size - 1 : Nat) : Int) := fun h => by rw [wrap_id (by omega) (by omega)]; omega
  simp only [entry_numcheck, q_numcheck, Tree.holds, Out.den, E.den, E.denL, den1, den2, den3, den4, den5, den6, den7, den8, Bool.not_eq_true', Bool.not_eq_false', List.getD_cons_zero, List.getD_cons_succ, true_and, and_true, List.length_map, phi_1000, phi_trim, phi_numcheck, row_at0, row_at1, row_at2, List.all_cons, List.all_nil, Bool.and_true, Bool.and_eq_true, Bool.and_eq_false_iff, beq_iff_eq]
  unfold numV
  have ht : (mkS [48, 49, 50, 51, 52, 53, 54, 55, 56, 57]) = tenDigits := rfl
  have ho : (mkS [48]) = one := rfl
  simp only [ht, ho, Int.toNat_natCast, Int.toNat_zero]
  by_cases hb0 : b = .empty
  · subst hb0
    grind
  · have hb1 : 0 < b.size := by
      rcases Nat.eq_zero_or_pos b.size with h | h
      · exact absurd (hz.1 h) hb0
      · exact h
    rw [hw hb1]
    simp only [Int.toNat_natCast]
    grind
/-- calamus/value.formed: func 41, params [41], ntmps 103. -/
def heads_formed : List Hd := []
def entry_formed : Tree :=
  (.ite (.pr (.icmp .eql) [(.pr (.cell 0) [(.var 0)]), (.lit (.int .i64 1))])
    (.ite (.pr (.cell 1) [(.var 0)])
      (.leaf (.ret (.lit (.bool false))))
      (.ite (.pr .and [(.pr (.bcmp .eql) [(.pr (.cell 2) [(.var 0)]), (.lit (.bool false))]), (.pr (.scmp .eql) [(.pr (.cell 3) [(.var 0)]), (.lit (.string .empty))]), (.pr (.icmp .eql) [(.pr (.cell 4) [(.var 0)]), (.lit (.int .i64 0))])])
        (.ite (.pr (.icmp .neq) [(.pr (.cell 5) [(.var 0)]), (.lit (.int .u64 0))])
          (.leaf (.ret (.lit (.bool false))))
          (.ite (.pr (.scmp .neq) [(.pr (.cell 6) [(.var 0)]), (.lit (.string .empty))])
            (.leaf (.ret (.lit (.bool false))))
            (.ite (.pr (.icmp .gtr) [(.pr .len [(.pr (.cell 7) [(.var 0)])]), (.lit (.int .i64 0))])
              (.leaf (.ret (.lit (.bool false))))
              (.ite (.pr (.icmp .gtr) [(.pr .len [(.pr (.cell 8) [(.var 0)])]), (.lit (.int .i64 0))])
                (.leaf (.ret (.lit (.bool false))))
                (.giv (.app 1000 [(.pr (.cell 8) [(.var 0)]), (.pr .row [])])
                  (.leaf (.ret (.pr .not [(.pr (.icmp .geq) [(.app 3 [(.pr (.cell 8) [(.var 0)]), (.pr .row [])]), (.lit (.int .i64 0))])]))))))))
        (.leaf (.ret (.lit (.bool false))))))
    (.ite (.pr (.icmp .eql) [(.pr (.cell 0) [(.var 0)]), (.lit (.int .i64 2))])
      (.ite (.pr .and [(.pr (.bcmp .eql) [(.pr (.cell 2) [(.var 0)]), (.lit (.bool false))]), (.pr (.scmp .eql) [(.pr (.cell 3) [(.var 0)]), (.lit (.string .empty))]), (.pr (.icmp .eql) [(.pr (.cell 4) [(.var 0)]), (.lit (.int .i64 0))])])
        (.ite (.pr (.icmp .neq) [(.pr (.cell 5) [(.var 0)]), (.lit (.int .u64 0))])
          (.leaf (.ret (.lit (.bool false))))
          (.ite (.pr (.scmp .neq) [(.pr (.cell 6) [(.var 0)]), (.lit (.string .empty))])
            (.leaf (.ret (.lit (.bool false))))
            (.ite (.pr (.icmp .gtr) [(.pr .len [(.pr (.cell 7) [(.var 0)])]), (.lit (.int .i64 0))])
              (.leaf (.ret (.lit (.bool false))))
              (.ite (.pr (.icmp .gtr) [(.pr .len [(.pr (.cell 8) [(.var 0)])]), (.lit (.int .i64 0))])
                (.leaf (.ret (.lit (.bool false))))
                (.giv (.app 1000 [(.pr (.cell 8) [(.var 0)]), (.pr .row [])])
                  (.leaf (.ret (.pr .not [(.pr (.icmp .geq) [(.app 3 [(.pr (.cell 8) [(.var 0)]), (.pr .row [])]), (.lit (.int .i64 0))])]))))))))
        (.leaf (.ret (.lit (.bool false)))))
      (.ite (.pr (.icmp .eql) [(.pr (.cell 0) [(.var 0)]), (.lit (.int .i64 3))])
        (.giv (.app 1000 [(.pr .row [(.pr (.cell 2) [(.var 0)]), (.pr (.cell 3) [(.var 0)]), (.pr (.cell 4) [(.var 0)])])])
          (.ite (.pr (.icmp .eql) [(.app 5 [(.pr .row [(.pr (.cell 2) [(.var 0)]), (.pr (.cell 3) [(.var 0)]), (.pr (.cell 4) [(.var 0)])])]), (.lit (.int .i64 0))])
            (.ite (.pr (.cell 1) [(.var 0)])
              (.leaf (.ret (.lit (.bool false))))
              (.ite (.pr (.icmp .neq) [(.pr (.cell 5) [(.var 0)]), (.lit (.int .u64 0))])
                (.leaf (.ret (.lit (.bool false))))
                (.ite (.pr (.scmp .neq) [(.pr (.cell 6) [(.var 0)]), (.lit (.string .empty))])
                  (.leaf (.ret (.lit (.bool false))))
                  (.ite (.pr (.icmp .gtr) [(.pr .len [(.pr (.cell 7) [(.var 0)])]), (.lit (.int .i64 0))])
                    (.leaf (.ret (.lit (.bool false))))
                    (.ite (.pr (.icmp .gtr) [(.pr .len [(.pr (.cell 8) [(.var 0)])]), (.lit (.int .i64 0))])
                      (.leaf (.ret (.lit (.bool false))))
                      (.giv (.app 1000 [(.pr (.cell 8) [(.var 0)]), (.pr .row [])])
                        (.leaf (.ret (.pr .not [(.pr (.icmp .geq) [(.app 3 [(.pr (.cell 8) [(.var 0)]), (.pr .row [])]), (.lit (.int .i64 0))])])))))))))
            (.leaf (.ret (.lit (.bool false))))))
        (.ite (.pr (.icmp .eql) [(.pr (.cell 0) [(.var 0)]), (.lit (.int .i64 4))])
          (.ite (.pr (.cell 1) [(.var 0)])
            (.leaf (.ret (.lit (.bool false))))
            (.ite (.pr .and [(.pr (.bcmp .eql) [(.pr (.cell 2) [(.var 0)]), (.lit (.bool false))]), (.pr (.scmp .eql) [(.pr (.cell 3) [(.var 0)]), (.lit (.string .empty))]), (.pr (.icmp .eql) [(.pr (.cell 4) [(.var 0)]), (.lit (.int .i64 0))])])
              (.ite (.pr (.scmp .neq) [(.pr (.cell 6) [(.var 0)]), (.lit (.string .empty))])
                (.leaf (.ret (.lit (.bool false))))
                (.ite (.pr (.icmp .gtr) [(.pr .len [(.pr (.cell 7) [(.var 0)])]), (.lit (.int .i64 0))])
                  (.leaf (.ret (.lit (.bool false))))
                  (.ite (.pr (.icmp .gtr) [(.pr .len [(.pr (.cell 8) [(.var 0)])]), (.lit (.int .i64 0))])
                    (.leaf (.ret (.lit (.bool false))))
                    (.giv (.app 1000 [(.pr (.cell 8) [(.var 0)]), (.pr .row [])])
                      (.leaf (.ret (.pr .not [(.pr (.icmp .geq) [(.app 3 [(.pr (.cell 8) [(.var 0)]), (.pr .row [])]), (.lit (.int .i64 0))])])))))))
              (.leaf (.ret (.lit (.bool false))))))
          (.ite (.pr (.icmp .eql) [(.pr (.cell 0) [(.var 0)]), (.lit (.int .i64 5))])
            (.giv (.app 1000 [(.pr (.cell 6) [(.var 0)])])
              (.ite (.app 7 [(.pr (.cell 6) [(.var 0)])])
                (.ite (.pr (.cell 1) [(.var 0)])
                  (.leaf (.ret (.lit (.bool false))))
                  (.ite (.pr .and [(.pr (.bcmp .eql) [(.pr (.cell 2) [(.var 0)]), (.lit (.bool false))]), (.pr (.scmp .eql) [(.pr (.cell 3) [(.var 0)]), (.lit (.string .empty))]), (.pr (.icmp .eql) [(.pr (.cell 4) [(.var 0)]), (.lit (.int .i64 0))])])
                    (.ite (.pr (.icmp .neq) [(.pr (.cell 5) [(.var 0)]), (.lit (.int .u64 0))])
                      (.leaf (.ret (.lit (.bool false))))
                      (.ite (.pr (.icmp .gtr) [(.pr .len [(.pr (.cell 7) [(.var 0)])]), (.lit (.int .i64 0))])
                        (.leaf (.ret (.lit (.bool false))))
                        (.ite (.pr (.icmp .gtr) [(.pr .len [(.pr (.cell 8) [(.var 0)])]), (.lit (.int .i64 0))])
                          (.leaf (.ret (.lit (.bool false))))
                          (.giv (.app 1000 [(.pr (.cell 8) [(.var 0)]), (.pr .row [])])
                            (.leaf (.ret (.pr .not [(.pr (.icmp .geq) [(.app 3 [(.pr (.cell 8) [(.var 0)]), (.pr .row [])]), (.lit (.int .i64 0))])])))))))
                    (.leaf (.ret (.lit (.bool false))))))
                (.leaf (.ret (.lit (.bool false))))))
            (.ite (.pr (.icmp .eql) [(.pr (.cell 0) [(.var 0)]), (.lit (.int .i64 6))])
              (.ite (.pr (.cell 1) [(.var 0)])
                (.leaf (.ret (.lit (.bool false))))
                (.ite (.pr .and [(.pr (.bcmp .eql) [(.pr (.cell 2) [(.var 0)]), (.lit (.bool false))]), (.pr (.scmp .eql) [(.pr (.cell 3) [(.var 0)]), (.lit (.string .empty))]), (.pr (.icmp .eql) [(.pr (.cell 4) [(.var 0)]), (.lit (.int .i64 0))])])
                  (.ite (.pr (.icmp .neq) [(.pr (.cell 5) [(.var 0)]), (.lit (.int .u64 0))])
                    (.leaf (.ret (.lit (.bool false))))
                    (.ite (.pr (.icmp .gtr) [(.pr .len [(.pr (.cell 7) [(.var 0)])]), (.lit (.int .i64 0))])
                      (.leaf (.ret (.lit (.bool false))))
                      (.ite (.pr (.icmp .gtr) [(.pr .len [(.pr (.cell 8) [(.var 0)])]), (.lit (.int .i64 0))])
                        (.leaf (.ret (.lit (.bool false))))
                        (.giv (.app 1000 [(.pr (.cell 8) [(.var 0)]), (.pr .row [])])
                          (.leaf (.ret (.pr .not [(.pr (.icmp .geq) [(.app 3 [(.pr (.cell 8) [(.var 0)]), (.pr .row [])]), (.lit (.int .i64 0))])])))))))
                  (.leaf (.ret (.lit (.bool false))))))
              (.ite (.pr (.icmp .eql) [(.pr (.cell 0) [(.var 0)]), (.lit (.int .i64 7))])
                (.ite (.pr (.cell 1) [(.var 0)])
                  (.leaf (.ret (.lit (.bool false))))
                  (.ite (.pr .and [(.pr (.bcmp .eql) [(.pr (.cell 2) [(.var 0)]), (.lit (.bool false))]), (.pr (.scmp .eql) [(.pr (.cell 3) [(.var 0)]), (.lit (.string .empty))]), (.pr (.icmp .eql) [(.pr (.cell 4) [(.var 0)]), (.lit (.int .i64 0))])])
                    (.ite (.pr (.icmp .neq) [(.pr (.cell 5) [(.var 0)]), (.lit (.int .u64 0))])
                      (.leaf (.ret (.lit (.bool false))))
                      (.ite (.pr (.scmp .neq) [(.pr (.cell 6) [(.var 0)]), (.lit (.string .empty))])
                        (.leaf (.ret (.lit (.bool false))))
                        (.ite (.pr (.icmp .gtr) [(.pr .len [(.pr (.cell 7) [(.var 0)])]), (.lit (.int .i64 0))])
                          (.leaf (.ret (.lit (.bool false))))
                          (.giv (.app 1000 [(.pr (.cell 8) [(.var 0)]), (.pr .row [])])
                            (.leaf (.ret (.pr .not [(.pr (.icmp .geq) [(.app 3 [(.pr (.cell 8) [(.var 0)]), (.pr .row [])]), (.lit (.int .i64 0))])])))))))
                    (.leaf (.ret (.lit (.bool false))))))
                (.ite (.pr (.icmp .eql) [(.pr (.cell 0) [(.var 0)]), (.lit (.int .i64 8))])
                  (.ite (.pr (.icmp .eql) [(.pr .len [(.pr (.cell 7) [(.var 0)])]), (.pr .len [(.pr (.cell 8) [(.var 0)])])])
                    (.giv (.app 1000 [(.pr (.cell 7) [(.var 0)])])
                      (.ite (.app 4 [(.pr (.cell 7) [(.var 0)])])
                        (.ite (.pr (.cell 1) [(.var 0)])
                          (.leaf (.ret (.lit (.bool false))))
                          (.ite (.pr .and [(.pr (.bcmp .eql) [(.pr (.cell 2) [(.var 0)]), (.lit (.bool false))]), (.pr (.scmp .eql) [(.pr (.cell 3) [(.var 0)]), (.lit (.string .empty))]), (.pr (.icmp .eql) [(.pr (.cell 4) [(.var 0)]), (.lit (.int .i64 0))])])
                            (.ite (.pr (.icmp .neq) [(.pr (.cell 5) [(.var 0)]), (.lit (.int .u64 0))])
                              (.leaf (.ret (.lit (.bool false))))
                              (.ite (.pr (.scmp .neq) [(.pr (.cell 6) [(.var 0)]), (.lit (.string .empty))])
                                (.leaf (.ret (.lit (.bool false))))
                                (.giv (.app 1000 [(.pr (.cell 8) [(.var 0)]), (.pr .row [])])
                                  (.leaf (.ret (.pr .not [(.pr (.icmp .geq) [(.app 3 [(.pr (.cell 8) [(.var 0)]), (.pr .row [])]), (.lit (.int .i64 0))])]))))))
                            (.leaf (.ret (.lit (.bool false))))))
                        (.leaf (.ret (.lit (.bool false))))))
                    (.leaf (.ret (.lit (.bool false)))))
                  (.ite (.pr (.icmp .eql) [(.pr (.cell 0) [(.var 0)]), (.lit (.int .i64 9))])
                    (.ite (.pr (.icmp .eql) [(.pr .len [(.pr (.cell 8) [(.var 0)])]), (.lit (.int .i64 1))])
                      (.giv (.app 1000 [(.pr (.cell 6) [(.var 0)])])
                        (.ite (.app 7 [(.pr (.cell 6) [(.var 0)])])
                          (.ite (.pr (.cell 1) [(.var 0)])
                            (.leaf (.ret (.lit (.bool false))))
                            (.ite (.pr .and [(.pr (.bcmp .eql) [(.pr (.cell 2) [(.var 0)]), (.lit (.bool false))]), (.pr (.scmp .eql) [(.pr (.cell 3) [(.var 0)]), (.lit (.string .empty))]), (.pr (.icmp .eql) [(.pr (.cell 4) [(.var 0)]), (.lit (.int .i64 0))])])
                              (.ite (.pr (.icmp .neq) [(.pr (.cell 5) [(.var 0)]), (.lit (.int .u64 0))])
                                (.leaf (.ret (.lit (.bool false))))
                                (.ite (.pr (.icmp .gtr) [(.pr .len [(.pr (.cell 7) [(.var 0)])]), (.lit (.int .i64 0))])
                                  (.leaf (.ret (.lit (.bool false))))
                                  (.giv (.app 1000 [(.pr (.cell 8) [(.var 0)]), (.pr .row [])])
                                    (.leaf (.ret (.pr .not [(.pr (.icmp .geq) [(.app 3 [(.pr (.cell 8) [(.var 0)]), (.pr .row [])]), (.lit (.int .i64 0))])]))))))
                              (.leaf (.ret (.lit (.bool false))))))
                          (.leaf (.ret (.lit (.bool false))))))
                      (.leaf (.ret (.lit (.bool false)))))
                    (.leaf (.ret (.lit (.bool false)))))))))))))
def trees_formed : List Tree := []
noncomputable def deps_formed : List Sig := [q_ixformed, q_numcheck, q_names, q_valid]
theorem ok_formed : check q_formed deps_formed heads_formed entry_formed trees_formed = true := by kernel_rfl
theorem formed_step (n : Nat) (ih : @Ok (I n) q_formed (okD n)) : @Ok (I n) q_formed (okD (n + 1)) := by
  letI := I n
  refine fn_ok (hphi n) ok_formed (by
    intro q hq
    simp only [deps_formed, List.mem_cons, List.not_mem_nil, or_false] at hq
    rcases hq with rfl | rfl | rfl | rfl
    · exact ixformed_ok n ih
    · exact numcheck_ok n
    · exact names_ok n (valid_ok n)
    · exact valid_ok n) (fun _ _ _ => False) (fun _ _ => 0) ?_ (fun j h t d ds hj => by simp [heads_formed] at hj)
  intro ds hf hp
  obtain ⟨v, rfl⟩ := one_val hf
  obtain ⟨h1, h2, h3, h4, h5, _⟩ := okD_parts hp
  simp only [entry_formed, q_formed, Tree.holds, Out.den, E.den, E.denL, den1, den2, den3, den4, den5, den6, den7, den8, Bool.not_eq_true', Bool.not_eq_false', List.getD_cons_zero, List.getD_cons_succ, true_and, and_true, List.length_map, phi_1000, phi_ixformed, phi_numcheck, phi_names, phi_valid, phi_formed, h1, h2, h3, h4, h5, List.all_cons, List.all_nil, Bool.and_true, Bool.and_eq_true, Bool.and_eq_false_iff, beq_iff_eq]
  cases v with
  | mk k f ng d e b t ns l =>
    obtain ⟨k1, k2, k3, k4, k5, k6, k7, k8, k9, k0⟩ := formedV_iff k f ng d e b t ns l
    simp only [Val.kind, Val.text, Val.names, Val.list, Val.flag, Val.neg, Val.dig, Val.exp, Val.bits, bD_inj]
    generalize formedV (.mk k f ng d e b t ns l) = F at *
    have hl0 : l.length = 0 → formedL l 0 = -1 := fun h => by rw [List.length_eq_zero_iff.1 h]; exact formedL_nil
    generalize formedL l 0 = fl at *
    have hle : (!leI 0 fl) = true ↔ fl < 0 := by rw [Bool.not_eq_true', leI_f]; omega
    generalize (!leI 0 fl) = nl at *
    clear hf hp h1 h2 h3 h4 h5 ih
    by_cases e1 : k = 1
    · have := k1 e1; clear k1 k2 k3 k4 k5 k6 k7 k8 k9 k0; subst e1; grind
    by_cases e2 : k = 2
    · have := k2 e2; clear k1 k2 k3 k4 k5 k6 k7 k8 k9 k0; subst e2; grind
    by_cases e3 : k = 3
    · have := k3 e3; clear k1 k2 k3 k4 k5 k6 k7 k8 k9 k0; subst e3; grind
    by_cases e4 : k = 4
    · have := k4 e4; clear k1 k2 k3 k4 k5 k6 k7 k8 k9 k0; subst e4; grind
    by_cases e5 : k = 5
    · have := k5 e5; clear k1 k2 k3 k4 k5 k6 k7 k8 k9 k0; subst e5; grind
    by_cases e6 : k = 6
    · have := k6 e6; clear k1 k2 k3 k4 k5 k6 k7 k8 k9 k0; subst e6; grind
    by_cases e7 : k = 7
    · have := k7 e7; clear k1 k2 k3 k4 k5 k6 k7 k8 k9 k0; subst e7; grind
    by_cases e8 : k = 8
    · have := k8 e8; clear k1 k2 k3 k4 k5 k6 k7 k8 k9 k0; subst e8; grind
    by_cases e9 : k = 9
    · have := k9 e9; clear k1 k2 k3 k4 k5 k6 k7 k8 k9 k0; subst e9; grind
    have := k0 e1 e2 e3 e4 e5 e6 e7 e8 e9
    clear k1 k2 k3 k4 k5 k6 k7 k8 k9 k0; grind
theorem formed_ok : ∀ (n : Nat), @Ok (I n) q_formed (okD n)
  | 0 => ok_zero
  | n + 1 => ok_irrel (by decide) (formed_step n (formed_ok n))
/-- calamus/value.Check: func 23, params [41], ntmps 21. -/
def heads_check : List Hd := []
def entry_check : Tree :=
  (.giv (.app 1000 [(.pr .row [(.pr (.cell 0) [(.var 0)]), (.pr (.cell 1) [(.var 0)]), (.pr (.cell 2) [(.var 0)]), (.pr (.cell 3) [(.var 0)]), (.pr (.cell 4) [(.var 0)]), (.pr (.cell 5) [(.var 0)]), (.pr (.cell 6) [(.var 0)]), (.pr (.cell 7) [(.var 0)]), (.pr (.cell 8) [(.var 0)])])])
    (.ite (.app 2 [(.pr .row [(.pr (.cell 0) [(.var 0)]), (.pr (.cell 1) [(.var 0)]), (.pr (.cell 2) [(.var 0)]), (.pr (.cell 3) [(.var 0)]), (.pr (.cell 4) [(.var 0)]), (.pr (.cell 5) [(.var 0)]), (.pr (.cell 6) [(.var 0)]), (.pr (.cell 7) [(.var 0)]), (.pr (.cell 8) [(.var 0)])])])
      (.ite (.app 8 [(.pr .row [(.pr (.cell 0) [(.var 0)]), (.pr (.cell 1) [(.var 0)]), (.pr (.cell 2) [(.var 0)]), (.pr (.cell 3) [(.var 0)]), (.pr (.cell 4) [(.var 0)]), (.pr (.cell 5) [(.var 0)]), (.pr (.cell 6) [(.var 0)]), (.pr (.cell 7) [(.var 0)]), (.pr (.cell 8) [(.var 0)])])])
        (.ite (.pr (.icmp .gtr) [(.app 0 [(.pr .row [(.pr (.cell 0) [(.var 0)]), (.pr (.cell 1) [(.var 0)]), (.pr (.cell 2) [(.var 0)]), (.pr (.cell 3) [(.var 0)]), (.pr (.cell 4) [(.var 0)]), (.pr (.cell 5) [(.var 0)]), (.pr (.cell 6) [(.var 0)]), (.pr (.cell 7) [(.var 0)]), (.pr (.cell 8) [(.var 0)])])]), (.lit (.int .i64 16))])
          (.leaf (.ret (.lit (.int .i64 2))))
          (.ite (.pr (.icmp .gtr) [(.app 1 [(.pr .row [(.pr (.cell 0) [(.var 0)]), (.pr (.cell 1) [(.var 0)]), (.pr (.cell 2) [(.var 0)]), (.pr (.cell 3) [(.var 0)]), (.pr (.cell 4) [(.var 0)]), (.pr (.cell 5) [(.var 0)]), (.pr (.cell 6) [(.var 0)]), (.pr (.cell 7) [(.var 0)]), (.pr (.cell 8) [(.var 0)])])]), (.lit (.int .i64 4096))])
            (.leaf (.ret (.lit (.int .i64 2))))
            (.leaf (.ret (.lit (.int .i64 0))))))
        (.leaf (.ret (.lit (.int .i64 2)))))
      (.leaf (.ret (.lit (.int .i64 40))))))
def trees_check : List Tree := []
noncomputable def deps_check : List Sig := [q_depth, q_size, q_formed, q_short]
theorem ok_check : check q_check deps_check heads_check entry_check trees_check = true := by kernel_rfl
theorem check_ok (n : Nat) : @Ok (I n) q_check (okD n) := by
  letI := I n
  refine fn_ok (hphi n) ok_check (by
    intro q hq
    simp only [deps_check, List.mem_cons, List.not_mem_nil, or_false] at hq
    rcases hq with rfl | rfl | rfl | rfl
    · exact depth_ok n
    · exact size_ok n
    · exact formed_ok n
    · exact short_ok n) (fun _ _ _ => False) (fun _ _ => 0) ?_ (fun j h t d ds hj => by simp [heads_check] at hj)
  intro ds hf hp
  obtain ⟨v, rfl⟩ := one_val hf
  simp only [entry_check, q_check, Tree.holds, Out.den, E.den, E.denL, den1, den2, den3, den4, den5, den6, den7, den8, Bool.not_eq_true', Bool.not_eq_false', List.getD_cons_zero, List.getD_cons_succ, true_and, and_true, List.length_map, phi_1000, phi_depth, phi_size, phi_formed, phi_short, phi_check, hp, checkV]
  grind
end Go.Proofs.YtaeeblcdggjokaaDoor.Vk
