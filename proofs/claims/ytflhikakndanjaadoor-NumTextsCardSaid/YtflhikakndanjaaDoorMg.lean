/- Merged own texts, without what this claim does not use. -/
import Derived.Test.YtflhikakndanjaaDoorMf
import Derived.Test.YtflhikakndanjaaDoorMd
import Derived.Test.YtflhikakndanjaaDoorCards
import Derived.Test.YtflhikakndanjaaDoorTie
import Derived.KernelRfl
import Derived.ProofKit
import Derived.Deep.DeepHandedRow
import Derived.Lay
import Derived.SevenTiedAt
set_option maxRecDepth 100000
set_option linter.unusedVariables false
set_option linter.unusedSimpArgs false
set_option linter.unusedSectionVars false
set_option linter.constructorNameAsVariable false
/- Contracts: num.Parse. -/
namespace Go.Proofs.YtflhikakndanjaaDoor.Vk
open Go Go.Ab Go.RowKit
theorem dvM_le (u : ByteArray) : 0 <= dvM u /\ dvM u <= 1000000 := by
 rw [dvM_min]
 have := minM_le (dv u.data.toList)
 omega
theorem cut6 {u : ByteArray} (hd : digV u = true) : (6 < ((cutLV u (mkS [48])).size : Int) -> dvM u = 1000000) /\ (¬ 6 < ((cutLV u (mkS [48])).size : Int) -> dvM u = (dv (mkS [48] ++ cutLV u (mkS [48])).data.toList : Int) /\ (mkS [48] ++ cutLV u (mkS [48])).size <= 7 /\ digV (mkS [48] ++ cutLV u (mkS [48])) = true) := by
 have hg := digV_dig hd
 have ec : cutLV u (mkS [48]) = ⟨(digs (dv u.data.toList)).toArray⟩ := cutL_digs hg
 have ez : (mkS [48]).size = 1 := rfl
 have el : (mkS [48]).data.toList = [48] := rfl
 rw [ec, bytes_len]
 refine ⟨fun h => ?_, fun h => ⟨?_, ?_, ?_⟩⟩
 ·unfold dvM
  rw [if_neg]
  intro hlt
  have : (digs (dv u.data.toList)).length <= 6 := digs_len (k := 6) hlt
  omega
 ·have h1 := dv_lt _ (digs_dig (dv u.data.toList))
  rw [dv_digs] at h1
  have h2 : 10 ^ (digs (dv u.data.toList)).length <= 10 ^ 6 := Nat.pow_le_pow_right (by decide) (by omega)
  unfold dvM
  rw [if_pos (Nat.lt_of_lt_of_le h1 h2), cat_list, el, bytes_list, List.singleton_append, dv_cons, dv_digs]
  show _ = (((48 - 48) * 10 ^ (digs (dv u.data.toList)).length + dv u.data.toList : Nat) : Int)
  rw [Nat.sub_self, Nat.zero_mul, Nat.zero_add]
 ·rw [cat_size, ez, bytes_len]; omega
 ·rw [digV_iff]
  refine ⟨?_, ne_empty (by rw [cat_size, ez]; omega)⟩
  rw [cat_list, el, bytes_list]
  exact dig_append (fun x hx => by rw [List.mem_singleton] at hx; rw [hx]; decide) (digs_dig _)
theorem exp_val {q u : ByteArray} {sg : Bool} (h0 : ¬ q = ByteArray.empty) (hE : at0 q = 101 \/ at0 q = 69) (hu : u = expU q) (hs : expM q = sg) (hd : digV u = true) : (expV q).1 = (if sg then -(dvM u) else dvM u) /\ (expV q).2 = true := by
 subst hu hs
 unfold expV
 rw [if_neg h0, if_neg (by omega), if_neg (by rw [hd]; decide)]
 exact ⟨rfl, rfl⟩
theorem exp_no {q u : ByteArray} (h0 : ¬ q = ByteArray.empty) (hE : at0 q = 101 \/ at0 q = 69) (hu : u = expU q) (hd : digV u = false) : (expV q).2 = false := by
 subst hu
 unfold expV
 rw [if_neg h0, if_neg (by omega), if_pos hd]
theorem exp_bad {q : ByteArray} (h0 : ¬ q = ByteArray.empty) (h1 : ¬ (at0 q : Int) = 101) (h2 : ¬ (at0 q : Int) = 69) : (expV q).2 = false := by
 unfold expV
 rw [if_neg h0, if_pos (by omega)]
theorem expU_45 {q : ByteArray} (h : at0 (tailV q) = 45) : tailV (tailV q) = expU q /\ expM q = true := by
 unfold expU expM
 rw [if_pos (.inl h)]
 exact ⟨rfl, decide_eq_true h⟩
theorem expU_43 {q : ByteArray} (h : ¬ at0 (tailV q) = 45) (h' : at0 (tailV q) = 43) : tailV (tailV q) = expU q /\ expM q = false := by
 unfold expU expM
 rw [if_pos (.inr h')]
 exact ⟨rfl, decide_eq_false h⟩
theorem expU_no {q : ByteArray} (h : ¬ at0 (tailV q) = 45) (h' : ¬ at0 (tailV q) = 43) : tailV q = expU q /\ expM q = false := by
 unfold expU expM
 rw [if_neg (by omega)]
 exact ⟨rfl, decide_eq_false h⟩
theorem nparse_more (n : Nat) : @Ok (I n) q_nparse (fun ds => @okS (I n) n q_nparse.g ds /\ 10 < n) := by
 letI := I n
 refine fn_okN (hphi n) ok_nparse (by
  intro q hq
  simp only [deps_nparse, List.mem_cons, List.not_mem_nil, or_false] at hq
  rcases hq with rfl | rfl | rfl | rfl | rfl | rfl | rfl | rfl
  ·exact okS_of (cutminus_ok n _)
  ·exact okS_of (cutdot_ok n _)
  ·exact okS_of (hasminus_ok n _)
  ·exact okS_of (hasplus_ok n _)
  ·exact okS_of (nfront_ok n)
  ·exact okS_of (ndigits_ok n)
  ·exact okS_of (trimzero_ok n)
  ·exact okS_of (nmade_ok n)) (by
  intro q hq
  simp only [depsM_nparse, List.mem_singleton] at hq
  subst hq
  exact ⟨atoi_ok n, fun h => by cases h⟩) (fun _ _ _ => False) (fun _ _ => 0) ?_ (fun j h t d ds hj => by simp [heads_nparse] at hj)
 intro ds hf ⟨hp, hn⟩
 obtain ⟨s, rfl⟩ := one_str hf
 have hsz := (pre_nparse n s).1 (hp.2 rfl)
 have h1n : (1 : Int).toNat = 1 := rfl
 simp only [entry_nparse, eZ88, eZ89, eZ90, eZ91, eZ92, eZ93, eZ94, eZ95, eZ96, eZ97, eZ98, eZ99, eZ100, eZ101, eZ102, eZ103, eZ104, eZ105, eZ106, eZ107, eZ108, eZ109, eZ110, eZ111, eZ112, eZ113, eZ114, eZ115, eZ116, eZ117, eZ118, eZ119, eZ120, eZ121, eZ122, eZ123, eZ124, eZ125, eZ126, eZ127, eZ128, eZ129, eZ130, eZ131, eZ132, eZ133, eZ134, eZ135, eZ136, eZ137, eZ138, eZ139, eZ140, eZ141, eZ142, eZ143, eZ144, eZ145, eZ146, eZ147, eZ148, eZ149, eZ150, eZ151, eZ152, eZ153, eZ154, eZ155, eZ156, eZ157, eZ158, eZ159, eZ160, eZ161, eZ162, eZ163, eZ164, eZ165, eZ166, eZ167, eZ168, eZ169, eZ170, eZ171, eZ172, eZ173, eZ174, eZ175, eZ176, eZ177, eZ178, eZ179, eZ180, eZ181, eZ182, eZ183, eZ184, eZ185, eZ186, eZ187, eZ188, eZ189, c0_nparse, c1_nparse, c2_nparse, c3_nparse, c4_nparse, c5_nparse, c6_nparse, c7_nparse, c8_nparse, c9_nparse, c10_nparse, c11_nparse, c12_nparse, c13_nparse, c14_nparse, c15_nparse, t0_nparse, t1_nparse, t2_nparse, t3_nparse, t4_nparse, t5_nparse, t6_nparse, t7_nparse, t8_nparse, t9_nparse, t10_nparse, t11_nparse, t12_nparse, t13_nparse, t14_nparse, t15_nparse, q_nparse, Tree.holds, Out.den, E.den, E.denL, dn, List.getD_cons_zero, List.getD_cons_succ, List.length_map, phi_1000, phi_cutminus, phi_cutdot, phi_hasminus, phi_hasplus, phi_nfront, phi_ndigits, phi_trimzero, phi_atoi, pre_atoi, phi_nmade, phi_nparse, row_at0, row_at1, Int.toNat_zero, Int.toNat_natCast, h1n, at0_def, tail_def, num_at0, num_at1, num_at2, num_put, cat_emp, decide_eq_true_eq, decide_eq_false_iff_not]
 have okU : ∀ u : ByteArray, u.size <= s.size -> okD n [sD u] := fun u h => okD_one.2 ⟨by simp only [D.sz]; omega, lim_sD.2 (Nat.le_trans h (Nat.le_trans hsz (by decide)))⟩
 have okC : ∀ (u c : ByteArray), u.size <= s.size -> c.size <= 1 -> okD n [sD u, sD c] := fun u c h hc => okD_two.2 ⟨by simp only [D.sz]; omega, lim_sD.2 (Nat.le_trans h (Nat.le_trans hsz (by decide))), lim_sD.2 (Nat.le_trans hc (by decide))⟩
 have ok45 := fun u h => okC u (mkS [45]) h (by decide)
 have ok46 := fun u h => okC u (mkS [46]) h (by decide)
 have ok43 := fun u h => okC u (mkS [43]) h (by decide)
 have ok48 := fun u h => okC u (mkS [48]) h (by decide)
 have okZ : ∀ u : ByteArray, u.size <= 7 -> okD n [sD u] := fun u h => okD_one.2 ⟨by simp only [D.sz]; omega, lim_sD.2 (Nat.le_trans h (by decide))⟩
 have okM : ∀ (b : Bool) (u : ByteArray) (y : Int), u.size <= s.size -> okD n [bD b, sD u, iD y] := fun b u y h => ⟨by simp only [D.szL, D.sz]; omega, by simp only [D.LimL, D.Lim, and_true, true_and]; exact Nat.le_trans h (Nat.le_trans hsz (by decide))⟩
 have key : ∀ {x : NumT} {e : Int}, parseV s = (x, e) -> D.row [numD x, iD e] = D.row [numD (parseV s).1, iD (parseV s).2] := fun h => by rw [h]
 have wrN : ∀ v z : Int, 0 <= v -> v <= 1000000 -> 0 <= z -> z <= 1000000 -> IntKind.i64.wrap (-v - z) = -v - z := fun v z _ _ _ _ => wrapI (by omega) (by omega)
 have wrP : ∀ v z : Int, 0 <= v -> v <= 1000000 -> 0 <= z -> z <= 1000000 -> IntKind.i64.wrap (v - z) = v - z := fun v z _ _ _ _ => wrapI (by omega) (by omega)
 have wrM : ∀ v z : Int, 0 <= v -> v <= 1000000 -> 0 <= z -> z <= 1000000 -> IntKind.i64.wrap (IntKind.i64.wrap (-v) - z) = -v - z := fun v z _ _ _ _ => by rw [wrapI (i := -v) (by omega) (by omega), wrapI (by omega) (by omega)]
 have wrP0 : ∀ v z : Int, 0 <= v -> v <= 1000000 -> z = 0 -> (0 : Int) <= 0 -> IntKind.i64.wrap (v - 0) = v := fun v z _ _ _ _ => by rw [wrapI (by omega) (by omega)]; omega
 have wrM0 : ∀ v z : Int, 0 <= v -> v <= 1000000 -> z = 0 -> (0 : Int) <= 0 -> IntKind.i64.wrap (IntKind.i64.wrap (-v) - 0) = -v := fun v z _ _ _ _ => by rw [wrapI (i := -v) (by omega) (by omega), wrapI (by omega) (by omega)]; omega
 have hC : PC s (decide (at0 s = 45)) (cutP 45 s) := ⟨rfl, rfl⟩
 have hts := pc_size hC
 have f1 := front_size (cutP 45 s)
 have f2 := tail_size (restV (cutP 45 s))
 have f3 := front_size (tailV (restV (cutP 45 s)))
 have hcp : at0 (restV (cutP 45 s)) = 46 -> cutP 46 (restV (cutP 45 s)) = tailV (restV (cutP 45 s)) := fun h => if_pos h
 have hw0 := fun h => key (hC.w0 h)
 have hw1 := fun h h' => key (hC.w1 h h')
 have hp0 := fun h h' h2 h3 => key (hC.p0 h h' h2 h3)
 have hpx := fun h h' p q hpq => @PC.px s (cutP 45 s) p q _ hC h h' hpq
 have hs1 : ∀ u : ByteArray, ¬ u = ByteArray.empty -> (at0 u : Int) = 48 -> (¬ u = mkS [48] -> Dig u.data.toList -> 1 < u.size /\ at0 u = 48) /\ (u = mkS [48] -> ¬ (1 < u.size /\ at0 u = 48)) := fun u h0 h1 => by
  refine ⟨fun h2 hd => ⟨?_, by omega⟩, fun h2 hc => ?_⟩
  ·apply Classical.byContradiction
   intro hn
   have hp := pos_of h0
   apply h2
   apply ba_ext
   cases hl : u.data.toList with
   | nil => exact absurd (emp_list.2 hl) h0
   | cons x r =>
    have hr : r = [] := by
     have := size_len u
     rw [hl, List.length_cons] at this
     exact List.eq_nil_of_length_eq_zero (by omega)
    have hx : x = 48 := by
     unfold at0 at h1
     rw [hl] at h1
     exact u48 h1
    rw [hr, hx]; rfl
  ·rw [h2] at hc; exact absurd hc.1 (by decide)
 have hfd := front_dig (cutP 45 s)
 generalize cutP 45 s = t at *
 have Y : ∀ (p q wp : ByteArray) (h1 : ¬ frontV t = ByteArray.empty) (h2 : ¬ (1 < (frontV t).size /\ at0 (frontV t) = 48)) (h3 : HPQ (restV t) p q), wp = frontV t ++ p -> (∀ a : Int, (expV q).2 = true -> a = (expV q).1 - p.size ->
   (512 < (s.size : Int) -> D.row [numD noNumT, iD 2] = D.row [numD (parseV s).1, iD (parseV s).2]) /\ (¬ 512 < (s.size : Int) -> ((frontV t).size : Int) <= 1099511627776 /\ (p.size : Int) <= 1099511627776 /\ okD n [bD (decide (at0 s = 45)), sD wp, iD a] /\
    D.row [numD (madeV (decide (at0 s = 45)) wp a).1, iD (madeV (decide (at0 s = 45)) wp a).2] = D.row [numD (parseV s).1, iD (parseV s).2])) /\
   ((expV q).2 = false -> D.row [numD noNumT, iD 10] = D.row [numD (parseV s).1, iD (parseV s).2]) := by
  intro p q wp h1 h2 h3 hwp
  have hx := hpx h1 h2 p q h3
  obtain ⟨z1, z2⟩ := hpq_size h3
  obtain ⟨e1, e2⟩ := expV_size q
  refine ⟨fun a ho ha => ⟨fun h5 => key ?_, fun h5 => ⟨by omega, by omega, okM _ _ _ (by rw [hwp, cat_size]; omega), ?_⟩⟩, fun ho => key ?_⟩
  ·rw [hx, if_neg (by rw [ho]; decide), if_pos h5]
  ·rw [hx, if_neg (by rw [ho]; decide), if_neg h5, hwp, ha, show wrap ((expV q).1 - (p.size : Int)) = (expV q).1 - p.size from wrapI (by omega) (by omega)]
  ·rw [hx, if_pos ho]
 have e00 : ((ByteArray.empty).size : Int) = 0 := rfl
 refine ⟨okC _ _ (Nat.le_refl _) (by decide), okU _ hts, hw0, fun hw => ⟨by have := pos_of hw; omega, fun h48 => ⟨fun h1 => hw1 hw ((hs1 _ hw h48).1 h1 hfd), fun h1 => ?_⟩, fun h48 => ?_⟩⟩
 all_goals
  have h2 : ¬ (1 < (frontV t).size /\ at0 (frontV t) = 48) := by
   first | exact (hs1 _ hw h48).2 h1 | omega
  refine ⟨ok46 _ (by omega), fun hdot => ?_, fun hdot => ?_⟩
  ·rw [hcp hdot]
   refine ⟨okU _ (by omega), fun hp => hp0 hw h2 hdot hp, fun hp => ?_⟩
   obtain ⟨YR, K10⟩ := Y _ _ _ hw h2 (hpq_dot hdot hp) rfl
   have pz0 : 0 <= ((frontV (tailV (restV t))).size : Int) /\ ((frontV (tailV (restV t))).size : Int) <= 1000000 := by omega
   have q1 := tail_size (restV (tailV (restV t)))
   have q2 := tail_size (tailV (restV (tailV (restV t))))
   refine ⟨fun hq => ⟨by have := pos_of hq; omega, fun h101 => ⟨fun h69 => K10 (exp_bad hq h101 h69), fun h69 => ?_⟩, fun h101 => ?_⟩, fun hqe => YR _ (by rw [hqe, expV_emp]) (by rw [hqe, expV_emp]; exact wrP _ _ (by decide) (by decide) (by omega) (by omega))⟩
   all_goals
    have hE : at0 (restV (tailV (restV t))) = 101 \/ at0 (restV (tailV (restV t))) = 69 := by omega
    exact ⟨by have := at0_pos (s := restV (tailV (restV t))) (by omega); omega, ok45 _ (by omega), fun h45 => ⟨by have := at0_pos (s := tailV (restV (tailV (restV t)))) (by omega); omega, okU _ (by omega), ⟨fun hd => ⟨ok48 _ (by omega), fun h6 => YR _ (exp_val hq hE (expU_45 h45).1 (expU_45 h45).2 hd).2 (by rw [(exp_val hq hE (expU_45 h45).1 (expU_45 h45).2 hd).1, (cut6 hd).1 h6]; exact wrN _ _ (by decide) (by decide) (by omega) (by omega)), fun h6 => ⟨by have := ((cut6 hd).2 h6).2.1; rw [cat_size] at this; omega, okZ _ ((cut6 hd).2 h6).2.1, ⟨by have := ((cut6 hd).2 h6).2.1; omega, ((cut6 hd).2 h6).2.2⟩, YR _ (exp_val hq hE (expU_45 h45).1 (expU_45 h45).2 hd).2 (by rw [(exp_val hq hE (expU_45 h45).1 (expU_45 h45).2 hd).1, ((cut6 hd).2 h6).1]; have := dvM_le (tailV (tailV (restV (tailV (restV t))))); rw [((cut6 hd).2 h6).1] at this; exact wrM _ _ this.1 this.2 (by omega) (by omega))⟩⟩, fun hd => K10 (exp_no hq hE (expU_45 h45).1 hd)⟩⟩, fun h45 => ⟨ok43 _ (by omega), fun h43 => ⟨by have := at0_pos (s := tailV (restV (tailV (restV t)))) (by omega); omega, okU _ (by omega), ⟨fun hd => ⟨ok48 _ (by omega), fun h6 => YR _ (exp_val hq hE (expU_43 h45 h43).1 (expU_43 h45 h43).2 hd).2 (by rw [(exp_val hq hE (expU_43 h45 h43).1 (expU_43 h45 h43).2 hd).1, (cut6 hd).1 h6]; exact wrP _ _ (by decide) (by decide) (by omega) (by omega)), fun h6 => ⟨by have := ((cut6 hd).2 h6).2.1; rw [cat_size] at this; omega, okZ _ ((cut6 hd).2 h6).2.1, ⟨by have := ((cut6 hd).2 h6).2.1; omega, ((cut6 hd).2 h6).2.2⟩, YR _ (exp_val hq hE (expU_43 h45 h43).1 (expU_43 h45 h43).2 hd).2 (by rw [(exp_val hq hE (expU_43 h45 h43).1 (expU_43 h45 h43).2 hd).1, ((cut6 hd).2 h6).1]; have := dvM_le (tailV (tailV (restV (tailV (restV t))))); rw [((cut6 hd).2 h6).1] at this; exact wrP _ _ this.1 this.2 (by omega) (by omega))⟩⟩, fun hd => K10 (exp_no hq hE (expU_43 h45 h43).1 hd)⟩⟩, fun h43 => ⟨okU _ (by omega), ⟨fun hd => ⟨ok48 _ (by omega), fun h6 => YR _ (exp_val hq hE (expU_no h45 h43).1 (expU_no h45 h43).2 hd).2 (by rw [(exp_val hq hE (expU_no h45 h43).1 (expU_no h45 h43).2 hd).1, (cut6 hd).1 h6]; exact wrP _ _ (by decide) (by decide) (by omega) (by omega)), fun h6 => ⟨by have := ((cut6 hd).2 h6).2.1; rw [cat_size] at this; omega, okZ _ ((cut6 hd).2 h6).2.1, ⟨by have := ((cut6 hd).2 h6).2.1; omega, ((cut6 hd).2 h6).2.2⟩, YR _ (exp_val hq hE (expU_no h45 h43).1 (expU_no h45 h43).2 hd).2 (by rw [(exp_val hq hE (expU_no h45 h43).1 (expU_no h45 h43).2 hd).1, ((cut6 hd).2 h6).1]; have := dvM_le (tailV (restV (tailV (restV t)))); rw [((cut6 hd).2 h6).1] at this; exact wrP _ _ this.1 this.2 (by omega) (by omega))⟩⟩, fun hd => K10 (exp_no hq hE (expU_no h45 h43).1 hd)⟩⟩⟩⟩
  ·obtain ⟨YR0, K10⟩ := Y _ _ _ hw h2 (hpq_no hdot) (cat_emp _).symm
   have YR : ∀ a : Int, (expV (restV t)).2 = true -> a = (expV (restV t)).1 -> (512 < (s.size : Int) -> D.row [numD noNumT, iD 2] = D.row [numD (parseV s).1, iD (parseV s).2]) /\ (¬ 512 < (s.size : Int) -> ((frontV t).size : Int) <= 1099511627776 /\ okD n [bD (decide (at0 s = 45)), sD (frontV t), iD a] /\
    D.row [numD (madeV (decide (at0 s = 45)) (frontV t) a).1, iD (madeV (decide (at0 s = 45)) (frontV t) a).2] = D.row [numD (parseV s).1, iD (parseV s).2]) := fun a h h' => ⟨(YR0 a h (by rw [e00]; omega)).1, fun h5 => ⟨((YR0 a h (by rw [e00]; omega)).2 h5).1, ((YR0 a h (by rw [e00]; omega)).2 h5).2.2⟩⟩
   have q1 := tail_size (restV t)
   have q2 := tail_size (tailV (restV t))
   refine ⟨fun hq => ⟨by have := pos_of hq; omega, fun h101 => ⟨fun h69 => K10 (exp_bad hq h101 h69), fun h69 => ?_⟩, fun h101 => ?_⟩, fun hqe => YR _ (by rw [hqe, expV_emp]) (by rw [hqe, expV_emp])⟩
   all_goals
    have hE : at0 (restV t) = 101 \/ at0 (restV t) = 69 := by omega
    exact ⟨by have := at0_pos (s := restV t) (by omega); omega, ok45 _ (by omega), fun h45 => ⟨by have := at0_pos (s := tailV (restV t)) (by omega); omega, okU _ (by omega), ⟨fun hd => ⟨ok48 _ (by omega), fun h6 => YR _ (exp_val hq hE (expU_45 h45).1 (expU_45 h45).2 hd).2 (by rw [(exp_val hq hE (expU_45 h45).1 (expU_45 h45).2 hd).1, (cut6 hd).1 h6]; exact rfl), fun h6 => ⟨by have := ((cut6 hd).2 h6).2.1; rw [cat_size] at this; omega, okZ _ ((cut6 hd).2 h6).2.1, ⟨by have := ((cut6 hd).2 h6).2.1; omega, ((cut6 hd).2 h6).2.2⟩, YR _ (exp_val hq hE (expU_45 h45).1 (expU_45 h45).2 hd).2 (by rw [(exp_val hq hE (expU_45 h45).1 (expU_45 h45).2 hd).1, ((cut6 hd).2 h6).1]; have := dvM_le (tailV (tailV (restV t))); rw [((cut6 hd).2 h6).1] at this; exact wrM0 _ _ this.1 this.2 (by omega) (by omega))⟩⟩, fun hd => K10 (exp_no hq hE (expU_45 h45).1 hd)⟩⟩, fun h45 => ⟨ok43 _ (by omega), fun h43 => ⟨by have := at0_pos (s := tailV (restV t)) (by omega); omega, okU _ (by omega), ⟨fun hd => ⟨ok48 _ (by omega), fun h6 => YR _ (exp_val hq hE (expU_43 h45 h43).1 (expU_43 h45 h43).2 hd).2 (by rw [(exp_val hq hE (expU_43 h45 h43).1 (expU_43 h45 h43).2 hd).1, (cut6 hd).1 h6]; exact rfl), fun h6 => ⟨by have := ((cut6 hd).2 h6).2.1; rw [cat_size] at this; omega, okZ _ ((cut6 hd).2 h6).2.1, ⟨by have := ((cut6 hd).2 h6).2.1; omega, ((cut6 hd).2 h6).2.2⟩, YR _ (exp_val hq hE (expU_43 h45 h43).1 (expU_43 h45 h43).2 hd).2 (by rw [(exp_val hq hE (expU_43 h45 h43).1 (expU_43 h45 h43).2 hd).1, ((cut6 hd).2 h6).1]; have := dvM_le (tailV (tailV (restV t))); rw [((cut6 hd).2 h6).1] at this; exact wrP0 _ _ this.1 this.2 (by omega) (by omega))⟩⟩, fun hd => K10 (exp_no hq hE (expU_43 h45 h43).1 hd)⟩⟩, fun h43 => ⟨okU _ (by omega), ⟨fun hd => ⟨ok48 _ (by omega), fun h6 => YR _ (exp_val hq hE (expU_no h45 h43).1 (expU_no h45 h43).2 hd).2 (by rw [(exp_val hq hE (expU_no h45 h43).1 (expU_no h45 h43).2 hd).1, (cut6 hd).1 h6]; exact rfl), fun h6 => ⟨by have := ((cut6 hd).2 h6).2.1; rw [cat_size] at this; omega, okZ _ ((cut6 hd).2 h6).2.1, ⟨by have := ((cut6 hd).2 h6).2.1; omega, ((cut6 hd).2 h6).2.2⟩, YR _ (exp_val hq hE (expU_no h45 h43).1 (expU_no h45 h43).2 hd).2 (by rw [(exp_val hq hE (expU_no h45 h43).1 (expU_no h45 h43).2 hd).1, ((cut6 hd).2 h6).1]; have := dvM_le (tailV (restV t)); rw [((cut6 hd).2 h6).1] at this; exact wrP0 _ _ this.1 this.2 (by omega) (by omega))⟩⟩, fun hd => K10 (exp_no hq hE (expU_no h45 h43).1 hd)⟩⟩⟩⟩
theorem nparse_ok (n : Nat) : @Ok (I n) q_nparse (@okS (I n) n q_nparse.g) :=
 ok_irrel (by decide) (@Ok.less (I (n + 20)) _ _ _ (nparse_more (n + 20)) fun ds h => ⟨⟨⟨by have := h.1.1; omega, h.1.2⟩, h.2⟩, by omega⟩)
end Go.Proofs.YtflhikakndanjaaDoor.Vk
/- Contracts of the reference of chapter 1: Small, Whole. -/
namespace Go.Proofs.YtflhikakndanjaaDoor.Vk
open Go Go.Ab Go.RowKit
theorem int_one {d : List D} (h : FitL tb [.cell (.sc (.i .i64))] d) : ∃ i : Int, d = [iD i] := by
 match d, h with
 | [a], ⟨h1, _⟩ =>
  obtain ⟨i, rfl⟩ := fits_int h1
  exact ⟨i, rfl⟩
theorem digsZ_pos (m : Nat) : digsZ m = digs (m / 10) ++ [UInt8.ofNat (48 + m % 10)] := by
 unfold digsZ
 by_cases h : m = 0
 ·rw [if_pos h, h]
  show [48] = digs 0 ++ [UInt8.ofNat (48 + 0)]
  rw [digs_zero]; rfl
 ·rw [if_neg h, digs_pos h]
theorem emp_size {s : ByteArray} : s = ByteArray.empty ↔ s.size = 0 := size_zero.symm
-- head 0 of loop 0: [t0 .sh (.cell (.sc (.i .i64))), t3 .sh (.cell (.sc .s)), t4 .sh (.cell (.sc .s))]
def heads_qsmall : List Hd := [⟨0, [.sh (.cell (.sc (.i .i64))), .any, .any, .sh (.cell (.sc .s)), .sh (.cell (.sc .s)), .any, .any, .any, .any, .any, .any, .any, .any, .any, .any, .any, .any, .any, .any, .any, .any, .any, .any, .any, .any, .any, .any, .any]⟩]
def eZ190 : E := (.lit (.string .empty))
def eZ191 : E := (.pr (.iop .rem .i64) [.v0, (.i 10)])
def eZ192 : E := (.pr (.iop .add .i64) [eZ191, (.i 1)])
def eZ193 : E := (.lit (.string (mkS [48, 49, 50, 51, 52, 53, 54, 55, 56, 57])))
def eZ194 : E := (.le (.pr .slen [(.pr .ssub [eZ193, eZ191, eZ192])]) (.i 1099511627776))
def eZ195 : E := (.le (.pr .slen [.v2]) (.i 1099511627776))
def eZ196 : E := (.pr .scat [(.pr .ssub [eZ193, eZ191, eZ192]), .v2])
def entry_qsmall : Tree :=
 (.ite (.lt .v0 (.i 0))
 (.g 0 [(.pr (.neg .i64) [.v0]), (.lit (.string (mkS [45]))), eZ190])
 (.g 0 [.v0, eZ190, eZ190]))
def head_qsmall_0 : Tree :=
 (.ite (.pr (.scmp .eql) [.v2, eZ190])
 (.giv (.le (.i 0) eZ191)
 (.giv (.le (.i 0) eZ192)
 (.giv (.le eZ191 eZ192)
 (.giv (.le eZ192 (.pr .slen [eZ193]))
 (.giv eZ194
 (.giv eZ195
 (.g 0 [(.pr (.iop .quo .i64) [.v0, (.i 10)]), .v1, eZ196])))))))
 (.ite (.gt .v0 (.i 0))
 (.giv (.le (.i 0) eZ191)
 (.giv (.le (.i 0) eZ192)
 (.giv (.le eZ191 eZ192)
 (.giv (.le eZ192 (.pr .slen [eZ193]))
 (.giv eZ194
 (.giv eZ195
 (.g 0 [(.pr (.iop .quo .i64) [.v0, (.i 10)]), .v1, eZ196])))))))
 (.giv (.le (.pr .slen [.v1]) (.i 1099511627776))
 (.giv eZ195
 (.rt (.pr .scat [.v1, .v2]))))))
def trees_qsmall : List Tree := [head_qsmall_0]
noncomputable def deps_qsmall : List Sig := []
theorem ok_qsmall : check q_qsmall deps_qsmall heads_qsmall entry_qsmall trees_qsmall = true := by kernel_rfl
def textZ (m : Nat) (s : ByteArray) : List UInt8 := (if s.size = 0 then digsZ m else digs m) ++ s.data.toList
theorem text_step (m : Nat) (s : ByteArray) (h : s.size = 0 \/ 0 < m) : textZ (m / 10) (⟨[UInt8.ofNat (48 + m % 10)].toArray⟩ ++ s) = textZ m s := by
 unfold textZ
 rw [cat_list, bytes_list, if_neg (by rw [cat_size]; show ¬ (1 + s.size = 0); omega), <- List.append_assoc]
 by_cases h0 : s.size = 0
 ·rw [if_pos h0, digsZ_pos]
 ·rw [if_neg h0, digs_pos (n := m) (by omega)]
theorem qsmall_ok (n : Nat) : @Ok (I n) q_qsmall (@okS (I n) n q_qsmall.g) := by
 letI := I n
 refine fn_ok (hphi n) ok_qsmall (by intro q hq; simp [deps_qsmall] at hq)
  (fun _ d ds => ∃ (m : Nat) (sg s : ByteArray), ds = [iD m, sD sg, sD s] /\ sg.size <= 1 /\ s.size <= 14 /\ m * 10 ^ s.size <= 2199023255552 /\ d = sD (sg ++ ⟨(textZ m s).toArray⟩))
  (fun _ ds => (ds.getD 0 .nil).int.toNat + (if (ds.getD 2 .nil).str.size = 0 then 1 else 0)) ?_ ?_
 ·intro ds hf hp
  obtain ⟨i, rfl⟩ := int_one hf
  obtain ⟨p1, p2⟩ := (pre_qsmall n i).1 (hp.2 rfl)
  have ht : ∀ m, textZ m ByteArray.empty = digsZ m := fun m => by
   unfold textZ
   rw [if_pos (show ByteArray.empty.size = 0 from rfl)]
   show digsZ m ++ [] = _
   rw [List.append_nil]
  simp only [entry_qsmall, eZ190, eZ191, eZ192, eZ193, eZ194, eZ195, eZ196, q_qsmall, Tree.holds, Out.den, E.den, E.denL, dn, List.getD_cons_zero, List.getD_cons_succ, List.length_map, phi_1000, phi_qsmall]
  refine ⟨fun h => ⟨(-i).toNat, mkS [45], ByteArray.empty, ?_, by decide, by decide, ?_, ?_⟩, fun h => ⟨i.toNat, ByteArray.empty, ByteArray.empty, ?_, by decide, by decide, ?_, ?_⟩⟩
  ·rw [show IntKind.i64.wrap (-i) = -i from wrapI (by omega) (by omega), Int.toNat_of_nonneg (by omega)]
  ·show (-i).toNat * 1 <= _; omega
  ·unfold smallText
   rw [if_pos h, ht, show i.natAbs = (-i).toNat by omega]; rfl
  ·rw [Int.toNat_of_nonneg (by omega)]
  ·show i.toNat * 1 <= _; omega
  ·unfold smallText
   rw [if_neg h, ht, show i.natAbs = i.toNat by omega]
 ·rintro j h t d ds hj ht hf ⟨m, sg, s, rfl, hsg, hs, hm, rfl⟩
  obtain rfl : t = head_qsmall_0 := by
   match j, ht with
   | 0, ht => exact (Option.some.inj ht).symm
  have hmb : m <= 2199023255552 := Nat.le_trans (Nat.le_mul_of_pos_right _ (pow_pos10 _)) hm
  have hd := ten_at (m % 10) (Nat.mod_lt _ (by decide))
  have hw1 : IntKind.i64.wrap (((m % 10 : Nat) : Int) + 1) = ((m % 10 + 1 : Nat) : Int) := by rw [wrapI (by omega) (by omega)]; omega
  have hw2 : IntKind.i64.wrap ((m / 10 : Nat) : Int) = ((m / 10 : Nat) : Int) := wrapI (by omega) (by omega)
  have hts : ((mkS [48, 49, 50, 51, 52, 53, 54, 55, 56, 57]).size : Int) = 10 := rfl
  have hes : (⟨[UInt8.ofNat (48 + m % 10)].toArray⟩ : ByteArray).size = 1 := rfl
  simp only [head_qsmall_0, eZ190, eZ191, eZ192, eZ193, eZ194, eZ195, eZ196, Tree.holds, Out.den, E.den, E.denL, dn, List.getD_cons_zero, List.getD_cons_succ, List.length_map, phi_1000, tmod10, tdiv10, hw1, hw2, Int.toNat_natCast, hd, hts, hes]
  have step : (s.size = 0 \/ 0 < m) -> (∃ (m' : Nat) (sg' s' : ByteArray), [iD ((m / 10 : Nat) : Int), sD sg, sD (⟨[UInt8.ofNat (48 + m % 10)].toArray⟩ ++ s)] = [iD m', sD sg', sD s'] /\ sg'.size <= 1 /\ s'.size <= 14 /\ m' * 10 ^ s'.size <= 2199023255552 /\ sD (sg ++ ⟨(textZ m s).toArray⟩) = sD (sg' ++ ⟨(textZ m' s').toArray⟩)) /\
    m / 10 + (if (⟨[UInt8.ofNat (48 + m % 10)].toArray⟩ ++ s : ByteArray).size = 0 then 1 else 0) < m + (if s.size = 0 then 1 else 0) := fun hc => by
   have hz : (⟨[UInt8.ofNat (48 + m % 10)].toArray⟩ ++ s : ByteArray).size = s.size + 1 := by rw [cat_size, hes]; omega
   refine ⟨⟨m / 10, sg, _, rfl, hsg, ?_, ?_, by rw [text_step m s hc]⟩, ?_⟩
   ·rw [hz]
    apply Classical.byContradiction
    intro hn
    have h14 : s.size = 14 := by omega
    have hm0 : 0 < m := by omega
    rw [h14] at hm
    have : 1 * 10 ^ 14 <= m * 10 ^ 14 := Nat.mul_le_mul_right _ hm0
    have : (10 : Nat) ^ 14 = 100000000000000 := by decide
    omega
   ·rw [hz, Nat.pow_succ]
    have : m / 10 * (10 ^ s.size * 10) = (m / 10 * 10) * 10 ^ s.size := by rw [Nat.mul_comm (10 ^ s.size) 10, <- Nat.mul_assoc]
    rw [this]
    exact Nat.le_trans (Nat.mul_le_mul_right _ (Nat.div_mul_le_self m 10)) hm
   ·rw [hz, if_neg (by omega)]
    rcases hc with hc | hc
    ·rw [if_pos hc]; omega
    ·split <;> omega
  have hz := @emp_size s
  refine ⟨fun he => ⟨by omega, by omega, by omega, by omega, by omega, by omega, step (.inl (hz.1 he))⟩, fun he => ⟨fun hm0 => ⟨by omega, by omega, by omega, by omega, by omega, by omega, step (.inr (by omega))⟩, fun hm0 => ⟨by omega, by omega, ?_⟩⟩⟩
  have h0 : m = 0 := by omega
  have hne : ¬ s.size = 0 := fun h => he (hz.2 h)
  unfold textZ
  rw [if_neg hne, h0, digs_zero, List.nil_append]
end Go.Proofs.YtflhikakndanjaaDoor.Vk
/- Contracts of the reference of chapter 1: Zeros, less, aligned, Less. -/
namespace Go.Proofs.YtflhikakndanjaaDoor.Vk
open Go Go.Ab Go.RowKit
theorem one_int {d : List D} (h : FitL tb [.cell (.sc (.i .i64))] d) : ∃ i, d = [iD i] := by
 match d, h with
 | [a], ⟨h1, _⟩ =>
  obtain ⟨l, rfl⟩ := fits_int h1
  exact ⟨l, rfl⟩
theorem zer_succ (i : Nat) : zer (i : Int) ++ mkS [48] = zer ((i + 1 : Nat) : Int) := by
 refine ByteArray.ext (Array.toList_inj.1 ?_)
 rw [cat_list, zer_list, zer_list, Int.toNat_natCast, Int.toNat_natCast, List.replicate_succ']
 rfl
-- head 0 of loop 0: [t0 .sh (.cell (.sc (.i .i64))), t3 .sh (.cell (.sc .s)), t4 .sh (.cell (.sc (.i .i64)))]
def heads_rzeros : List Hd := [⟨0, [.sh (.cell (.sc (.i .i64))), .any, .any, .sh (.cell (.sc .s)), .sh (.cell (.sc (.i .i64))), .any, .any, .any, .any, .any, .any, .any, .any]⟩]
def entry_rzeros : Tree :=
 (.g 0 [.v0, (.lit (.string .empty)), (.i 0)])
def head_rzeros_0 : Tree :=
 (.ite (.lt .v2 .v0)
 (.giv (.le (.pr .slen [.v1]) (.i 1099511627776))
 (.g 0 [.v0, (.pr .scat [.v1, (.lit (.string (mkS [48])))]), (.pr (.iop .add .i64) [.v2, (.i 1)])]))
 (.rt .v1))
def trees_rzeros : List Tree := [head_rzeros_0]
noncomputable def deps_rzeros : List Sig := []
theorem ok_rzeros : check q_rzeros deps_rzeros heads_rzeros entry_rzeros trees_rzeros = true := by kernel_rfl
theorem rzeros_ok (n : Nat) : @Ok (I n) q_rzeros (@okS (I n) n q_rzeros.g) := by
 letI := I n
 refine fn_okS (hphi n) ok_rzeros (by intro q hq; simp [deps_rzeros] at hq)
  (fun _ d ds => ∃ (m i : Nat), ds = [iD m, sD (zer i), iD i] /\ i <= m /\ m <= 1000000 /\ d = sD (zer m))
  (fun _ ds => (ds.getD 0 .nil).int.toNat - (ds.getD 2 .nil).int.toNat) ?_ ?_
 ·intro ds hf hp
  obtain ⟨i, rfl⟩ := one_int hf
  obtain ⟨p1, p2⟩ := (pre_rzeros n i).1 (hp.2 rfl)
  obtain ⟨m, rfl⟩ : ∃ m : Nat, i = m := ⟨i.toNat, by omega⟩
  simp only [entry_rzeros, q_rzeros, Tree.holds, Out.den, E.den, E.denL, dn, List.getD_cons_zero, List.getD_cons_succ, List.length_map, phi_1000, phi_rzeros]
  exact ⟨m, 0, rfl, Nat.zero_le _, by omega, rfl⟩
 ·rintro j h t d ds hj ht hf ⟨m, i, rfl, hi, hm, rfl⟩
  obtain rfl : t = head_rzeros_0 := by
   match j, ht with
   | 0, ht => exact (Option.some.inj ht).symm
  by_cases hlt : i < m
  ·simp only [head_rzeros_0, Tree.holds, Out.den, E.den, E.denL, dn, List.getD_cons_zero, List.getD_cons_succ, List.length_map, phi_1000, wrap_succ hlt (show m <= lim by have : 1000000 <= lim := (by decide); omega), zer_succ, zer_size]
   exact ⟨fun _ => ⟨by omega, ⟨m, i + 1, rfl, hlt, hm, rfl⟩, by omega⟩, fun h => by omega⟩
  ·obtain rfl : i = m := by omega
   simp only [head_rzeros_0, Tree.holds, Out.den, E.den, E.denL, dn, List.getD_cons_zero, List.getD_cons_succ, List.length_map, phi_1000]
   exact ⟨fun h => by omega, fun _ => trivial⟩
end Go.Proofs.YtflhikakndanjaaDoor.Vk
/- strconv.Itoa, number by number: what is run. -/
namespace Go.Proofs.YtflhikakndanjaaDoor.Vk
open Go Go.Ab Go.RowKit
/- Three digits at most, quickly. -/
def dec3 (m : Nat) : List UInt8 := if m < 10 then [UInt8.ofNat (48 + m)] else if m < 100 then [UInt8.ofNat (48 + m / 10), UInt8.ofNat (48 + m % 10)] else [UInt8.ofNat (48 + m / 100), UInt8.ofNat (48 + m / 10 % 10), UInt8.ofNat (48 + m % 10)]
def isText (l : List UInt8) (r : Option (AV × St)) : Bool := match r with | some (.v (.string s), _) => List.beq s.data.toList l | _ => false
noncomputable def runI (i : Int) : Option (AV × St) := evFn Tryd.prog (tabsG tabs) muF (evDrawnX Tryd.prog (tabsG tabs)) 100000 noOrc 200 (.func 87) [.v (.int .i64 i)] none0
noncomputable def okPos (m : Nat) : Bool := isText (dec3 m) (runI (m : Int))
noncomputable def okNeg (m : Nat) : Bool := isText (45 :: dec3 m) (runI (-(m : Int)))
noncomputable def allFrom (p : Nat -> Bool) : Nat -> Nat -> Bool
 | _, 0 => true
 | a, k + 1 => p a && allFrom p (a + 1) k
theorem allFrom_at {p : Nat -> Bool} : ∀ {k a m : Nat}, allFrom p a k = true -> a <= m -> m < a + k -> p m = true
 | 0, a, m, _, h1, h2 => by omega
 | k + 1, a, m, h, h1, h2 => by
  unfold allFrom at h
  rw [Bool.and_eq_true] at h
  by_cases e : a = m
  ·rw [<- e]; exact h.1
  ·exact allFrom_at h.2 (by omega) (by omega)
theorem text_eq {l : List UInt8} {r : Option (AV × St)} (h : isText l r = true) : ∃ s', r = some (.v (.string ⟨l.toArray⟩), s') := by
 unfold isText at h
 split at h
 ·rename_i s s'
  have hl : s.data.toList = l := eq_of_beq (α := List UInt8) h
  exact ⟨s', by rw [<- hl]⟩
 ·cases h
theorem calls_of_text {l : List UInt8} {i : Int} {W : World} (hL : TabsMet tabs W) (h : isText l (runI i) = true) : Calls Tryd.prog 87 #[.int .i64 i] W fun e W' => e = .returned (.string ⟨l.toArray⟩) /\ Below W.heap.size W W' := by
 haveI : Interp := ⟨fun _ _ => .nil⟩
 obtain ⟨s', hr⟩ := text_eq h
 have hd : ∀ call, CallOk Tryd.prog (tabsG tabs) W.heap.size W call -> DrawnOk Tryd.prog (tabsG tabs) W.heap.size W (evDrawnX Tryd.prog (tabsG tabs) call) := fun call hc => drawnX_sound noNum Tryd.checked.mixed hc
 have hc := fn_sound (mu := muF) (P := Tryd.prog) noNum 100000 (noOrc_ok (B0 := W.heap.size) (w0 := W)) hd 200
 have hG := glob_of_tabs hL
 have := hc (.func 87) _ none0 _ s' hr W Mp.start #[.int .i64 i] (Sim.start hG Mp.start fun _ _ h => h) ⟨_, _, rfl, ⟨rfl, rfl⟩, VRl_nil⟩
 refine (callsIn_wide.1 this).mono fun e W' hq => ?_
 obtain ⟨v, M', rfl, hvr, hs', _⟩ := Done.down hq rfl
 exact ⟨by rw [hvr.1], hs'.below⟩
theorem digs_small {m : Nat} (h : m < 10) (h0 : m ≠ 0) : digs m = [UInt8.ofNat (48 + m)] := by
 rw [digs_pos h0, show m / 10 = 0 by omega, digs_zero, show m % 10 = m by omega]; rfl
theorem dec3_eq {m : Nat} (h : m < 1000) : dec3 m = digsZ m := by
 unfold dec3
 by_cases h1 : m < 10
 ·rw [if_pos h1, dzZ, show m / 10 = 0 by omega, digs_zero, show m % 10 = m by omega]; rfl
 rw [if_neg h1]
 by_cases h2 : m < 100
 ·rw [if_pos h2, dzZ, digs_small (by omega) (by omega)]; rfl
 rw [if_neg h2, dzZ, digs_pos (n := m / 10) (by omega), digs_small (by omega) (by omega), show m / 10 / 10 = m / 100 by omega]
 rfl
end Go.Proofs.YtflhikakndanjaaDoor.Vk
/- strconv.Itoa, number by number: 0 to 219. -/
namespace Go.Proofs.YtflhikakndanjaaDoor.Vk
open Go Go.Ab Go.RowKit
theorem ia0 : allFrom okPos 0 100 = true := by kernel_rfl
theorem ia1 : allFrom okPos 100 40 = true := by kernel_rfl
theorem ia2 : allFrom okPos 140 40 = true := by kernel_rfl
theorem ia3 : allFrom okPos 180 40 = true := by kernel_rfl
end Go.Proofs.YtflhikakndanjaaDoor.Vk
/- strconv.Itoa, number by number: 220 to 439. -/
namespace Go.Proofs.YtflhikakndanjaaDoor.Vk
open Go Go.Ab Go.RowKit
theorem ib0 : allFrom okPos 220 44 = true := by kernel_rfl
theorem ib1 : allFrom okPos 264 44 = true := by kernel_rfl
theorem ib2 : allFrom okPos 308 44 = true := by kernel_rfl
theorem ib3 : allFrom okPos 352 44 = true := by kernel_rfl
theorem ib4 : allFrom okPos 396 44 = true := by kernel_rfl
end Go.Proofs.YtflhikakndanjaaDoor.Vk
/- strconv.Itoa, number by number: -1 to -200. -/
namespace Go.Proofs.YtflhikakndanjaaDoor.Vk
open Go Go.Ab Go.RowKit
theorem ic0 : allFrom okNeg 1 40 = true := by kernel_rfl
theorem ic1 : allFrom okNeg 41 40 = true := by kernel_rfl
theorem ic2 : allFrom okNeg 81 40 = true := by kernel_rfl
theorem ic3 : allFrom okNeg 121 40 = true := by kernel_rfl
theorem ic4 : allFrom okNeg 161 40 = true := by kernel_rfl
end Go.Proofs.YtflhikakndanjaaDoor.Vk
/- strconv.Itoa, number by number: -201 to -400. -/
namespace Go.Proofs.YtflhikakndanjaaDoor.Vk
open Go Go.Ab Go.RowKit
theorem id0 : allFrom okNeg 201 40 = true := by kernel_rfl
theorem id1 : allFrom okNeg 241 40 = true := by kernel_rfl
theorem id2 : allFrom okNeg 281 40 = true := by kernel_rfl
theorem id3 : allFrom okNeg 321 40 = true := by kernel_rfl
theorem id4 : allFrom okNeg 361 40 = true := by kernel_rfl
end Go.Proofs.YtflhikakndanjaaDoor.Vk
/- strconv.Itoa, number by number: all of them. -/
namespace Go.Proofs.YtflhikakndanjaaDoor.Vk
open Go Go.Ab Go.RowKit
theorem itoa_pos {m : Nat} (h : m < 440) : okPos m = true := by
 by_cases hia0 : m < 100
 ·exact allFrom_at ia0 (by omega) (by omega)
 by_cases hia1 : m < 140
 ·exact allFrom_at ia1 (by omega) (by omega)
 by_cases hia2 : m < 180
 ·exact allFrom_at ia2 (by omega) (by omega)
 by_cases hia3 : m < 220
 ·exact allFrom_at ia3 (by omega) (by omega)
 by_cases hib0 : m < 264
 ·exact allFrom_at ib0 (by omega) (by omega)
 by_cases hib1 : m < 308
 ·exact allFrom_at ib1 (by omega) (by omega)
 by_cases hib2 : m < 352
 ·exact allFrom_at ib2 (by omega) (by omega)
 by_cases hib3 : m < 396
 ·exact allFrom_at ib3 (by omega) (by omega)
 by_cases hib4 : m < 440
 ·exact allFrom_at ib4 (by omega) (by omega)
 omega
theorem itoa_neg {m : Nat} (h0 : 0 < m) (h : m <= 400) : okNeg m = true := by
 by_cases hic0 : m < 41
 ·exact allFrom_at ic0 (by omega) (by omega)
 by_cases hic1 : m < 81
 ·exact allFrom_at ic1 (by omega) (by omega)
 by_cases hic2 : m < 121
 ·exact allFrom_at ic2 (by omega) (by omega)
 by_cases hic3 : m < 161
 ·exact allFrom_at ic3 (by omega) (by omega)
 by_cases hic4 : m < 201
 ·exact allFrom_at ic4 (by omega) (by omega)
 by_cases hid0 : m < 241
 ·exact allFrom_at id0 (by omega) (by omega)
 by_cases hid1 : m < 281
 ·exact allFrom_at id1 (by omega) (by omega)
 by_cases hid2 : m < 321
 ·exact allFrom_at id2 (by omega) (by omega)
 by_cases hid3 : m < 361
 ·exact allFrom_at id3 (by omega) (by omega)
 by_cases hid4 : m < 401
 ·exact allFrom_at id4 (by omega) (by omega)
 omega
theorem itoa_ok (n : Nat) : @Ok (I n) q_itoa (@okS (I n) n q_itoa.g) := by
 letI := I n
 refine ok_scalar (t := .s) rfl fun W vs ds hL ha hp => ?_
 obtain ⟨v, d, rfl, rfl, h1⟩ := args_one ha
 obtain ⟨i, rfl, rfl⟩ := arg_int h1
 obtain ⟨p1, p2⟩ := (pre_itoa n i).1 (hp.2 rfl)
 by_cases hi : i < 0
 ·have h := itoa_neg (m := i.natAbs) (by omega) (by omega)
  unfold okNeg at h
  rw [show -((i.natAbs : Nat) : Int) = i by omega, dec3_eq (by omega)] at h
  refine (calls_of_text hL h).mono ?_
  rintro e W' ⟨rfl, hb⟩
  refine ⟨_, rfl, hb, ?_, rfl⟩
  rw [show @Interp.phi (I n) q_itoa.g [iD i] = sD (smallText i) from rfl]
  unfold smallText
  rw [if_pos hi]
  congr 2
 ·have h := itoa_pos (m := i.natAbs) (by omega)
  unfold okPos at h
  rw [show ((i.natAbs : Nat) : Int) = i by omega, dec3_eq (by omega)] at h
  refine (calls_of_text hL h).mono ?_
  rintro e W' ⟨rfl, hb⟩
  refine ⟨_, rfl, hb, ?_, rfl⟩
  rw [show @Interp.phi (I n) q_itoa.g [iD i] = sD (smallText i) from rfl]
  unfold smallText
  rw [if_neg hi, nil_cat]
end Go.Proofs.YtflhikakndanjaaDoor.Vk
/- Contracts: numbers' texts, printed. -/
namespace Go.Proofs.YtflhikakndanjaaDoor.Vk
open Go Go.Ab Go.RowKit
theorem numV_or (a : Bool) (d : ByteArray) (e : Int) : numV a d e = 0 \/ numV a d e = 10 := by
 unfold numV
 repeat' split
 all_goals first | exact .inl rfl | exact .inr rfl
theorem printC_size {d : ByteArray} {x : Int} (h : -400 <= x) (h1 : x <= 400) (h2 : 0 < d.size) (h3 : d.size <= 40) : d.size <= (printC d x).size /\ (printC d x).size <= 1000 /\ 1 <= ((printC d x).size : Int) + x := by
 have hcs : (printC d x).size = (if 0 < 1 - x - (d.size : Int) then 1 - x - d.size else 0).toNat + d.size := by unfold printC; rw [cat_size, zer_size]
 rw [hcs]
 split <;> omega
theorem print_bad {t : NumT} (h : ¬ numV t.1 t.2.1 t.2.2 = 0) : printV t = (ByteArray.empty, 10) := by
 unfold printV
 rw [if_pos (show ¬ formN t = 0 from h)]
theorem print_A {a : Bool} {d : ByteArray} {x : Int} (h : numV a d x = 0) (hA : 0 <= x /\ (d.size : Int) + x <= 21) : printV (a, d, x) = (signV a ++ d ++ zer x, 0) := by
 unfold printV
 rw [if_neg (show ¬ ¬ formN (a, d, x) = 0 from fun k => k h)]
 simp only
 rw [if_pos hA]
theorem print_B {a : Bool} {d : ByteArray} {x : Int} (h : numV a d x = 0) (hB : x < 0 /\ -21 <= x) : printV (a, d, x) = (signV a ++ (printC d x).extract 0 (((printC d x).size : Int) + x).toNat ++ mkS [46] ++ (printC d x).extract (((printC d x).size : Int) + x).toNat (printC d x).size, 0) := by
 unfold printV
 rw [if_neg (show ¬ ¬ formN (a, d, x) = 0 from fun k => k h)]
 simp only
 rw [if_neg (by omega), if_pos hB]
theorem print_C {a : Bool} {d : ByteArray} {x : Int} (h : numV a d x = 0) (hA : ¬ (0 <= x /\ (d.size : Int) + x <= 21)) (hB : ¬ (x < 0 /\ -21 <= x)) : printV (a, d, x) = (signV a ++ d.extract 0 1 ++ (if 1 < d.size then mkS [46] else ByteArray.empty) ++ d.extract 1 d.size ++ mkS [101] ++ smallText (x + d.size - 1), 0) := by
 unfold printV
 rw [if_neg (show ¬ ¬ formN (a, d, x) = 0 from fun k => k h)]
 simp only
 rw [if_neg hA, if_neg hB]
def heads_nprint : List Hd := []
def eZ197 : E := (.lit (.string .empty))
def eZ198 : E := (.c 2 .v0)
def eZ199 : E := (.pr .slen [(.c 1 .v0)])
def eZ200 : E := (.le (.pr (.iop .add .i64) [eZ199, eZ198]) (.i 21))
def eZ201 : E := (.le eZ199 (.i 1099511627776))
def eZ202 : E := (.lit (.string (mkS [48])))
def eZ203 : E := (.lit (.string (mkS [45])))
def eZ204 : E := (.app 20 [eZ202, eZ198])
def eZ205 : E := (.le (.pr .slen [eZ204]) (.i 1099511627776))
def eZ206 : E := (.lt eZ198 (.i 0))
def eZ207 : E := (.ge eZ198 (.i (-21)))
def eZ208 : E := (.pr (.iop .sub .i64) [(.pr (.iop .sub .i64) [(.i 1), eZ198]), eZ199])
def eZ209 : E := (.pr .ite [(.gt eZ208 (.i 0)), eZ208, (.i 0)])
def eZ210 : E := (.app 1000 [eZ202, eZ209])
def eZ211 : E := (.app 2020 [eZ202, eZ209])
def eZ212 : E := (.le (.pr .slen [(.app 20 [eZ202, eZ209])]) (.i 1099511627776))
def eZ213 : E := (.pr .scat [(.app 20 [eZ202, eZ209]), (.c 1 .v0)])
def eZ214 : E := (.pr (.iop .add .i64) [(.pr .slen [eZ213]), eZ198])
def eZ215 : E := (.le (.i 0) eZ214)
def eZ216 : E := (.le eZ214 (.pr .slen [eZ213]))
def eZ217 : E := (.pr .ssub [eZ213, (.i 0), eZ214])
def eZ218 : E := (.le (.pr .slen [eZ217]) (.i 1099511627776))
def eZ219 : E := (.le (.pr .slen [(.pr .scat [eZ203, eZ217])]) (.i 1099511627776))
def eZ220 : E := (.lit (.string (mkS [46])))
def eZ221 : E := (.pr .scat [(.pr .scat [eZ203, eZ217]), eZ220])
def eZ222 : E := (.le (.pr .slen [eZ221]) (.i 1099511627776))
def eZ223 : E := (.pr .ssub [eZ213, eZ214, (.pr .slen [eZ213])])
def eZ224 : E := (.le (.pr .slen [eZ223]) (.i 1099511627776))
def eZ225 : E := (.pr .row [(.pr .scat [eZ221, eZ223]), (.i 0)])
def eZ226 : E := (.gt eZ199 (.i 1))
def eZ227 : E := (.le (.i 1) eZ199)
def eZ228 : E := (.pr .ssub [(.c 1 .v0), (.i 0), (.i 1)])
def eZ229 : E := (.le (.pr .slen [eZ228]) (.i 1099511627776))
def eZ230 : E := (.pr .scat [eZ203, eZ228])
def eZ231 : E := (.le (.pr .slen [eZ230]) (.i 1099511627776))
def eZ232 : E := (.le (.pr .slen [(.pr .scat [eZ230, eZ220])]) (.i 1099511627776))
def eZ233 : E := (.pr .ssub [(.c 1 .v0), (.i 1), eZ199])
def eZ234 : E := (.le (.pr .slen [eZ233]) (.i 1099511627776))
def eZ235 : E := (.pr .scat [(.pr .scat [eZ230, eZ220]), eZ233])
def eZ236 : E := (.le (.pr .slen [eZ235]) (.i 1099511627776))
def eZ237 : E := (.pr (.iop .sub .i64) [(.pr (.iop .add .i64) [eZ198, eZ199]), (.i 1)])
def eZ238 : E := (.app 1000 [eZ237])
def eZ239 : E := (.app 2081 [eZ237])
def eZ240 : E := (.lit (.string (mkS [101])))
def eZ241 : E := (.le (.pr .slen [(.pr .scat [eZ235, eZ240])]) (.i 1099511627776))
def eZ242 : E := (.app 81 [eZ237])
def eZ243 : E := (.le (.pr .slen [eZ242]) (.i 1099511627776))
def eZ244 : E := (.pr .row [(.pr .scat [(.pr .scat [eZ235, eZ240]), eZ242]), (.i 0)])
def eZ245 : E := (.le (.pr .slen [(.pr .scat [eZ230, eZ197])]) (.i 1099511627776))
def eZ246 : E := (.pr .scat [(.pr .scat [eZ230, eZ197]), eZ233])
def eZ247 : E := (.le (.pr .slen [eZ246]) (.i 1099511627776))
def eZ248 : E := (.le (.pr .slen [(.pr .scat [eZ246, eZ240])]) (.i 1099511627776))
def eZ249 : E := (.pr .row [(.pr .scat [(.pr .scat [eZ246, eZ240]), eZ242]), (.i 0)])
def eZ250 : E := (.le (.pr .slen [(.pr .scat [eZ197, eZ217])]) (.i 1099511627776))
def eZ251 : E := (.pr .scat [(.pr .scat [eZ197, eZ217]), eZ220])
def eZ252 : E := (.le (.pr .slen [eZ251]) (.i 1099511627776))
def eZ253 : E := (.pr .row [(.pr .scat [eZ251, eZ223]), (.i 0)])
def eZ254 : E := (.pr .scat [eZ197, eZ228])
def eZ255 : E := (.le (.pr .slen [eZ254]) (.i 1099511627776))
def eZ256 : E := (.le (.pr .slen [(.pr .scat [eZ254, eZ220])]) (.i 1099511627776))
def eZ257 : E := (.pr .scat [(.pr .scat [eZ254, eZ220]), eZ233])
def eZ258 : E := (.le (.pr .slen [eZ257]) (.i 1099511627776))
def eZ259 : E := (.le (.pr .slen [(.pr .scat [eZ257, eZ240])]) (.i 1099511627776))
def eZ260 : E := (.pr .row [(.pr .scat [(.pr .scat [eZ257, eZ240]), eZ242]), (.i 0)])
def eZ261 : E := (.le (.pr .slen [(.pr .scat [eZ254, eZ197])]) (.i 1099511627776))
def eZ262 : E := (.pr .scat [(.pr .scat [eZ254, eZ197]), eZ233])
def eZ263 : E := (.le (.pr .slen [eZ262]) (.i 1099511627776))
def eZ264 : E := (.le (.pr .slen [(.pr .scat [eZ262, eZ240])]) (.i 1099511627776))
def eZ265 : E := (.pr .row [(.pr .scat [(.pr .scat [eZ262, eZ240]), eZ242]), (.i 0)])
def entry_nprint : Tree :=
 (.giv (.app 1000 [(.r3 .v0)])
 (.ite (.ne (.app 5 [(.r3 .v0)]) (.i 0))
 (.rt (.pr .row [eZ197, (.app 5 [(.r3 .v0)])]))
 (.ite (.c 0 .v0)
 (.ite (.ge eZ198 (.i 0))
 (.ite eZ200
 (.giv eZ201
 (.giv (.app 1000 [eZ202, eZ198])
 (.giv (.app 2020 [eZ202, eZ198])
 (.giv (.le (.pr .slen [(.pr .scat [eZ203, (.c 1 .v0)])]) (.i 1099511627776))
 (.giv eZ205
 (.rt (.pr .row [(.pr .scat [(.pr .scat [eZ203, (.c 1 .v0)]), eZ204]), (.i 0)])))))))
 (.ite eZ206
 (.ite eZ207
 (.giv eZ210
 (.giv eZ211
 (.giv eZ212
 (.giv eZ201
 (.giv eZ215
 (.giv eZ216
 (.giv eZ218
 (.giv eZ219
 (.giv eZ222
 (.giv eZ224
 (.rt eZ225)))))))))))
 (.ite eZ226
 (.giv eZ227
 (.giv eZ229
 (.giv eZ231
 (.giv eZ232
 (.giv eZ234
 (.giv eZ236
 (.giv eZ238
 (.giv eZ239
 (.giv eZ241
 (.giv eZ243
 (.rt eZ244)))))))))))
 (.giv eZ227
 (.giv eZ229
 (.giv eZ231
 (.giv eZ245
 (.giv eZ234
 (.giv eZ247
 (.giv eZ238
 (.giv eZ239
 (.giv eZ248
 (.giv eZ243
 (.rt eZ249)))))))))))))
 (.ite eZ226
 (.giv eZ227
 (.giv eZ229
 (.giv eZ231
 (.giv eZ232
 (.giv eZ234
 (.giv eZ236
 (.giv eZ238
 (.giv eZ239
 (.giv eZ241
 (.giv eZ243
 (.rt eZ244)))))))))))
 (.giv eZ227
 (.giv eZ229
 (.giv eZ231
 (.giv eZ245
 (.giv eZ234
 (.giv eZ247
 (.giv eZ238
 (.giv eZ239
 (.giv eZ248
 (.giv eZ243
 (.rt eZ249))))))))))))))
 (.ite eZ206
 (.ite eZ207
 (.giv eZ210
 (.giv eZ211
 (.giv eZ212
 (.giv eZ201
 (.giv eZ215
 (.giv eZ216
 (.giv eZ218
 (.giv eZ219
 (.giv eZ222
 (.giv eZ224
 (.rt eZ225)))))))))))
 (.ite eZ226
 (.giv eZ227
 (.giv eZ229
 (.giv eZ231
 (.giv eZ232
 (.giv eZ234
 (.giv eZ236
 (.giv eZ238
 (.giv eZ239
 (.giv eZ241
 (.giv eZ243
 (.rt eZ244)))))))))))
 (.giv eZ227
 (.giv eZ229
 (.giv eZ231
 (.giv eZ245
 (.giv eZ234
 (.giv eZ247
 (.giv eZ238
 (.giv eZ239
 (.giv eZ248
 (.giv eZ243
 (.rt eZ249)))))))))))))
 (.ite eZ226
 (.giv eZ227
 (.giv eZ229
 (.giv eZ231
 (.giv eZ232
 (.giv eZ234
 (.giv eZ236
 (.giv eZ238
 (.giv eZ239
 (.giv eZ241
 (.giv eZ243
 (.rt eZ244)))))))))))
 (.giv eZ227
 (.giv eZ229
 (.giv eZ231
 (.giv eZ245
 (.giv eZ234
 (.giv eZ247
 (.giv eZ238
 (.giv eZ239
 (.giv eZ248
 (.giv eZ243
 (.rt eZ249))))))))))))))
 (.ite (.ge eZ198 (.i 0))
 (.ite eZ200
 (.giv eZ201
 (.giv (.app 1000 [eZ202, eZ198])
 (.giv (.app 2020 [eZ202, eZ198])
 (.giv (.le (.pr .slen [(.pr .scat [eZ197, (.c 1 .v0)])]) (.i 1099511627776))
 (.giv eZ205
 (.rt (.pr .row [(.pr .scat [(.pr .scat [eZ197, (.c 1 .v0)]), eZ204]), (.i 0)])))))))
 (.ite eZ206
 (.ite eZ207
 (.giv eZ210
 (.giv eZ211
 (.giv eZ212
 (.giv eZ201
 (.giv eZ215
 (.giv eZ216
 (.giv eZ218
 (.giv eZ250
 (.giv eZ252
 (.giv eZ224
 (.rt eZ253)))))))))))
 (.ite eZ226
 (.giv eZ227
 (.giv eZ229
 (.giv eZ255
 (.giv eZ256
 (.giv eZ234
 (.giv eZ258
 (.giv eZ238
 (.giv eZ239
 (.giv eZ259
 (.giv eZ243
 (.rt eZ260)))))))))))
 (.giv eZ227
 (.giv eZ229
 (.giv eZ255
 (.giv eZ261
 (.giv eZ234
 (.giv eZ263
 (.giv eZ238
 (.giv eZ239
 (.giv eZ264
 (.giv eZ243
 (.rt eZ265)))))))))))))
 (.ite eZ226
 (.giv eZ227
 (.giv eZ229
 (.giv eZ255
 (.giv eZ256
 (.giv eZ234
 (.giv eZ258
 (.giv eZ238
 (.giv eZ239
 (.giv eZ259
 (.giv eZ243
 (.rt eZ260)))))))))))
 (.giv eZ227
 (.giv eZ229
 (.giv eZ255
 (.giv eZ261
 (.giv eZ234
 (.giv eZ263
 (.giv eZ238
 (.giv eZ239
 (.giv eZ264
 (.giv eZ243
 (.rt eZ265))))))))))))))
 (.ite eZ206
 (.ite eZ207
 (.giv eZ210
 (.giv eZ211
 (.giv eZ212
 (.giv eZ201
 (.giv eZ215
 (.giv eZ216
 (.giv eZ218
 (.giv eZ250
 (.giv eZ252
 (.giv eZ224
 (.rt eZ253)))))))))))
 (.ite eZ226
 (.giv eZ227
 (.giv eZ229
 (.giv eZ255
 (.giv eZ256
 (.giv eZ234
 (.giv eZ258
 (.giv eZ238
 (.giv eZ239
 (.giv eZ259
 (.giv eZ243
 (.rt eZ260)))))))))))
 (.giv eZ227
 (.giv eZ229
 (.giv eZ255
 (.giv eZ261
 (.giv eZ234
 (.giv eZ263
 (.giv eZ238
 (.giv eZ239
 (.giv eZ264
 (.giv eZ243
 (.rt eZ265)))))))))))))
 (.ite eZ226
 (.giv eZ227
 (.giv eZ229
 (.giv eZ255
 (.giv eZ256
 (.giv eZ234
 (.giv eZ258
 (.giv eZ238
 (.giv eZ239
 (.giv eZ259
 (.giv eZ243
 (.rt eZ260)))))))))))
 (.giv eZ227
 (.giv eZ229
 (.giv eZ255
 (.giv eZ261
 (.giv eZ234
 (.giv eZ263
 (.giv eZ238
 (.giv eZ239
 (.giv eZ264
 (.giv eZ243
 (.rt eZ265)))))))))))))))))
def trees_nprint : List Tree := []
noncomputable def deps_nprint : List Sig := [q_numcheck, q_repeat, q_itoa]
theorem ok_nprint : check q_nprint deps_nprint heads_nprint entry_nprint trees_nprint = true := by kernel_rfl
set_option maxHeartbeats 4000000 in
theorem nprint_more (n : Nat) : @Ok (I n) q_nprint (fun ds => okD n ds /\ 10 < n) := by
 letI := I n
 refine fn_okS (hphi n) ok_nprint (by
  intro q hq
  simp only [deps_nprint, List.mem_cons, List.not_mem_nil, or_false] at hq
  rcases hq with rfl | rfl | rfl
  ·exact okS_of (numcheck_ok n)
  ·exact repeat_ok n
  ·exact itoa_ok n) (fun _ _ _ => False) (fun _ _ => 0) ?_ (fun j h t d ds hj => by simp [heads_nprint] at hj)
 intro ds hf ⟨hp, hn⟩
 obtain ⟨a, d, x, rfl⟩ := one_num hf
 have hP : @Interp.phi (I n) 91 [.row [bD a, sD d, iD x]] = .row [sD (printV (a, d, x)).1, iD (printV (a, d, x)).2] := rfl
 have oi : ∀ k : Int, okD n [iD k] := fun k => okD_one.2 ⟨by simp only [D.sz]; omega, by simp only [D.Lim]⟩
 have oz : ∀ k : Int, okD n [sD (mkS [48]), iD k] := fun k => okD_two.2 ⟨by simp only [D.sz]; omega, lim_sD.2 (by decide), trivial⟩
 by_cases hv : numV a d x = 0
 case neg =>
  have h10 := (numV_or a d x).resolve_left hv
  simp only [entry_nprint, eZ197, eZ198, eZ199, eZ200, eZ201, eZ202, eZ203, eZ204, eZ205, eZ206, eZ207, eZ208, eZ209, eZ210, eZ211, eZ212, eZ213, eZ214, eZ215, eZ216, eZ217, eZ218, eZ219, eZ220, eZ221, eZ222, eZ223, eZ224, eZ225, eZ226, eZ227, eZ228, eZ229, eZ230, eZ231, eZ232, eZ233, eZ234, eZ235, eZ236, eZ237, eZ238, eZ239, eZ240, eZ241, eZ242, eZ243, eZ244, eZ245, eZ246, eZ247, eZ248, eZ249, eZ250, eZ251, eZ252, eZ253, eZ254, eZ255, eZ256, eZ257, eZ258, eZ259, eZ260, eZ261, eZ262, eZ263, eZ264, eZ265, q_nprint, Tree.holds, Out.den, E.den, E.denL, dn, List.getD_cons_zero, List.getD_cons_succ, List.length_map, phi_1000, phi_numcheck, hP, row_at0, row_at1, row_at2, hp, print_bad (t := (a, d, x)) hv, h10]
  exact ⟨fun _ => trivial, fun h => absurd h (by decide)⟩
 obtain ⟨hd, hpos, b1, b2, b3, _⟩ := num_first (t := (a, d, x)) hv
 simp only at hpos b1 b2 b3
 obtain ⟨c1, c2, c3⟩ := printC_size b2 b3 hpos b1
 have hst : (smallText (x + d.size - 1)).size <= 7 := smallText_size (by omega)
 have f1 : zer (if 0 < 1 - x - (d.size : Int) then 1 - x - d.size else 0) ++ d = printC d x := rfl
 have w1 : IntKind.i64.wrap ((d.size : Int) + x) = d.size + x := wrapI (by omega) (by omega)
 have w2 : IntKind.i64.wrap (1 - x) = 1 - x := wrapI (by omega) (by omega)
 have w3 : IntKind.i64.wrap (1 - x - (d.size : Int)) = 1 - x - d.size := wrapI (by omega) (by omega)
 have w4 : IntKind.i64.wrap (x + (d.size : Int)) = x + d.size := wrapI (by omega) (by omega)
 have w5 : IntKind.i64.wrap (x + (d.size : Int) - 1) = x + d.size - 1 := wrapI (by omega) (by omega)
 have w6 : IntKind.i64.wrap (((printC d x).size : Int) + x) = (printC d x).size + x := wrapI (by omega) (by omega)
 have e45 : (mkS [45]).size = 1 := rfl
 have e46 : (mkS [46]).size = 1 := rfl
 have e101 : (mkS [101]).size = 1 := rfl
 have e0 : (ByteArray.empty).size = 0 := rfl
 have h1n : (1 : Int).toNat = 1 := rfl
 simp only [entry_nprint, eZ197, eZ198, eZ199, eZ200, eZ201, eZ202, eZ203, eZ204, eZ205, eZ206, eZ207, eZ208, eZ209, eZ210, eZ211, eZ212, eZ213, eZ214, eZ215, eZ216, eZ217, eZ218, eZ219, eZ220, eZ221, eZ222, eZ223, eZ224, eZ225, eZ226, eZ227, eZ228, eZ229, eZ230, eZ231, eZ232, eZ233, eZ234, eZ235, eZ236, eZ237, eZ238, eZ239, eZ240, eZ241, eZ242, eZ243, eZ244, eZ245, eZ246, eZ247, eZ248, eZ249, eZ250, eZ251, eZ252, eZ253, eZ254, eZ255, eZ256, eZ257, eZ258, eZ259, eZ260, eZ261, eZ262, eZ263, eZ264, eZ265, q_nprint, Tree.holds, Out.den, E.den, E.denL, dn, List.getD_cons_zero, List.getD_cons_succ, List.length_map, phi_1000, phi_numcheck, phi_repeat, pre_repeat, phi_itoa, pre_itoa, hP, row_at0, row_at1, row_at2, hp, hv, bif_iD, oi, oz, w2, w3, f1, w1, w4, w5, w6, Int.toNat_zero, h1n, Int.toNat_natCast, not_true_eq_false, false_implies, true_implies, true_and]
 have hA := fun h => print_A (a := a) hv h
 have hB := fun h => print_B (a := a) hv h
 have hC := fun h h' => print_C (a := a) hv h h'
 have hz : (if 0 < 1 - x - (d.size : Int) then 1 - x - (d.size : Int) else 0) <= 1000 /\ 0 <= (if 0 < 1 - x - (d.size : Int) then 1 - x - (d.size : Int) else 0) := by split <;> omega
 generalize (if 0 < 1 - x - (d.size : Int) then 1 - x - (d.size : Int) else 0) = Z at *
 generalize printV (a, d, x) = R at *
 generalize printC d x = c at *
 generalize smallText (x + d.size - 1) = st at *
 have k1 : 1 < d.size -> (if 1 < d.size then mkS [46] else ByteArray.empty) = mkS [46] := fun h => if_pos h
 have k0 : ¬ 1 < d.size -> (if 1 < d.size then mkS [46] else ByteArray.empty) = ByteArray.empty := fun h => if_neg h
 cases a
 all_goals
  simp only [Bool.false_eq_true, reduceCtorEq, false_implies, true_implies, true_and, and_true]
  repeat' first | apply And.intro | intro _
 all_goals first
  | omega
  | (simp only [cat_size, zer_size, ByteArray.size_extract, e45, e46, e101, e0]; omega)
  | (rw [hA (by omega)]; rfl)
  | (rw [hB (by omega)]; rfl)
  | (rw [hC (by omega) (by omega), k1 (by omega)]; rfl)
  | (rw [hC (by omega) (by omega), k0 (by omega)]; rfl)
theorem nprint_ok (n : Nat) : @Ok (I n) q_nprint (okD n) :=
 ok_irrel (by decide) (@Ok.less (I (n + 20)) _ _ _ (nprint_more (n + 20)) fun ds h => ⟨⟨by have := h.1; omega, h.2⟩, by omega⟩)
def heads_qprint : List Hd := []
def eZ266 : E := (.c 2 .v0)
def eZ267 : E := (.pr .slen [(.c 1 .v0)])
def eZ268 : E := (.pr (.iop .add .i64) [eZ267, eZ266])
def eZ269 : E := (.le eZ267 (.i 1099511627776))
def eZ270 : E := (.lit (.string (mkS [45])))
def eZ271 : E := (.le (.pr .slen [(.app 37 [eZ266])]) (.i 1099511627776))
def eZ272 : E := (.lt eZ266 (.i 0))
def eZ273 : E := (.le (.pr (.neg .i64) [eZ266]) (.i 21))
def eZ274 : E := (.le eZ267 (.pr (.neg .i64) [eZ266]))
def eZ275 : E := (.pr (.iop .sub .i64) [(.pr (.iop .sub .i64) [(.i 1), eZ266]), eZ267])
def eZ276 : E := (.app 1000 [eZ275])
def eZ277 : E := (.app 2037 [eZ275])
def eZ278 : E := (.le (.pr .slen [(.app 37 [eZ275])]) (.i 1099511627776))
def eZ279 : E := (.pr .scat [(.app 37 [eZ275]), (.c 1 .v0)])
def eZ280 : E := (.pr (.iop .add .i64) [(.pr .slen [eZ279]), eZ266])
def eZ281 : E := (.le (.i 0) eZ280)
def eZ282 : E := (.le eZ280 (.pr .slen [eZ279]))
def eZ283 : E := (.pr .ssub [eZ279, (.i 0), eZ280])
def eZ284 : E := (.le (.pr .slen [eZ283]) (.i 1099511627776))
def eZ285 : E := (.le (.pr .slen [(.pr .scat [eZ270, eZ283])]) (.i 1099511627776))
def eZ286 : E := (.lit (.string (mkS [46])))
def eZ287 : E := (.pr .scat [(.pr .scat [eZ270, eZ283]), eZ286])
def eZ288 : E := (.le (.pr .slen [eZ287]) (.i 1099511627776))
def eZ289 : E := (.pr .ssub [eZ279, eZ280, (.pr .slen [eZ279])])
def eZ290 : E := (.le (.pr .slen [eZ289]) (.i 1099511627776))
def eZ291 : E := (.pr .row [(.pr .scat [eZ287, eZ289]), (.i 0)])
def eZ292 : E := (.le (.i 0) eZ268)
def eZ293 : E := (.le eZ268 eZ267)
def eZ294 : E := (.pr .ssub [(.c 1 .v0), (.i 0), eZ268])
def eZ295 : E := (.le (.pr .slen [eZ294]) (.i 1099511627776))
def eZ296 : E := (.le (.pr .slen [(.pr .scat [eZ270, eZ294])]) (.i 1099511627776))
def eZ297 : E := (.pr .scat [(.pr .scat [eZ270, eZ294]), eZ286])
def eZ298 : E := (.le (.pr .slen [eZ297]) (.i 1099511627776))
def eZ299 : E := (.pr .ssub [(.c 1 .v0), eZ268, eZ267])
def eZ300 : E := (.le (.pr .slen [eZ299]) (.i 1099511627776))
def eZ301 : E := (.pr .row [(.pr .scat [eZ297, eZ299]), (.i 0)])
def eZ302 : E := (.le (.i 1) eZ267)
def eZ303 : E := (.gt eZ267 (.i 1))
def eZ304 : E := (.pr .ssub [(.c 1 .v0), (.i 0), (.i 1)])
def eZ305 : E := (.le (.pr .slen [eZ304]) (.i 1099511627776))
def eZ306 : E := (.le (.pr .slen [(.pr .scat [eZ304, eZ286])]) (.i 1099511627776))
def eZ307 : E := (.pr .ssub [(.c 1 .v0), (.i 1), eZ267])
def eZ308 : E := (.le (.pr .slen [eZ307]) (.i 1099511627776))
def eZ309 : E := (.pr .scat [(.pr .scat [eZ304, eZ286]), eZ307])
def eZ310 : E := (.le (.pr .slen [eZ309]) (.i 1099511627776))
def eZ311 : E := (.le (.pr .slen [(.pr .scat [eZ270, eZ309])]) (.i 1099511627776))
def eZ312 : E := (.pr (.iop .sub .i64) [(.pr (.iop .add .i64) [eZ266, eZ267]), (.i 1)])
def eZ313 : E := (.app 1000 [eZ312])
def eZ314 : E := (.app 2102 [eZ312])
def eZ315 : E := (.lit (.string (mkS [101])))
def eZ316 : E := (.pr .scat [(.pr .scat [eZ270, eZ309]), eZ315])
def eZ317 : E := (.le (.pr .slen [eZ316]) (.i 1099511627776))
def eZ318 : E := (.app 102 [eZ312])
def eZ319 : E := (.le (.pr .slen [eZ318]) (.i 1099511627776))
def eZ320 : E := (.pr .row [(.pr .scat [eZ316, eZ318]), (.i 0)])
def eZ321 : E := (.le (.pr .slen [(.pr .scat [eZ270, eZ304])]) (.i 1099511627776))
def eZ322 : E := (.pr .scat [(.pr .scat [eZ270, eZ304]), eZ315])
def eZ323 : E := (.le (.pr .slen [eZ322]) (.i 1099511627776))
def eZ324 : E := (.pr .row [(.pr .scat [eZ322, eZ318]), (.i 0)])
def eZ325 : E := (.lit (.string .empty))
def eZ326 : E := (.le (.pr .slen [(.pr .scat [eZ325, eZ283])]) (.i 1099511627776))
def eZ327 : E := (.pr .scat [(.pr .scat [eZ325, eZ283]), eZ286])
def eZ328 : E := (.le (.pr .slen [eZ327]) (.i 1099511627776))
def eZ329 : E := (.pr .row [(.pr .scat [eZ327, eZ289]), (.i 0)])
def eZ330 : E := (.le (.pr .slen [(.pr .scat [eZ325, eZ294])]) (.i 1099511627776))
def eZ331 : E := (.pr .scat [(.pr .scat [eZ325, eZ294]), eZ286])
def eZ332 : E := (.le (.pr .slen [eZ331]) (.i 1099511627776))
def eZ333 : E := (.pr .row [(.pr .scat [eZ331, eZ299]), (.i 0)])
def eZ334 : E := (.le (.pr .slen [(.pr .scat [eZ325, eZ309])]) (.i 1099511627776))
def eZ335 : E := (.pr .scat [(.pr .scat [eZ325, eZ309]), eZ315])
def eZ336 : E := (.le (.pr .slen [eZ335]) (.i 1099511627776))
def eZ337 : E := (.pr .row [(.pr .scat [eZ335, eZ318]), (.i 0)])
def eZ338 : E := (.le (.pr .slen [(.pr .scat [eZ325, eZ304])]) (.i 1099511627776))
def eZ339 : E := (.pr .scat [(.pr .scat [eZ325, eZ304]), eZ315])
def eZ340 : E := (.le (.pr .slen [eZ339]) (.i 1099511627776))
def eZ341 : E := (.pr .row [(.pr .scat [eZ339, eZ318]), (.i 0)])
def entry_qprint : Tree :=
 (.giv (.app 1000 [(.r3 .v0)])
 (.ite (.app 96 [(.r3 .v0)])
 (.ite (.c 0 .v0)
 (.ite (.ge eZ266 (.i 0))
 (.ite (.le eZ268 (.i 21))
 (.giv eZ269
 (.giv (.app 1000 [eZ266])
 (.giv (.app 2037 [eZ266])
 (.giv (.le (.pr .slen [(.pr .scat [eZ270, (.c 1 .v0)])]) (.i 1099511627776))
 (.giv eZ271
 (.rt (.pr .row [(.pr .scat [(.pr .scat [eZ270, (.c 1 .v0)]), (.app 37 [eZ266])]), (.i 0)])))))))
 (.ite eZ272
 (.ite eZ273
 (.ite eZ274
 (.giv eZ276
 (.giv eZ277
 (.giv eZ278
 (.giv eZ269
 (.giv eZ281
 (.giv eZ282
 (.giv eZ284
 (.giv eZ285
 (.giv eZ288
 (.giv eZ290
 (.rt eZ291)))))))))))
 (.giv eZ292
 (.giv eZ293
 (.giv eZ295
 (.giv eZ296
 (.giv eZ298
 (.giv eZ300
 (.rt eZ301))))))))
 (.giv eZ302
 (.ite eZ303
 (.giv eZ305
 (.giv eZ306
 (.giv eZ308
 (.giv eZ310
 (.giv eZ311
 (.giv eZ313
 (.giv eZ314
 (.giv eZ317
 (.giv eZ319
 (.rt eZ320))))))))))
 (.giv eZ305
 (.giv eZ321
 (.giv eZ313
 (.giv eZ314
 (.giv eZ323
 (.giv eZ319
 (.rt eZ324))))))))))
 (.giv eZ302
 (.ite eZ303
 (.giv eZ305
 (.giv eZ306
 (.giv eZ308
 (.giv eZ310
 (.giv eZ311
 (.giv eZ313
 (.giv eZ314
 (.giv eZ317
 (.giv eZ319
 (.rt eZ320))))))))))
 (.giv eZ305
 (.giv eZ321
 (.giv eZ313
 (.giv eZ314
 (.giv eZ323
 (.giv eZ319
 (.rt eZ324)))))))))))
 (.ite eZ272
 (.ite eZ273
 (.ite eZ274
 (.giv eZ276
 (.giv eZ277
 (.giv eZ278
 (.giv eZ269
 (.giv eZ281
 (.giv eZ282
 (.giv eZ284
 (.giv eZ285
 (.giv eZ288
 (.giv eZ290
 (.rt eZ291)))))))))))
 (.giv eZ292
 (.giv eZ293
 (.giv eZ295
 (.giv eZ296
 (.giv eZ298
 (.giv eZ300
 (.rt eZ301))))))))
 (.giv eZ302
 (.ite eZ303
 (.giv eZ305
 (.giv eZ306
 (.giv eZ308
 (.giv eZ310
 (.giv eZ311
 (.giv eZ313
 (.giv eZ314
 (.giv eZ317
 (.giv eZ319
 (.rt eZ320))))))))))
 (.giv eZ305
 (.giv eZ321
 (.giv eZ313
 (.giv eZ314
 (.giv eZ323
 (.giv eZ319
 (.rt eZ324))))))))))
 (.giv eZ302
 (.ite eZ303
 (.giv eZ305
 (.giv eZ306
 (.giv eZ308
 (.giv eZ310
 (.giv eZ311
 (.giv eZ313
 (.giv eZ314
 (.giv eZ317
 (.giv eZ319
 (.rt eZ320))))))))))
 (.giv eZ305
 (.giv eZ321
 (.giv eZ313
 (.giv eZ314
 (.giv eZ323
 (.giv eZ319
 (.rt eZ324)))))))))))
 (.ite (.ge eZ266 (.i 0))
 (.ite (.le eZ268 (.i 21))
 (.giv eZ269
 (.giv (.app 1000 [eZ266])
 (.giv (.app 2037 [eZ266])
 (.giv (.le (.pr .slen [(.pr .scat [eZ325, (.c 1 .v0)])]) (.i 1099511627776))
 (.giv eZ271
 (.rt (.pr .row [(.pr .scat [(.pr .scat [eZ325, (.c 1 .v0)]), (.app 37 [eZ266])]), (.i 0)])))))))
 (.ite eZ272
 (.ite eZ273
 (.ite eZ274
 (.giv eZ276
 (.giv eZ277
 (.giv eZ278
 (.giv eZ269
 (.giv eZ281
 (.giv eZ282
 (.giv eZ284
 (.giv eZ326
 (.giv eZ328
 (.giv eZ290
 (.rt eZ329)))))))))))
 (.giv eZ292
 (.giv eZ293
 (.giv eZ295
 (.giv eZ330
 (.giv eZ332
 (.giv eZ300
 (.rt eZ333))))))))
 (.giv eZ302
 (.ite eZ303
 (.giv eZ305
 (.giv eZ306
 (.giv eZ308
 (.giv eZ310
 (.giv eZ334
 (.giv eZ313
 (.giv eZ314
 (.giv eZ336
 (.giv eZ319
 (.rt eZ337))))))))))
 (.giv eZ305
 (.giv eZ338
 (.giv eZ313
 (.giv eZ314
 (.giv eZ340
 (.giv eZ319
 (.rt eZ341))))))))))
 (.giv eZ302
 (.ite eZ303
 (.giv eZ305
 (.giv eZ306
 (.giv eZ308
 (.giv eZ310
 (.giv eZ334
 (.giv eZ313
 (.giv eZ314
 (.giv eZ336
 (.giv eZ319
 (.rt eZ337))))))))))
 (.giv eZ305
 (.giv eZ338
 (.giv eZ313
 (.giv eZ314
 (.giv eZ340
 (.giv eZ319
 (.rt eZ341)))))))))))
 (.ite eZ272
 (.ite eZ273
 (.ite eZ274
 (.giv eZ276
 (.giv eZ277
 (.giv eZ278
 (.giv eZ269
 (.giv eZ281
 (.giv eZ282
 (.giv eZ284
 (.giv eZ326
 (.giv eZ328
 (.giv eZ290
 (.rt eZ329)))))))))))
 (.giv eZ292
 (.giv eZ293
 (.giv eZ295
 (.giv eZ330
 (.giv eZ332
 (.giv eZ300
 (.rt eZ333))))))))
 (.giv eZ302
 (.ite eZ303
 (.giv eZ305
 (.giv eZ306
 (.giv eZ308
 (.giv eZ310
 (.giv eZ334
 (.giv eZ313
 (.giv eZ314
 (.giv eZ336
 (.giv eZ319
 (.rt eZ337))))))))))
 (.giv eZ305
 (.giv eZ338
 (.giv eZ313
 (.giv eZ314
 (.giv eZ340
 (.giv eZ319
 (.rt eZ341))))))))))
 (.giv eZ302
 (.ite eZ303
 (.giv eZ305
 (.giv eZ306
 (.giv eZ308
 (.giv eZ310
 (.giv eZ334
 (.giv eZ313
 (.giv eZ314
 (.giv eZ336
 (.giv eZ319
 (.rt eZ337))))))))))
 (.giv eZ305
 (.giv eZ338
 (.giv eZ313
 (.giv eZ314
 (.giv eZ340
 (.giv eZ319
 (.rt eZ341))))))))))))
 (.rt (.pr .row [eZ325, (.i 10)]))))
def trees_qprint : List Tree := []
noncomputable def deps_qprint : List Sig := [q_qis, q_rzeros, q_qsmall]
theorem ok_qprint : check q_qprint deps_qprint heads_qprint entry_qprint trees_qprint = true := by kernel_rfl
set_option maxHeartbeats 4000000 in
theorem qprint_more (n : Nat) : @Ok (I n) q_qprint (fun ds => okD n ds /\ 10 < n) := by
 letI := I n
 refine fn_okS (hphi n) ok_qprint (by
  intro q hq
  simp only [deps_qprint, List.mem_cons, List.not_mem_nil, or_false] at hq
  rcases hq with rfl | rfl | rfl
  ·exact okS_of (qis_ok n)
  ·exact rzeros_ok n
  ·exact qsmall_ok n) (fun _ _ _ => False) (fun _ _ => 0) ?_ (fun j h t d ds hj => by simp [heads_qprint] at hj)
 intro ds hf ⟨hp, hn⟩
 obtain ⟨a, d, x, rfl⟩ := one_num hf
 have hP : @Interp.phi (I n) 103 [.row [bD a, sD d, iD x]] = .row [sD (printV (a, d, x)).1, iD (printV (a, d, x)).2] := rfl
 have hI : @Interp.phi (I n) 96 [.row [bD a, sD d, iD x]] = bD (decide (numV a d x = 0)) := rfl
 have oi : ∀ k : Int, okD n [iD k] := fun k => okD_one.2 ⟨by simp only [D.sz]; omega, by simp only [D.Lim]⟩
 by_cases hv : numV a d x = 0
 case neg =>
  simp only [entry_qprint, eZ266, eZ267, eZ268, eZ269, eZ270, eZ271, eZ272, eZ273, eZ274, eZ275, eZ276, eZ277, eZ278, eZ279, eZ280, eZ281, eZ282, eZ283, eZ284, eZ285, eZ286, eZ287, eZ288, eZ289, eZ290, eZ291, eZ292, eZ293, eZ294, eZ295, eZ296, eZ297, eZ298, eZ299, eZ300, eZ301, eZ302, eZ303, eZ304, eZ305, eZ306, eZ307, eZ308, eZ309, eZ310, eZ311, eZ312, eZ313, eZ314, eZ315, eZ316, eZ317, eZ318, eZ319, eZ320, eZ321, eZ322, eZ323, eZ324, eZ325, eZ326, eZ327, eZ328, eZ329, eZ330, eZ331, eZ332, eZ333, eZ334, eZ335, eZ336, eZ337, eZ338, eZ339, eZ340, eZ341, q_qprint, Tree.holds, Out.den, E.den, E.denL, dn, List.getD_cons_zero, List.getD_cons_succ, List.length_map, phi_1000, hI, hP, row_at0, row_at1, row_at2, hp, print_bad (t := (a, d, x)) hv, decide_eq_true_eq, decide_eq_false_iff_not]
  exact ⟨fun h => absurd h hv, fun _ => trivial⟩
 obtain ⟨hd, hpos, b1, b2, b3, _⟩ := num_first (t := (a, d, x)) hv
 simp only at hpos b1 b2 b3
 obtain ⟨c1, c2, c3⟩ := printC_size b2 b3 hpos b1
 have hst : (smallText (x + d.size - 1)).size <= 7 := smallText_size (by omega)
 have w1 : IntKind.i64.wrap ((d.size : Int) + x) = d.size + x := wrapI (by omega) (by omega)
 have w2 : IntKind.i64.wrap (1 - x) = 1 - x := wrapI (by omega) (by omega)
 have w3 : IntKind.i64.wrap (1 - x - (d.size : Int)) = 1 - x - d.size := wrapI (by omega) (by omega)
 have w4 : IntKind.i64.wrap (x + (d.size : Int)) = x + d.size := wrapI (by omega) (by omega)
 have w5 : IntKind.i64.wrap (x + (d.size : Int) - 1) = x + d.size - 1 := wrapI (by omega) (by omega)
 have w7 : IntKind.i64.wrap (-x) = -x := wrapI (by omega) (by omega)
 have e45 : (mkS [45]).size = 1 := rfl
 have e46 : (mkS [46]).size = 1 := rfl
 have e101 : (mkS [101]).size = 1 := rfl
 have e0 : (ByteArray.empty).size = 0 := rfl
 have h1n : (1 : Int).toNat = 1 := rfl
 simp only [entry_qprint, eZ266, eZ267, eZ268, eZ269, eZ270, eZ271, eZ272, eZ273, eZ274, eZ275, eZ276, eZ277, eZ278, eZ279, eZ280, eZ281, eZ282, eZ283, eZ284, eZ285, eZ286, eZ287, eZ288, eZ289, eZ290, eZ291, eZ292, eZ293, eZ294, eZ295, eZ296, eZ297, eZ298, eZ299, eZ300, eZ301, eZ302, eZ303, eZ304, eZ305, eZ306, eZ307, eZ308, eZ309, eZ310, eZ311, eZ312, eZ313, eZ314, eZ315, eZ316, eZ317, eZ318, eZ319, eZ320, eZ321, eZ322, eZ323, eZ324, eZ325, eZ326, eZ327, eZ328, eZ329, eZ330, eZ331, eZ332, eZ333, eZ334, eZ335, eZ336, eZ337, eZ338, eZ339, eZ340, eZ341, q_qprint, Tree.holds, Out.den, E.den, E.denL, dn, List.getD_cons_zero, List.getD_cons_succ, List.length_map, phi_1000, hI, phi_rzeros, pre_rzeros, phi_qsmall, pre_qsmall, hP, row_at0, row_at1, row_at2, hp, hv, oi, w2, w3, w1, w4, w5, w7, Int.toNat_zero, h1n, Int.toNat_natCast, decide_eq_true_eq, decide_eq_false_iff_not, not_true_eq_false, false_implies, true_implies, true_and, and_true]
 have hA := fun h => print_A (a := a) hv h
 have hB := fun h => print_B (a := a) hv h
 have hC := fun h h' => print_C (a := a) hv h h'
 have hcz : (d.size : Int) <= -x -> zer (1 - x - (d.size : Int)) ++ d = printC d x := fun h => by
  unfold printC
  rw [if_pos (by omega)]
 have hcd : ¬ (d.size : Int) <= -x -> printC d x = d := fun h => by
  have e : (if 0 < 1 - x - (d.size : Int) then 1 - x - (d.size : Int) else 0) = 0 := by split <;> omega
  unfold printC
  rw [e]
  exact nil_cat d
 have w6 : IntKind.i64.wrap (((printC d x).size : Int) + x) = (printC d x).size + x := wrapI (by omega) (by omega)
 have k1 : 1 < d.size -> (if 1 < d.size then mkS [46] else ByteArray.empty) = mkS [46] := fun h => if_pos h
 have k0 : ¬ 1 < d.size -> (if 1 < d.size then mkS [46] else ByteArray.empty) = ByteArray.empty /\ d.extract 1 d.size = ByteArray.empty := fun h => ⟨if_neg h, size_zero.1 (by rw [ByteArray.size_extract]; omega)⟩
 have hzs : (zer (1 - x - (d.size : Int))).size <= 1000 := by rw [zer_size]; omega
 by_cases hk : (d.size : Int) <= -x
 ·rw [hcz hk]
  simp only [hk, w6, not_true_eq_false, false_implies, true_implies, true_and, and_true]
  generalize printV (a, d, x) = R at *
  generalize printC d x = c at *
  generalize smallText (x + d.size - 1) = st at *
  generalize zer (1 - x - (d.size : Int)) = zz at *
  cases a
  all_goals
   simp only [Bool.false_eq_true, reduceCtorEq, false_implies, true_implies, true_and, and_true]
   repeat' first | apply And.intro | intro _
  all_goals first
   | omega
   | (simp only [cat_size, zer_size, ByteArray.size_extract, e45, e46, e101, e0]; omega)
   | (rw [hA (by omega)]; rfl)
   | (rw [hB (by omega)]; rfl)
   | (rw [hC (by omega) (by omega), k1 (by omega)]; simp only [cat_assoc]; rfl)
   | (rw [hC (by omega) (by omega), (k0 (by omega)).1, (k0 (by omega)).2, cat_nil, cat_nil]; rfl)
 ·rw [hcd hk] at hB
  simp only [hk, not_false_eq_true, false_implies, true_implies, true_and, and_true]
  generalize printV (a, d, x) = R at *
  generalize smallText (x + d.size - 1) = st at *
  generalize zer (1 - x - (d.size : Int)) = zz at *
  cases a
  all_goals
   simp only [Bool.false_eq_true, reduceCtorEq, false_implies, true_implies, true_and, and_true]
   repeat' first | apply And.intro | intro _
  all_goals first
   | omega
   | (simp only [cat_size, zer_size, ByteArray.size_extract, e45, e46, e101, e0]; omega)
   | (rw [hA (by omega)]; rfl)
   | (rw [hB (by omega)]; rfl)
   | (rw [hC (by omega) (by omega), k1 (by omega)]; simp only [cat_assoc]; rfl)
   | (rw [hC (by omega) (by omega), (k0 (by omega)).1, (k0 (by omega)).2, cat_nil, cat_nil]; rfl)
theorem qprint_ok (n : Nat) : @Ok (I n) q_qprint (okD n) :=
 ok_irrel (by decide) (@Ok.less (I (n + 20)) _ _ _ (qprint_more (n + 20)) fun ds h => ⟨⟨by have := h.1; omega, h.2⟩, by omega⟩)
end Go.Proofs.YtflhikakndanjaaDoor.Vk
/- NumTexts: its function answers true. -/
namespace Go.Proofs.YtflhikakndanjaaDoor.Vk
open Go Go.Ab Go.RowKit
def heads_qcheck : List Hd := []
def entry_qcheck : Tree :=
 (.giv (.app 1000 [(.r3 .v0)])
 (.ite (.app 96 [(.r3 .v0)])
 (.rt (.i 0))
 (.rt (.i 10))))
def trees_qcheck : List Tree := []
noncomputable def deps_qcheck : List Sig := [q_qis]
theorem ok_qcheck : check q_qcheck deps_qcheck heads_qcheck entry_qcheck trees_qcheck = true := by kernel_rfl
theorem qcheck_ok (n : Nat) : @Ok (I n) q_qcheck (okD n) := by
 letI := I n
 refine fn_ok (hphi n) ok_qcheck (by
  intro q hq
  simp only [deps_qcheck, List.mem_singleton] at hq
  subst hq
  exact qis_ok n) (fun _ _ _ => False) (fun _ _ => 0) ?_ (fun j h t d ds hj => by simp [heads_qcheck] at hj)
 intro ds hf hp
 obtain ⟨a, d, x, rfl⟩ := one_num hf
 have hI : @Interp.phi (I n) 96 [.row [bD a, sD d, iD x]] = bD (decide (numV a d x = 0)) := rfl
 have hP : @Interp.phi (I n) 97 [.row [bD a, sD d, iD x]] = iD (numV a d x) := rfl
 simp only [entry_qcheck, q_qcheck, Tree.holds, Out.den, E.den, E.denL, dn, List.getD_cons_zero, List.getD_cons_succ, List.length_map, phi_1000, hI, hP, row_at0, row_at1, row_at2, hp, decide_eq_true_eq, decide_eq_false_iff_not]
 refine ⟨fun h => by rw [h], fun h => ?_⟩
 rw [(numV_or a d x).resolve_left h]
theorem str_num {d : List D} (h : FitL tb [.cell (.sc .s), .row 24] d) : ∃ (s : ByteArray) (t : NumT), d = [sD s, numD t] := by
 match d, h with
 | [x, y], ⟨h1, h2, _⟩ =>
  obtain ⟨s, rfl⟩ := fits_str h1
  obtain ⟨a, s', e, rfl⟩ := fit_num h2
  exact ⟨s, (a, s', e), rfl⟩
def heads_ntexts : List Hd := []
def eZ342 : E := (.c 0 (.app 101 [.v0]))
def entry_ntexts : Tree :=
 (.giv (.app 1000 [])
 (.ite (.gt (.pr .slen [.v0]) (.i 4096)) .ye
 (.ite (.gt (.pr .slen [(.c 1 .v1)]) (.i 4096)) .ye
 (.giv (.app 1000 [.v0])
 (.giv (.app 2090 [.v0])
 (.giv (.app 2101 [.v0])
 (.giv (.app 1000 [(.r3 .v1)])
 (.ite (.app 112 [])
 (.ite (.pr .and [(.pr (.bcmp .eql) [(.c 0 (.c 0 (.app 90 [.v0]))), (.c 0 eZ342)]), (.pr (.scmp .eql) [(.c 1 (.c 0 (.app 90 [.v0]))), (.c 1 eZ342)]), (.eq (.c 2 (.c 0 (.app 90 [.v0]))) (.c 2 eZ342))])
 (.ite (.eq (.c 1 (.app 90 [.v0])) (.c 1 (.app 101 [.v0])))
 (.ite (.pr (.scmp .eql) [(.c 0 (.app 91 [(.r3 .v1)])), (.c 0 (.app 103 [(.r3 .v1)]))])
 (.ite (.eq (.c 1 (.app 91 [(.r3 .v1)])) (.c 1 (.app 103 [(.r3 .v1)])))
 (.rt (.eq (.app 5 [(.r3 .v1)]) (.app 97 [(.r3 .v1)]))) .no) .no) .no) .no) .no))))))))
def trees_ntexts : List Tree := []
noncomputable def deps_ntexts : List Sig := [q_nparse, q_qparse, q_nprint, q_qprint, q_numcheck, q_qcheck, q_nawake]
theorem ok_ntexts : check q_ntexts deps_ntexts heads_ntexts entry_ntexts trees_ntexts = true := by kernel_rfl
theorem ntexts_ok (n : Nat) : @Ok (I n) q_ntexts (fun ds => 4 * D.szL ds + 200 <= n /\ D.LimL ds) := by
 letI := I n
 refine fn_okS (hphi n) ok_ntexts (by
  intro q hq
  simp only [deps_ntexts, List.mem_cons, List.not_mem_nil, or_false] at hq
  rcases hq with rfl | rfl | rfl | rfl | rfl | rfl | rfl
  ·exact nparse_ok n
  ·exact qparse_ok n
  ·exact okS_of (nprint_ok n)
  ·exact okS_of (qprint_ok n)
  ·exact okS_of (numcheck_ok n)
  ·exact okS_of (qcheck_ok n)
  ·exact okS_of (nawake_ok n)) (fun _ _ _ => False) (fun _ _ => 0) ?_ (fun j h t d ds hj => by simp [heads_ntexts] at hj)
 intro ds hf hp
 obtain ⟨s, t, rfl⟩ := str_num hf
 obtain ⟨hp1, hp2, hp3, _⟩ := hp
 rw [lim_numD] at hp3
 have hn : 8 < n := by omega
 have oz : okD n [] := ⟨by simp only [D.szL]; omega, by simp only [D.LimL]⟩
 have os : okD n [sD s] := okD_one.2 ⟨by simp only [D.sz]; omega, hp2⟩
 have ot : okD n [numD t] := okD_one.2 ⟨by rw [sz_numD]; omega, (lim_numD t).2 hp3⟩
 simp only [entry_ntexts, eZ342, q_ntexts, Tree.holds, Out.den, E.den, E.denL, dn, List.getD_cons_zero, List.getD_cons_succ, List.length_map, phi_1000, num_at0, num_at1, num_at2, num_put, phi_nparse, pre_nparse, phi_qparse, pre_qparse, phi_nprint, phi_qprint, phi_formN, phi_qcheck, phi_nawake, phi_ntexts, row_at0, row_at1, oz, os, ot]
 refine ⟨fun _ => trivial, fun _ => ⟨fun _ => trivial, fun _ => ⟨by omega, by omega, ?_⟩⟩⟩
 simp [eqS_t, eqI_t]
end Go.Proofs.YtflhikakndanjaaDoor.Vk
/- The law NumTexts: whatever is handed in, the law's function answers true and leaves it as it was. Conditions: those of the row alone. -/
namespace Go.Proofs.YtflhikakndanjaaDoor.VkNumTexts
open Go Go.Ab Go.RowKit Go.ChangeShapes Go.WideShapes Go.ChangeAt Go.Proofs.YtflhikakndanjaaDoor.Vk

theorem own : ownKnob Tryd.prog.godebug = none := by kernel_rfl
theorem laidOut : laidOutB Tryd.prog = true := by kernel_rfl
theorem met {W : World} (h : laidMetH Tryd.prog Rows.numTextsRow.laid W) : TabsMet tabs W := by
 rw [MakeChecks.laidMetH_plain _ _ _ (by kernel_rfl)] at h
 obtain ⟨ps, h, _, _⟩ := h
 haveI : Interp := ⟨fun _ _ => .nil⟩
 exact tabs_of_laid h
theorem tbIs : tbOk Tryd.prog tb = true := by kernel_rfl
theorem argsAre : argsOk Tryd.prog tb Tryd.f10.params.toList q_ntexts.args = true := by kernel_rfl

theorem trodAll_len {H : Type} {enc : TypeId × Value -> H} {P : Program} {w : World} {sp : Nat -> Bool} {held : Bool} : ∀ {ts : List TypeId} {vs : List Value} {ds : List (DataW H)} {ps : List MemPlace}, DataW.TrodAll enc P w 0 sp held ts vs ds ps -> ds.length = ts.length
 | [], [], [], _, _ => rfl
 | t :: ts, v :: vs, d :: ds, ps, h => by
  obtain ⟨p, q, h1, h2, rfl⟩ := h
  rw [List.length_cons, List.length_cons, trodAll_len h2]
 | [], [], _ :: _, _, h => h.elim
 | [], _ :: _, [], _, h => h.elim
 | [], _ :: _, _ :: _, _, h => h.elim
 | _ :: _, [], [], _, h => h.elim
 | _ :: _, [], _ :: _, _, h => h.elim
 | _ :: _, _ :: _, [], _, h => h.elim

theorem len_two {α : Type} {l : List α} (h : l.length = 2) : ∃ a b, l = [a, b] := by
 match l, h with
 | [a, b], _ => exact ⟨a, b, rfl⟩
theorem len_three {α : Type} {l : List α} (h : l.length = 3) : ∃ a b c, l = [a, b, c] := by
 match l, h with
 | [a, b, c], _ => exact ⟨a, b, c, rfl⟩
theorem contract (H : Type) (enc : TypeId × Value -> H) (W : World) (base : Nat) (args : Array Value) (ds gs : List (DataW H)) (before : List MemPlace)
  (hval : ∀ (j : Nat) t v, Tryd.f10.params[j]? = some t -> args[j]? = some v -> Value.okWide Tryd.prog W .any base t v)
  (hW : DataW.Whole enc Tryd.prog Tryd.f10.params.toList Rows.numTextsSpec.vars false W args.toList ds gs before)
  (hR : (DataW.weightsEach Tryd.prog (Tryd.f10.params.toList ++ (OpenSpec.ofChange Rows.numTextsSpec).bare.plain.varTypes Tryd.prog) (ds ++ gs)).all (· <= reachBytes) = true)
  (hL : laidMetH Tryd.prog Rows.numTextsRow.laid W) :
  Calls Tryd.prog 10 args W fun e W' => ∃ v, e = .returned v /\ Rows.numTextsSpec.post enc Tryd.prog Tryd.f10 false true false false W args v W' := by
 have hW' := hW
 obtain ⟨p, q, hA0, hV, rfl, hfz, hnd⟩ := hW
 have hA : DataW.TrodAll enc Tryd.prog W 0 (fun _ => true) true Tryd.f10.params.toList args.toList ds p := hA0
 obtain ⟨rfl, rfl⟩ := trodVars_none hV
 have hw : ∀ m, m ∈ DataW.weightsEach Tryd.prog Tryd.f10.params.toList ds -> m <= lim := fun m hm => by
  have h1 : m ∈ DataW.weightsEach Tryd.prog (Tryd.f10.params.toList ++ (OpenSpec.ofChange Rows.numTextsSpec).bare.plain.varTypes Tryd.prog) (ds ++ []) := by
   rw [show (OpenSpec.ofChange Rows.numTextsSpec).bare.plain.varTypes Tryd.prog = [] from rfl, List.append_nil, List.append_nil]; exact hm
  have h2 := List.all_eq_true.1 hR m h1
  exact Nat.le_trans (of_decide_eq_true h2) (by show 0x7ffffffff000 <= lim; decide)
 obtain ⟨xs, hx, hlim⟩ := args_read (P := Tryd.prog) tbIs argsAre (fun j t v h1 h2 => hval j t v (by simpa using h1) (by simpa using h2)) hA hw
 letI := I (4 * D.szL xs + 200)
 have hok := ntexts_ok (4 * D.szL xs + 200) W (fun _ _ => True) args xs (met hL) (fun _ _ _ _ _ => trivial) hx ⟨by omega, hlim⟩
 refine (callsIn_wide.1 hok).mono fun e' W' hq => ?_
 obtain ⟨v, rfl, hb, hr⟩ := hq
 refine ⟨v, rfl, ?_⟩
 obtain rfl : v = .bool true := by
  have e : @Interp.phi (I (4 * D.szL xs + 200)) q_ntexts.g xs = bD true := phi_ntexts _ _
  rw [e] at hr
  have := hr.1
  unfold bD DV at this
  exact this.1
 obtain ⟨d0, d1, rfl⟩ := len_two (trodAll_len hA)
 exact post_true (t := 4) laidOut (by kernel_rfl) (by kernel_rfl) Tryd.underlying4 hW' rfl rfl rfl rfl hb

/- A world for the witness: the settled one, each listed table holding what its initialiser lays. -/
noncomputable def wargs : Array Value := #[.string ByteArray.empty, .agg #[.bool false, .string ByteArray.empty, .int .i64 0]]
theorem laid_met (os : Os) (args : Array Value) : laidMetH Tryd.prog Rows.numTextsRow.laid ((World.laidAll Tryd.prog os Rows.numTextsRow.laid).forCall (fun _ _ => 0) ⟨#[], args, []⟩).memory := by
 rw [MakeChecks.laidMetH_plain _ _ _ (by kernel_rfl)]
 exact laidMet_laidAll _ (by kernel_rfl) (by kernel_rfl)
noncomputable def wds (os : Os) {H : Type} (enc : TypeId × Value -> H) : List (DataW H) :=
 match DataW.whole enc Tryd.prog ((World.laidAll Tryd.prog os Rows.numTextsRow.laid).forCall (fun _ _ => 0) ⟨#[], wargs, []⟩).memory Tryd.f10.params.toList Rows.numTextsSpec.vars false wargs.toList 16 with
 | some (ds, _, _) => ds
 | none => []
theorem reads (os : Os) {H : Type} (enc : TypeId × Value -> H) : DataW.whole enc Tryd.prog ((World.laidAll Tryd.prog os Rows.numTextsRow.laid).forCall (fun _ _ => 0) ⟨#[], wargs, []⟩).memory Tryd.f10.params.toList Rows.numTextsSpec.vars false wargs.toList 16 =
  some (wds os enc, [], []) := by kernel_rfl

theorem lifted (os : Os) (started : os.Started) (H : Type) (enc : TypeId × Value -> H) (F : Stop.Interp) :
  ReturnsInHanded {} Tryd.checked os 10 .any ((OpenSpec.ofChange Rows.numTextsSpec).preRow enc Tryd.prog Tryd.f10 Rows.numTextsRow.domain false Rows.numTextsRow.laid) (((OpenSpec.ofChange Rows.numTextsSpec).at F).post enc Tryd.prog Tryd.f10 false true false false) := by
 refine returnsInHanded_of_row (C := Tryd.checked) (s := OpenSpec.ofChange Rows.numTextsSpec) own started (by kernel_rfl) Tryd.func10
  (witness_row_at (enc := enc) (C := Tryd.checked) false (World.laidAll Tryd.prog os Rows.numTextsRow.laid) wargs (World.laidAll_os _ _ _) (by kernel_rfl) (by kernel_rfl) (by kernel_rfl)
   (OpenSpec.preRow_of_cond 16 (reads os enc) (by kernel_rfl) (fun k hk => by cases hk) (by kernel_rfl) (laid_met os _))) ?_
 intro W base args ds gs before hval hW _ _ hR hL _ _
 exact contract H enc W base args ds gs before hval hW hR hL

theorem said : Rows.NumTextsSaid :=
 OpenClaim.holds_of_cond 10 Tryd.f10 rfl rfl rfl rfl rfl rfl rfl ⟨rfl, rfl, rfl, rfl, rfl⟩ rfl rfl rfl rfl rfl (by kernel_rfl) Tryd.func10 (by kernel_rfl)
  (of_decide_eq_true (by kernel_rfl)) (by unfold Func.isWrapper; first | (rw [if_pos (by decide +kernel)]; kernel_rfl) | (rw [if_neg (by decide +kernel)]; exact ⟨rfl, rfl⟩))
  (fun os started H enc _ F => by rw [OpenClaim.pre_eq_preRow]; exact lifted os started H enc F)

theorem plain (f : FuncId) (fn : Func) (hf : Tryd.pinned.checked.prog.funcNamed "calamus/calamuslaw01.NumTexts" = some f) (hfn : Tryd.pinned.checked.prog.funcs[f]? = some fn) :
  true = Tryd.pinned.checked.prog.looks [] /\ ∀ (j : Nat) t, fn.params[j]? = some t -> Tryd.pinned.checked.prog.wantsStandIn t = false := by
 obtain rfl : f = 10 := Option.some.inj ((show Tryd.prog.funcNamed "calamus/calamuslaw01.NumTexts" = some 10 by kernel_rfl).symm.trans hf) |>.symm
 obtain rfl : fn = Tryd.f10 := (Option.some.inj (Tryd.func10.symm.trans hfn)).symm
 refine ⟨by kernel_rfl, fun j t ht => ?_⟩
 have h : (Tryd.f10.params.all fun t => !Tryd.prog.wantsStandIn t) = true := by kernel_rfl
 have := Array.all_eq_true_iff_forall_mem.1 h t (Array.mem_of_getElem? ht)
 show Tryd.prog.wantsStandIn t = false
 simpa using this

theorem card : Rows.NumTextsCardSaid :=
 Claim7.holds_tied_plain_at .later [] _ _ _ _ said (fun _ h => by cases h) (by kernel_rfl) (fun _ h => by cases h) numTexts_row_tie rfl ⟨rfl, rfl⟩ (by kernel_rfl) rfl plain (by kernel_rfl)
end Go.Proofs.YtflhikakndanjaaDoor.VkNumTexts
