/- Contracts of package types: sub, Sub; of calamuskeep: parts, wide. -/
import Derived.Test.YtaeeblcdggjokaaDoorVkT3
namespace Go.Proofs.YtaeeblcdggjokaaDoor.Vk
open Go Go.Ab Go.RowKit
set_option maxRecDepth 100000
set_option linter.unusedVariables false
set_option linter.unusedSimpArgs false
set_option linter.unusedSectionVars false
set_option linter.constructorNameAsVariable false
theorem okD_tt {n : Nat} {a b : Typ} (h : okD (n + 1) [a.toD, b.toD]) : a.names.length ≤ lim ∧ okD n [strsD b.names] ∧ okD n [strsD a.names, strsD b.names] ∧ okD n [typsD a.list, typsD b.list, .row []] ∧ ∀ x, x ∈ a.list → ∀ y, y ∈ b.list → okD n [x.toD, y.toD] := by
  obtain ⟨h1, h2, h3⟩ := okD_two.1 h
  have ha := (lim_toDT a).1 h2
  have hb := (lim_toDT b).1 h3
  have e1 := sz_toDT a
  have e2 := sz_toDT b
  have p1 := D.sz_pos (strsD a.names)
  have p2 := D.sz_pos (typsD a.list)
  have p3 := D.sz_pos (strsD b.names)
  have p4 := D.sz_pos (typsD b.list)
  refine ⟨(lim_strs.1 ha.1).1, okD_one.2 ⟨by omega, hb.1⟩, okD_two.2 ⟨by omega, ha.1, hb.1⟩, okD_three.2 ⟨by rw [sz_nilrow]; omega, ha.2, hb.2, lim_nilrow⟩, fun x hx y hy => okD_two.2 ⟨?_, (lim_typs.1 ha.2).2 x hx, (lim_typs.1 hb.2).2 y hy⟩⟩
  have := sz_typs_mem hx
  have := sz_typs_mem hy
  omega
theorem zip_find (s : ByteArray) : ∀ (l : List ByteArray) (i : Nat), ((l.zipIdx i).find? fun p => decide (s = p.1)).map (fun p => iD p.2) = if 0 ≤ idxI s l i then some (iD (idxI s l i)) else none
  | [], i => by rw [idxI]; rfl
  | x :: r, i => by
    rw [List.zipIdx_cons, List.find?_cons, idxI]
    by_cases c : s = x
    · rw [decide_eq_true (p := s = (x, i).1) c, if_pos c, if_pos (by omega)]; rfl
    · rw [decide_eq_false (p := s = (x, i).1) c, if_neg c]; exact zip_find s r (i + 1)
theorem places_find {l : List ByteArray} (hn : l.Nodup) (s : ByteArray) : mfind (sD s) (placesL l 0 []) = if 0 ≤ idxI s l 0 then some (iD (idxI s l 0)) else none := by
  have h := places_nodup l 0 [] hn (fun s _ => by simp)
  rw [List.map_nil, List.nil_append] at h
  rw [h, find_rows, zip_find]
/-- calamus/types.sub: func 30, params [26, 26], ntmps 80. -/
-- head 0 of loop 0: [t2 .rf 26, t3 .rf 26, t5 .mp .s (.i .i64), t38 .sh (.cell (.sl 9)), t39 .sh (.cell (.sc (.i .i64))), t40 .sh (.cell (.sc (.i .i64)))]
def heads_tsub : List Hd := [⟨0, [.any, .any, .rf 26, .rf 26, .any, .mp .s (.i .i64), .any, .any, .any, .any, .any, .any, .any, .any, .any, .any, .any, .any, .any, .any, .any, .any, .any, .any, .any, .any, .any, .any, .any, .any, .any, .any, .any, .any, .any, .any, .any, .any, .sh (.cell (.sl 9)), .sh (.cell (.sc (.i .i64))), .sh (.cell (.sc (.i .i64))), .any, .any, .any, .any, .any, .any, .any, .any, .any, .any, .any, .any, .any, .any, .any, .any, .any, .any, .any, .any, .any, .any, .any, .any, .any, .any, .any, .any, .any, .any, .any, .any, .any, .any, .any, .any, .any, .any, .any]⟩]
def entry_tsub : Tree :=
  (.ite (.pr (.icmp .eql) [(.pr (.cell 0) [(.var 1)]), (.lit (.int .i64 1))])
    (.leaf (.ret (.lit (.bool true))))
    (.ite (.pr (.icmp .eql) [(.pr (.cell 0) [(.var 0)]), (.lit (.int .i64 5))])
      (.ite (.pr (.icmp .eql) [(.pr (.cell 0) [(.var 1)]), (.lit (.int .i64 4))])
        (.leaf (.ret (.lit (.bool true))))
        (.ite (.pr (.icmp .neq) [(.pr (.cell 0) [(.var 0)]), (.pr (.cell 0) [(.var 1)])])
          (.leaf (.ret (.lit (.bool false))))
          (.ite (.pr (.icmp .eql) [(.pr (.cell 0) [(.var 0)]), (.lit (.int .i64 11))])
            (.giv (.app 1000 [(.pr (.cell 1) [(.var 1)])])
              (.leaf (.go 0 [(.pr .row [(.pr (.cell 0) [(.var 0)]), (.pr (.cell 1) [(.var 0)]), (.pr (.cell 2) [(.var 0)])]), (.pr .row [(.pr (.cell 0) [(.var 1)]), (.pr (.cell 1) [(.var 1)]), (.pr (.cell 2) [(.var 1)])]), (.pr (.cell 0) [(.app 57 [(.pr (.cell 1) [(.var 1)])])]), (.pr (.cell 1) [(.var 0)]), (.pr .len [(.pr (.cell 1) [(.var 0)])]), (.lit (.int .i64 0))])))
            (.giv (.app 1000 [(.pr (.cell 1) [(.var 0)]), (.pr (.cell 1) [(.var 1)])])
              (.ite (.app 16 [(.pr (.cell 1) [(.var 0)]), (.pr (.cell 1) [(.var 1)])])
                (.giv (.app 1000 [(.pr (.cell 2) [(.var 0)]), (.pr (.cell 2) [(.var 1)]), (.pr .row [])])
                  (.giv (.app 2069 [(.pr (.cell 2) [(.var 0)]), (.pr (.cell 2) [(.var 1)]), (.pr .row [])])
                    (.leaf (.ret (.app 69 [(.pr (.cell 2) [(.var 0)]), (.pr (.cell 2) [(.var 1)]), (.pr .row [])])))))
                (.leaf (.ret (.lit (.bool false)))))))))
      (.ite (.pr (.icmp .neq) [(.pr (.cell 0) [(.var 0)]), (.pr (.cell 0) [(.var 1)])])
        (.leaf (.ret (.lit (.bool false))))
        (.ite (.pr (.icmp .eql) [(.pr (.cell 0) [(.var 0)]), (.lit (.int .i64 11))])
          (.giv (.app 1000 [(.pr (.cell 1) [(.var 1)])])
            (.leaf (.go 0 [(.pr .row [(.pr (.cell 0) [(.var 0)]), (.pr (.cell 1) [(.var 0)]), (.pr (.cell 2) [(.var 0)])]), (.pr .row [(.pr (.cell 0) [(.var 1)]), (.pr (.cell 1) [(.var 1)]), (.pr (.cell 2) [(.var 1)])]), (.pr (.cell 0) [(.app 57 [(.pr (.cell 1) [(.var 1)])])]), (.pr (.cell 1) [(.var 0)]), (.pr .len [(.pr (.cell 1) [(.var 0)])]), (.lit (.int .i64 0))])))
          (.giv (.app 1000 [(.pr (.cell 1) [(.var 0)]), (.pr (.cell 1) [(.var 1)])])
            (.ite (.app 16 [(.pr (.cell 1) [(.var 0)]), (.pr (.cell 1) [(.var 1)])])
              (.giv (.app 1000 [(.pr (.cell 2) [(.var 0)]), (.pr (.cell 2) [(.var 1)]), (.pr .row [])])
                (.giv (.app 2069 [(.pr (.cell 2) [(.var 0)]), (.pr (.cell 2) [(.var 1)]), (.pr .row [])])
                  (.leaf (.ret (.app 69 [(.pr (.cell 2) [(.var 0)]), (.pr (.cell 2) [(.var 1)]), (.pr .row [])])))))
              (.leaf (.ret (.lit (.bool false))))))))))
def head_tsub_0 : Tree :=
  (.ite (.pr (.icmp .lss) [(.var 5), (.var 4)])
    (.giv (.pr (.icmp .leq) [(.lit (.int .i64 0)), (.var 5)])
      (.giv (.pr (.icmp .lss) [(.var 5), (.pr .len [(.var 3)])])
        (.ite (.pr .mhas [(.var 2), (.pr (.cell 0) [(.pr .at [(.var 3), (.var 5)])])])
          (.giv (.pr (.icmp .lss) [(.var 5), (.pr .len [(.pr (.cell 2) [(.var 0)])])])
            (.giv (.pr (.icmp .leq) [(.lit (.int .i64 0)), (.pr .mget [(.var 2), (.pr (.cell 0) [(.pr .at [(.var 3), (.var 5)])]), (.lit (.int .i64 0))])])
              (.giv (.pr (.icmp .lss) [(.pr .mget [(.var 2), (.pr (.cell 0) [(.pr .at [(.var 3), (.var 5)])]), (.lit (.int .i64 0))]), (.pr .len [(.pr (.cell 2) [(.var 1)])])])
                (.giv (.app 1000 [(.pr .row [(.pr (.cell 0) [(.pr .at [(.pr (.cell 2) [(.var 0)]), (.var 5)])]), (.pr (.cell 1) [(.pr .at [(.pr (.cell 2) [(.var 0)]), (.var 5)])]), (.pr (.cell 2) [(.pr .at [(.pr (.cell 2) [(.var 0)]), (.var 5)])])]), (.pr .row [(.pr (.cell 0) [(.pr .at [(.pr (.cell 2) [(.var 1)]), (.pr .mget [(.var 2), (.pr (.cell 0) [(.pr .at [(.var 3), (.var 5)])]), (.lit (.int .i64 0))])])]), (.pr (.cell 1) [(.pr .at [(.pr (.cell 2) [(.var 1)]), (.pr .mget [(.var 2), (.pr (.cell 0) [(.pr .at [(.var 3), (.var 5)])]), (.lit (.int .i64 0))])])]), (.pr (.cell 2) [(.pr .at [(.pr (.cell 2) [(.var 1)]), (.pr .mget [(.var 2), (.pr (.cell 0) [(.pr .at [(.var 3), (.var 5)])]), (.lit (.int .i64 0))])])])])])
                  (.giv (.app 2068 [(.pr .row [(.pr (.cell 0) [(.pr .at [(.pr (.cell 2) [(.var 0)]), (.var 5)])]), (.pr (.cell 1) [(.pr .at [(.pr (.cell 2) [(.var 0)]), (.var 5)])]), (.pr (.cell 2) [(.pr .at [(.pr (.cell 2) [(.var 0)]), (.var 5)])])]), (.pr .row [(.pr (.cell 0) [(.pr .at [(.pr (.cell 2) [(.var 1)]), (.pr .mget [(.var 2), (.pr (.cell 0) [(.pr .at [(.var 3), (.var 5)])]), (.lit (.int .i64 0))])])]), (.pr (.cell 1) [(.pr .at [(.pr (.cell 2) [(.var 1)]), (.pr .mget [(.var 2), (.pr (.cell 0) [(.pr .at [(.var 3), (.var 5)])]), (.lit (.int .i64 0))])])]), (.pr (.cell 2) [(.pr .at [(.pr (.cell 2) [(.var 1)]), (.pr .mget [(.var 2), (.pr (.cell 0) [(.pr .at [(.var 3), (.var 5)])]), (.lit (.int .i64 0))])])])])])
                    (.ite (.app 68 [(.pr .row [(.pr (.cell 0) [(.pr .at [(.pr (.cell 2) [(.var 0)]), (.var 5)])]), (.pr (.cell 1) [(.pr .at [(.pr (.cell 2) [(.var 0)]), (.var 5)])]), (.pr (.cell 2) [(.pr .at [(.pr (.cell 2) [(.var 0)]), (.var 5)])])]), (.pr .row [(.pr (.cell 0) [(.pr .at [(.pr (.cell 2) [(.var 1)]), (.pr .mget [(.var 2), (.pr (.cell 0) [(.pr .at [(.var 3), (.var 5)])]), (.lit (.int .i64 0))])])]), (.pr (.cell 1) [(.pr .at [(.pr (.cell 2) [(.var 1)]), (.pr .mget [(.var 2), (.pr (.cell 0) [(.pr .at [(.var 3), (.var 5)])]), (.lit (.int .i64 0))])])]), (.pr (.cell 2) [(.pr .at [(.pr (.cell 2) [(.var 1)]), (.pr .mget [(.var 2), (.pr (.cell 0) [(.pr .at [(.var 3), (.var 5)])]), (.lit (.int .i64 0))])])])])])
                      (.leaf (.go 0 [(.var 0), (.var 1), (.var 2), (.var 3), (.var 4), (.pr (.iop .add .i64) [(.var 5), (.lit (.int .i64 1))])]))
                      (.leaf (.ret (.lit (.bool false))))))))))
          (.leaf (.ret (.lit (.bool false)))))))
    (.leaf (.ret (.lit (.bool true)))))
def trees_tsub : List Tree := [head_tsub_0]
noncomputable def deps_tsub : List Sig := [q_tsub, q_eqtyps, q_eqstrs]
noncomputable def depsM_tsub : List SigM := [q_tplaces]
theorem ok_tsub : checkN q_tsub deps_tsub depsM_tsub heads_tsub entry_tsub trees_tsub = true := by kernel_rfl
theorem tsub_step (n : Nat) (ih : @Ok (I n) q_tsub (@okS (I n) n q_tsub.g)) (ih2 : @Ok (I n) q_eqtyps (@okS (I n) n q_eqtyps.g)) : @Ok (I n) q_tsub (@okS (I n) (n + 1) q_tsub.g) := by
  letI := I n
  refine fn_okN (hphi n) ok_tsub (by
    intro q hq
    simp only [deps_tsub, List.mem_cons, List.not_mem_nil, or_false] at hq
    rcases hq with rfl | rfl | rfl
    · exact ih
    · exact ih2
    · exact okS_of (eqstrs_ok n)) (by
    intro q hq
    simp only [depsM_tsub, List.mem_singleton] at hq
    subst hq
    exact ⟨okSM_of (tplaces_ok n), tplaces_goes n⟩)
    (fun _ d ds => ∃ (a b : Typ) (i : Nat), ds = [a.toD, b.toD, .lst (placesL b.names 0 []), strsD a.names, iD a.names.length, iD i] ∧ i ≤ a.names.length ∧ a.names.length ≤ lim ∧ a.names.length = a.list.length ∧ b.names.length = b.list.length ∧ b.names.Nodup ∧ (∀ x, x ∈ a.list → formedT x = true) ∧ (∀ y, y ∈ b.list → formedT y = true) ∧ (∀ x, x ∈ a.list → ∀ y, y ∈ b.list → okD n [x.toD, y.toD]) ∧
      d = bD (((a.names.zip a.list).drop i).all fun p => decide (0 ≤ idxI p.1 b.names 0) && optB b.list[(idxI p.1 b.names 0).toNat]? (subT p.2)))
    (fun _ ds => (ds.getD 3 .nil).rows.length - (ds.getD 5 .nil).int.toNat) ?_ ?_
  · intro ds hf hp
    obtain ⟨a, b, rfl⟩ := two_typ hf
    obtain ⟨o1, o2, o3, o4, o5⟩ := okD_tt hp.1
    obtain ⟨g1, g2⟩ := (pre_tsub n a b).1 (hp.2 rfl)
    obtain ⟨t1, t2, t3, t4, t5, t6⟩ := formedT_parts g1
    obtain ⟨u1, u2, u3, u4, u5, u6⟩ := formedT_parts g2
    simp only [entry_tsub, q_tsub, Tree.holds, Out.den, E.den, E.denL, den1, den2, den3, den4, den5, den6, den7, den8, Bool.not_eq_true', Bool.not_eq_false', List.getD_cons_zero, List.getD_cons_succ, true_and, and_true, List.length_map, phi_1000, phi_tsub, tat_0, tat_1, tat_2, toDT_put, phi_tplaces, row_at0, phi_eqstrs, phi_eqtyps, pre_eqtyps, o2, o3, o4]
    refine ⟨fun k1 => ?_, fun k1 => ⟨fun k5 => ⟨fun k4 => ?_, fun k4 => ?_⟩, fun k5 => ?_⟩⟩
    · rw [subT_eq, if_pos (.inl k1)]
    · rw [subT_eq, if_pos (.inr ⟨k5, k4⟩)]
    · have hne : ¬ (b.kind = 1 ∨ (a.kind = 5 ∧ b.kind = 4)) := by
        rintro (h | ⟨_, h⟩)
        · exact k1 h
        · exact k4 h
      refine ⟨fun he => ?_, fun he => ⟨fun k11 => ⟨a, b, 0, rfl, Nat.zero_le _, o1, (t3 (.inr k11)).1, (u3 (.inr (by omega))).1, (u3 (.inr (by omega))).2, t1, u1, o5, ?_⟩, fun k11 => ⟨fun hn => ⟨⟨t1, u1⟩, ?_⟩, fun hn => ?_⟩⟩⟩
      · rw [subT_eq, if_neg hne, if_pos he]
      · rw [subT_eq, if_neg hne, if_neg (by simpa using he), if_pos k11]; rfl
      · rw [subT_eq, if_neg hne, if_neg (by simpa using he), if_neg k11, hn, Bool.true_and]
      · rw [subT_eq, if_neg hne, if_neg (by simpa using he), if_neg k11, hn, Bool.false_and]
    · have hne : ¬ (b.kind = 1 ∨ (a.kind = 5 ∧ b.kind = 4)) := by
        rintro (h | ⟨h, _⟩)
        · exact k1 h
        · exact k5 h
      refine ⟨fun he => ?_, fun he => ⟨fun k11 => ⟨a, b, 0, rfl, Nat.zero_le _, o1, (t3 (.inr k11)).1, (u3 (.inr (by omega))).1, (u3 (.inr (by omega))).2, t1, u1, o5, ?_⟩, fun k11 => ⟨fun hn => ⟨⟨t1, u1⟩, ?_⟩, fun hn => ?_⟩⟩⟩
      · rw [subT_eq, if_neg hne, if_pos he]
      · rw [subT_eq, if_neg hne, if_neg (by simpa using he), if_pos k11]; rfl
      · rw [subT_eq, if_neg hne, if_neg (by simpa using he), if_neg k11, hn, Bool.true_and]
      · rw [subT_eq, if_neg hne, if_neg (by simpa using he), if_neg k11, hn, Bool.false_and]
  · rintro j h t d ds hj ht hf ⟨a, b, i, rfl, hi, hl, ha, hb, hn, f1, f2, ho, rfl⟩
    obtain rfl : t = head_tsub_0 := by
      match j, ht with
      | 0, ht => exact (Option.some.inj ht).symm
    by_cases hlt : i < a.names.length
    · obtain ⟨s, hs, hsm, hd⟩ := drop_get hlt
      obtain ⟨x, hx, hxm, hd'⟩ := drop_get (l := a.list) (i := i) (by omega)
      have hz : (a.names.zip a.list).drop i = (s, x) :: (a.names.zip a.list).drop (i + 1) := by
        rw [zip_drop, zip_drop, hd, hd']; rfl
      by_cases hc : 0 ≤ idxI s b.names 0
      · obtain ⟨i1, i2⟩ := idxI_lt s b.names 0 hc
        have hyl : (idxI s b.names 0).toNat < b.list.length := by omega
        have hy := List.getElem?_eq_getElem hyl
        generalize b.list[(idxI s b.names 0).toNat] = y at hy
        have hym := List.mem_of_getElem? hy
        have hpf : mfind (sD s) (placesL b.names 0 []) = some (iD (idxI s b.names 0)) := by rw [places_find hn, if_pos hc]
        simp only [head_tsub_0, Tree.holds, Out.den, E.den, E.denL, den1, den2, den3, den4, den5, den6, den7, den8, Bool.not_eq_true', Bool.not_eq_false', List.getD_cons_zero, List.getD_cons_succ, true_and, and_true, List.length_map, phi_1000, rowAt_map hs, rowAt_map hx, hpf, Option.isSome_some, Option.getD_some, rowAt_mapI hy, tat_0, tat_1, tat_2, toDT_put, phi_tsub, pre_tsub, wrap_succ hlt hl]
        refine ⟨fun _ => ⟨by omega, by omega, fun _ => ⟨by omega, hc, by omega, ho x hxm y hym, ⟨f1 x hxm, f2 y hym⟩, fun hb' => ⟨⟨a, b, i + 1, rfl, hlt, hl, ha, hb, hn, f1, f2, ho, ?_⟩, by omega⟩, fun hb' => ?_⟩, fun h => by cases h⟩, fun h => by omega⟩
        · rw [hz]; simp only [List.all_cons, hc, decide_true, hy, optB_some, hb', Bool.true_and]
        · rw [hz]; simp only [List.all_cons, hc, decide_true, hy, optB_some, hb', Bool.true_and, Bool.false_and]
      · have hpf : mfind (sD s) (placesL b.names 0 []) = none := by rw [places_find hn, if_neg hc]
        simp only [head_tsub_0, Tree.holds, Out.den, E.den, E.denL, den1, den2, den3, den4, den5, den6, den7, den8, Bool.not_eq_true', Bool.not_eq_false', List.getD_cons_zero, List.getD_cons_succ, true_and, and_true, List.length_map, phi_1000, rowAt_map hs, rowAt_map hx, hpf, Option.isSome_none, tat_0, tat_1, tat_2, toDT_put, phi_tsub, pre_tsub, wrap_succ hlt hl]
        refine ⟨fun _ => ⟨by omega, by omega, (fun h => by cases h), fun _ => ?_⟩, fun h => by omega⟩
        rw [hz]; simp only [List.all_cons, hc, decide_false, Bool.false_and]
    · simp only [head_tsub_0, Tree.holds, Out.den, E.den, E.denL, den1, den2, den3, den4, den5, den6, den7, den8, Bool.not_eq_true', Bool.not_eq_false', List.getD_cons_zero, List.getD_cons_succ, true_and, and_true, List.length_map, phi_1000]
      refine ⟨fun h => by omega, fun _ => ?_⟩
      rw [List.drop_eq_nil_of_le (by rw [List.length_zip]; omega)]; rfl
/-- slices.EqualFunc[[]calamus/api.Type,[]calamus/api.Type,calamus/api.Type,calamus/api.Type]: func 48, params [24, 24, 34], ntmps 32. -/
-- head 0 of loop 0: [t1 .sh (.cell (.sl 26)), t2 .sh (.fn 30 []), t15 .sh (.cell (.sl 26)), t16 .sh (.cell (.sc (.i .i64))), t17 .sh (.cell (.sc (.i .i64)))]
def heads_eqtyps : List Hd := [⟨0, [.any, .sh (.cell (.sl 26)), .sh (.fn 30 []), .any, .any, .any, .any, .any, .any, .any, .any, .any, .any, .any, .any, .sh (.cell (.sl 26)), .sh (.cell (.sc (.i .i64))), .sh (.cell (.sc (.i .i64))), .any, .any, .any, .any, .any, .any, .any, .any, .any, .any, .any, .any, .any, .any]⟩]
def entry_eqtyps : Tree :=
  (.ite (.pr (.icmp .neq) [(.pr .len [(.var 0)]), (.pr .len [(.var 1)])])
    (.leaf (.ret (.lit (.bool false))))
    (.leaf (.go 0 [(.var 1), (.pr .row []), (.var 0), (.pr .len [(.var 0)]), (.lit (.int .i64 0))])))
def head_eqtyps_0 : Tree :=
  (.ite (.pr (.icmp .lss) [(.var 4), (.var 3)])
    (.giv (.pr (.icmp .leq) [(.lit (.int .i64 0)), (.var 4)])
      (.giv (.pr (.icmp .lss) [(.var 4), (.pr .len [(.var 2)])])
        (.giv (.pr (.icmp .lss) [(.var 4), (.pr .len [(.var 0)])])
          (.giv (.app 1000 [(.pr .row [(.pr (.cell 0) [(.pr .at [(.var 2), (.var 4)])]), (.pr (.cell 1) [(.pr .at [(.var 2), (.var 4)])]), (.pr (.cell 2) [(.pr .at [(.var 2), (.var 4)])])]), (.pr .row [(.pr (.cell 0) [(.pr .at [(.var 0), (.var 4)])]), (.pr (.cell 1) [(.pr .at [(.var 0), (.var 4)])]), (.pr (.cell 2) [(.pr .at [(.var 0), (.var 4)])])])])
            (.giv (.app 2068 [(.pr .row [(.pr (.cell 0) [(.pr .at [(.var 2), (.var 4)])]), (.pr (.cell 1) [(.pr .at [(.var 2), (.var 4)])]), (.pr (.cell 2) [(.pr .at [(.var 2), (.var 4)])])]), (.pr .row [(.pr (.cell 0) [(.pr .at [(.var 0), (.var 4)])]), (.pr (.cell 1) [(.pr .at [(.var 0), (.var 4)])]), (.pr (.cell 2) [(.pr .at [(.var 0), (.var 4)])])])])
              (.ite (.app 68 [(.pr .row [(.pr (.cell 0) [(.pr .at [(.var 2), (.var 4)])]), (.pr (.cell 1) [(.pr .at [(.var 2), (.var 4)])]), (.pr (.cell 2) [(.pr .at [(.var 2), (.var 4)])])]), (.pr .row [(.pr (.cell 0) [(.pr .at [(.var 0), (.var 4)])]), (.pr (.cell 1) [(.pr .at [(.var 0), (.var 4)])]), (.pr (.cell 2) [(.pr .at [(.var 0), (.var 4)])])])])
                (.leaf (.go 0 [(.var 0), (.pr .row []), (.var 2), (.var 3), (.pr (.iop .add .i64) [(.var 4), (.lit (.int .i64 1))])]))
                (.leaf (.ret (.lit (.bool false))))))))))
    (.leaf (.ret (.lit (.bool true)))))
def trees_eqtyps : List Tree := [head_eqtyps_0]
noncomputable def deps_eqtyps : List Sig := [q_tsub]
theorem ok_eqtyps : check q_eqtyps deps_eqtyps heads_eqtyps entry_eqtyps trees_eqtyps = true := by kernel_rfl
theorem eqtyps_ok (n : Nat) (ih : @Ok (I n) q_tsub (@okS (I n) n q_tsub.g)) : @Ok (I n) q_eqtyps (@okS (I n) n q_eqtyps.g) := by
  letI := I n
  refine fn_okS (hphi n) ok_eqtyps (by intro q hq; simp only [deps_eqtyps, List.mem_singleton] at hq; subst hq; exact ih)
    (fun _ d ds => ∃ (a b : List Typ) (i : Nat), ds = [typsD b, .row [], typsD a, iD a.length, iD i] ∧ a.length = b.length ∧ i ≤ a.length ∧ a.length ≤ lim ∧ (∀ x, x ∈ a → formedT x = true) ∧ (∀ y, y ∈ b → formedT y = true) ∧ (∀ x, x ∈ a → ∀ y, y ∈ b → okD n [x.toD, y.toD]) ∧ d = bD (((a.zip b).drop i).all fun p => subT p.1 p.2))
    (fun _ ds => (ds.getD 2 .nil).rows.length - (ds.getD 4 .nil).int.toNat) ?_ ?_
  · intro ds hf hp
    obtain ⟨a, b, rfl⟩ : ∃ (a b : List Typ), ds = [typsD a, typsD b, .row []] := by
      match ds, hf with
      | [x, y, z], ⟨h1, h2, h3, _⟩ =>
        obtain ⟨a, rfl⟩ := fits_typs shT shS h1
        obtain ⟨b, rfl⟩ := fits_typs shT shS h2
        rw [fit_fn h3]
        exact ⟨a, b, rfl⟩
    obtain ⟨g1, g2⟩ := (pre_eqtyps n a b (.row [])).1 (hp.2 rfl)
    obtain ⟨h1, h2, h3, h4⟩ := okD_three.1 hp.1
    have ha := lim_typs.1 h2
    have hb := lim_typs.1 h3
    simp only [entry_eqtyps, q_eqtyps, Tree.holds, Out.den, E.den, E.denL, den1, den2, den3, den4, den5, den6, den7, den8, Bool.not_eq_true', Bool.not_eq_false', List.getD_cons_zero, List.getD_cons_succ, true_and, and_true, List.length_map, phi_1000, phi_eqtyps]
    refine ⟨fun h => ?_, fun h => ⟨a, b, 0, rfl, by omega, Nat.zero_le _, ha.1, g1, g2, fun x hx y hy => okD_two.2 ⟨?_, ha.2 x hx, hb.2 y hy⟩, ?_⟩⟩
    · rw [decide_eq_false (by omega)]; rfl
    · have := sz_typs_mem hx
      have := sz_typs_mem hy
      omega
    · rw [decide_eq_true (by omega)]; rfl
  · rintro j h t d ds hj ht hf ⟨a, b, i, rfl, hab, hi, hl, f1, f2, ho, rfl⟩
    obtain rfl : t = head_eqtyps_0 := by
      match j, ht with
      | 0, ht => exact (Option.some.inj ht).symm
    by_cases hlt : i < a.length
    · obtain ⟨x, hx, hxm, hd⟩ := drop_get hlt
      obtain ⟨y, hy, hym, hd'⟩ := drop_get (l := b) (i := i) (by omega)
      have hz : (a.zip b).drop i = (x, y) :: (a.zip b).drop (i + 1) := by
        rw [zip_drop, zip_drop, hd, hd']; rfl
      simp only [head_eqtyps_0, Tree.holds, Out.den, E.den, E.denL, den1, den2, den3, den4, den5, den6, den7, den8, Bool.not_eq_true', Bool.not_eq_false', List.getD_cons_zero, List.getD_cons_succ, true_and, and_true, List.length_map, phi_1000, rowAt_map hy, rowAt_map hx, tat_0, tat_1, tat_2, toDT_put, phi_tsub, pre_tsub, wrap_succ hlt hl]
      refine ⟨fun _ => ⟨by omega, by omega, by omega, ho x hxm y hym, ⟨f1 x hxm, f2 y hym⟩, fun hb => ⟨⟨a, b, i + 1, rfl, hab, hlt, hl, f1, f2, ho, ?_⟩, by omega⟩, fun hb => ?_⟩, fun h => by omega⟩
      · rw [hz, List.all_cons, hb, Bool.true_and]
      · rw [hz, List.all_cons, hb, Bool.false_and]
    · simp only [head_eqtyps_0, Tree.holds, Out.den, E.den, E.denL, den1, den2, den3, den4, den5, den6, den7, den8, Bool.not_eq_true', Bool.not_eq_false', List.getD_cons_zero, List.getD_cons_succ, true_and, and_true, List.length_map, phi_1000]
      refine ⟨fun h => by omega, fun _ => ?_⟩
      rw [List.drop_eq_nil_of_le (by rw [List.length_zip]; omega)]; rfl
theorem tsub_ok : ∀ (n : Nat), @Ok (I n) q_tsub (@okS (I n) n q_tsub.g)
  | 0 => fun W J vs ds hL hI ha hp => absurd hp.1.1 (Nat.not_lt_zero _)
  | n + 1 => ok_irrel (by decide) (tsub_step n (tsub_ok n) (eqtyps_ok n (tsub_ok n)))
/-- calamus/types.both: func 29, params [26, 26], ntmps 13. -/
def heads_tboth : List Hd := []
def entry_tboth : Tree :=
  (.giv (.app 1000 [(.pr .row [(.pr (.cell 0) [(.var 0)]), (.pr (.cell 1) [(.var 0)]), (.pr (.cell 2) [(.var 0)])])])
    (.ite (.pr (.icmp .neq) [(.app 63 [(.pr .row [(.pr (.cell 0) [(.var 0)]), (.pr (.cell 1) [(.var 0)]), (.pr (.cell 2) [(.var 0)])])]), (.lit (.int .i64 0))])
      (.leaf (.ret (.app 63 [(.pr .row [(.pr (.cell 0) [(.var 0)]), (.pr (.cell 1) [(.var 0)]), (.pr (.cell 2) [(.var 0)])])])))
      (.giv (.app 1000 [(.pr .row [(.pr (.cell 0) [(.var 1)]), (.pr (.cell 1) [(.var 1)]), (.pr (.cell 2) [(.var 1)])])])
        (.leaf (.ret (.app 63 [(.pr .row [(.pr (.cell 0) [(.var 1)]), (.pr (.cell 1) [(.var 1)]), (.pr (.cell 2) [(.var 1)])])]))))))
def trees_tboth : List Tree := []
noncomputable def deps_tboth : List Sig := [q_tcheck]
theorem ok_tboth : check q_tboth deps_tboth heads_tboth entry_tboth trees_tboth = true := by kernel_rfl
theorem tboth_ok (n : Nat) : @Ok (I n) q_tboth (okD n) := by
  letI := I n
  refine fn_ok (hphi n) ok_tboth (by intro q hq; simp only [deps_tboth, List.mem_singleton] at hq; subst hq; exact tcheck_ok n) (fun _ _ _ => False) (fun _ _ => 0) ?_ (fun j h t d ds hj => by simp [heads_tboth] at hj)
  intro ds hf hp
  obtain ⟨a, b, rfl⟩ := two_typ hf
  obtain ⟨h1, h2, h3⟩ := okD_two.1 hp
  have o1 : okD n [a.toD] := okD_one.2 ⟨by omega, h2⟩
  have o2 : okD n [b.toD] := okD_one.2 ⟨by omega, h3⟩
  simp only [entry_tboth, q_tboth, Tree.holds, Out.den, E.den, E.denL, den1, den2, den3, den4, den5, den6, den7, den8, Bool.not_eq_true', Bool.not_eq_false', List.getD_cons_zero, List.getD_cons_succ, true_and, and_true, List.length_map, phi_1000, phi_tboth, tat_0, tat_1, tat_2, toDT_put, phi_tcheck, o1, o2]
  refine ⟨fun h => ?_, fun h => ?_⟩
  · rw [if_pos h]
  · rw [if_neg (by simpa using h)]
/-- calamus/types.Sub: func 11, params [26, 26], ntmps 16. -/
def heads_tSub : List Hd := []
def entry_tSub : Tree :=
  (.giv (.app 1000 [(.pr .row [(.pr (.cell 0) [(.var 0)]), (.pr (.cell 1) [(.var 0)]), (.pr (.cell 2) [(.var 0)])]), (.pr .row [(.pr (.cell 0) [(.var 1)]), (.pr (.cell 1) [(.var 1)]), (.pr (.cell 2) [(.var 1)])])])
    (.ite (.pr (.icmp .neq) [(.app 70 [(.pr .row [(.pr (.cell 0) [(.var 0)]), (.pr (.cell 1) [(.var 0)]), (.pr (.cell 2) [(.var 0)])]), (.pr .row [(.pr (.cell 0) [(.var 1)]), (.pr (.cell 1) [(.var 1)]), (.pr (.cell 2) [(.var 1)])])]), (.lit (.int .i64 0))])
      (.leaf (.ret (.pr .row [(.lit (.bool false)), (.app 70 [(.pr .row [(.pr (.cell 0) [(.var 0)]), (.pr (.cell 1) [(.var 0)]), (.pr (.cell 2) [(.var 0)])]), (.pr .row [(.pr (.cell 0) [(.var 1)]), (.pr (.cell 1) [(.var 1)]), (.pr (.cell 2) [(.var 1)])])])])))
      (.giv (.app 2068 [(.pr .row [(.pr (.cell 0) [(.var 0)]), (.pr (.cell 1) [(.var 0)]), (.pr (.cell 2) [(.var 0)])]), (.pr .row [(.pr (.cell 0) [(.var 1)]), (.pr (.cell 1) [(.var 1)]), (.pr (.cell 2) [(.var 1)])])])
        (.leaf (.ret (.pr .row [(.app 68 [(.pr .row [(.pr (.cell 0) [(.var 0)]), (.pr (.cell 1) [(.var 0)]), (.pr (.cell 2) [(.var 0)])]), (.pr .row [(.pr (.cell 0) [(.var 1)]), (.pr (.cell 1) [(.var 1)]), (.pr (.cell 2) [(.var 1)])])]), (.lit (.int .i64 0))]))))))
def trees_tSub : List Tree := []
noncomputable def deps_tSub : List Sig := [q_tboth, q_tsub]
theorem ok_tSub : check q_tSub deps_tSub heads_tSub entry_tSub trees_tSub = true := by kernel_rfl
theorem tSub_ok (n : Nat) : @Ok (I n) q_tSub (okD n) := by
  letI := I n
  refine fn_okS (hphi n) ok_tSub (by
    intro q hq
    simp only [deps_tSub, List.mem_cons, List.not_mem_nil, or_false] at hq
    rcases hq with rfl | rfl
    · exact okS_of (tboth_ok n)
    · exact tsub_ok n) (fun _ _ _ => False) (fun _ _ => 0) ?_ (fun j h t d ds hj => by simp [heads_tSub] at hj)
  intro ds hf hp
  obtain ⟨a, b, rfl⟩ := two_typ hf
  simp only [entry_tSub, q_tSub, Tree.holds, Out.den, E.den, E.denL, den1, den2, den3, den4, den5, den6, den7, den8, Bool.not_eq_true', Bool.not_eq_false', List.getD_cons_zero, List.getD_cons_succ, true_and, and_true, List.length_map, phi_1000, phi_tSub, tat_0, tat_1, tat_2, toDT_put, phi_tboth, phi_tsub, pre_tsub, hp]
  refine ⟨fun h => ?_, fun h => ?_⟩
  · by_cases c : checkT a = 0
    · rw [if_neg (by simpa using c)] at h ⊢
      unfold SubT
      rw [if_neg (by simpa using c), if_pos h]
    · rw [if_pos c]
      unfold SubT
      rw [if_pos c]
  · by_cases c : checkT a = 0
    · rw [if_neg (by simpa using c)] at h
      refine ⟨⟨checkT_formed c, checkT_formed h⟩, ?_⟩
      unfold SubT
      rw [if_neg (by simpa using c), if_neg (by simpa using h)]
    · rw [if_pos c] at h; exact absurd h c
end Go.Proofs.YtaeeblcdggjokaaDoor.Vk
