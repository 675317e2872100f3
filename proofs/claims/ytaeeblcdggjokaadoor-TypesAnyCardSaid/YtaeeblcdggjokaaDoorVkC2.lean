/- Contracts: names, numbers, value.formed, short. -/
import Derived.Test.YtaeeblcdggjokaaDoorVkC1
import Derived.Test.YtaeeblcdggjokaaDoorShelf
namespace Go.Proofs.YtaeeblcdggjokaaDoor.Vk
open Go Go.Ab Go.RowKit
set_option maxRecDepth 100000
set_option linter.unusedVariables false
set_option linter.unusedSimpArgs false
set_option linter.unusedSectionVars false
set_option linter.constructorNameAsVariable false
theorem one_strs {d : List D} (h : FitL tb [.cell (.sl 9)] d) : ∃ l : List ByteArray, d = [strsD l] := by
  match d, h with
  | [a], ⟨h1, _⟩ =>
    obtain ⟨l, rfl⟩ := fits_strs shS h1
    exact ⟨l, rfl⟩
theorem strs_fn {f : Nat} {d : List D} (h : FitL tb [.cell (.sl 9), .fn f []] d) : ∃ l : List ByteArray, d = [strsD l, .row []] := by
  match d, h with
  | [a, b], ⟨h1, h2, _⟩ =>
    obtain ⟨l, rfl⟩ := fits_strs shS h1
    rw [fit_fn h2]
    exact ⟨l, rfl⟩
theorem one_num {d : List D} (h : FitL tb [.row 37] d) : ∃ a b c, d = [.row [bD a, sD b, iD c]] := by
  match d, h with
  | [d], ⟨⟨cs, e, hf⟩, _⟩ =>
    subst e
    obtain ⟨d1, r, rfl, g1, hf⟩ := fitsC_cons (show fitsC (kn [] tb).shape cs [.sc .b, .sc .s, .sc (.i .i64)] from hf)
    obtain ⟨d2, r, rfl, g2, hf⟩ := fitsC_cons hf
    obtain ⟨d3, r, rfl, g3, hf⟩ := fitsC_cons hf
    obtain rfl := fitsC_nil hf
    obtain ⟨a, rfl⟩ := fits_bool g1
    obtain ⟨b, rfl⟩ := fits_str g2
    obtain ⟨c, rfl⟩ := fits_int g3
    exact ⟨a, b, c, rfl⟩
/-- calamus/value.names: func 63, params [23], ntmps 24. -/
-- head 0 of loop 0: [t3 .mp .s .b, t7 .sh (.cell (.sl 9)), t8 .sh (.cell (.sc (.i .i64))), t9 .sh (.cell (.sc (.i .i64)))]
def heads_names : List Hd := [⟨0, [.any, .any, .any, .mp .s .b, .any, .any, .any, .sh (.cell (.sl 9)), .sh (.cell (.sc (.i .i64))), .sh (.cell (.sc (.i .i64))), .any, .any, .any, .any, .any, .any, .any, .any, .any, .any, .any, .any, .any, .any]⟩]
def entry_names : Tree :=
  (.leaf (.go 0 [(.pr .lst []), (.var 0), (.pr .len [(.var 0)]), (.lit (.int .i64 0))]))
def head_names_0 : Tree :=
  (.ite (.pr (.icmp .lss) [(.var 3), (.var 2)])
    (.giv (.pr (.icmp .leq) [(.lit (.int .i64 0)), (.var 3)])
      (.giv (.pr (.icmp .lss) [(.var 3), (.pr .len [(.var 1)])])
        (.ite (.pr .mget [(.var 0), (.pr (.cell 0) [(.pr .at [(.var 1), (.var 3)])]), (.lit (.bool false))])
          (.leaf (.ret (.lit (.bool false))))
          (.giv (.app 1000 [(.pr (.cell 0) [(.pr .at [(.var 1), (.var 3)])])])
            (.ite (.app 7 [(.pr (.cell 0) [(.pr .at [(.var 1), (.var 3)])])])
              (.leaf (.go 0 [(.pr .mset [(.var 0), (.pr (.cell 0) [(.pr .at [(.var 1), (.var 3)])]), (.lit (.bool true))]), (.var 1), (.var 2), (.pr (.iop .add .i64) [(.var 3), (.lit (.int .i64 1))])]))
              (.leaf (.ret (.lit (.bool false)))))))))
    (.leaf (.ret (.lit (.bool true)))))
def trees_names : List Tree := [head_names_0]
noncomputable def deps_names : List Sig := [q_valid]
theorem ok_names : check q_names deps_names heads_names entry_names trees_names = true := by kernel_rfl
theorem names_ok (n : Nat) (hv : @Ok (I n) q_valid (okD n)) : @Ok (I n) q_names (okD n) := by
  letI := I n
  refine fn_ok (hphi n) ok_names (by intro q hq; simp only [deps_names, List.mem_singleton] at hq; subst hq; exact hv)
    (fun _ d ds => ∃ (m : D) (l : List ByteArray) (i : Nat), ds = [m, strsD l, iD l.length, iD i] ∧ i ≤ l.length ∧ l.length ≤ lim ∧ (∀ x, x ∈ l → okD n [sD x]) ∧ d = bD (namesV m (l.drop i)))
    (fun _ ds => (ds.getD 1 .nil).rows.length - (ds.getD 3 .nil).int.toNat) ?_ ?_
  · intro ds hf hp
    obtain ⟨l, rfl⟩ := one_strs hf
    obtain ⟨h2, h3⟩ := okD_strs hp
    refine ⟨.lst [], l, 0, by simp only [Tree.holds, Out.den, E.den, E.denL, den1, den2, den3, den4, den5, den6, den7, den8, Bool.not_eq_true', Bool.not_eq_false', List.getD_cons_zero, List.getD_cons_succ, true_and, and_true, List.length_map, phi_1000, Int.ofNat_zero], Nat.zero_le _, h2, h3, ?_⟩
    simp only [q_names, phi_names, List.drop_zero]
  · rintro j h t d ds hj ht hf ⟨m, l, i, rfl, hi, hl, hs, rfl⟩
    obtain ⟨rfl, rfl⟩ : t = head_names_0 ∧ h = heads_names[0] := by
      match j, ht, hj with
      | 0, ht, hj => exact ⟨(Option.some.inj ht).symm, (Option.some.inj hj).symm⟩
    obtain ⟨hm, _⟩ : FitM .s .b m ∧ True := ⟨hf.1, trivial⟩
    by_cases hlt : i < l.length
    · obtain ⟨x, hx, hxm, hd⟩ := drop_get hlt
      obtain ⟨b, hb⟩ := mfind_bool (k := sD x) hm false
      simp only [head_names_0, Tree.holds, Out.den, E.den, E.denL, den1, den2, den3, den4, den5, den6, den7, den8, Bool.not_eq_true', Bool.not_eq_false', List.getD_cons_zero, List.getD_cons_succ, true_and, and_true, List.length_map, phi_1000, rowAt_map hx, phi_valid, wrap_succ hlt hl, hb]
      refine ⟨fun _ => ⟨by omega, by omega, fun h => ?_, fun h => ⟨hs x hxm, fun hv => ⟨⟨_, l, i + 1, rfl, hlt, hl, hs, ?_⟩, by omega⟩, fun hv => ?_⟩⟩, fun h => by omega⟩
      · rw [hd, namesV, hb, bool_v, if_pos h]
      · rw [hd, namesV, hb, bool_v, h, if_neg (by simp), if_pos hv]
      · rw [hd, namesV, hb, bool_v, h, if_neg (by simp), hv, if_neg (by simp)]
    · simp only [head_names_0, Tree.holds, Out.den, E.den, E.denL, den1, den2, den3, den4, den5, den6, den7, den8, Bool.not_eq_true', Bool.not_eq_false', List.getD_cons_zero, List.getD_cons_succ, true_and, and_true, List.length_map, phi_1000]
      refine ⟨fun h => by omega, fun _ => ?_⟩
      rw [List.drop_eq_nil_of_le (by omega), namesV]
/-- slices.IndexFunc[[]string,string]: func 85, params [23, 79], ntmps 19. -/
-- head 0 of loop 0: [t0 .sh (.cell (.sl 9)), t1 .sh (.fn 66 []), t7 .sh (.cell (.sc (.i .i64))), t8 .sh (.cell (.sc (.i .i64)))]
def heads_ixshort1 : List Hd := [⟨0, [.sh (.cell (.sl 9)), .sh (.fn 66 []), .any, .any, .any, .any, .any, .sh (.cell (.sc (.i .i64))), .sh (.cell (.sc (.i .i64))), .any, .any, .any, .any, .any, .any, .any, .any, .any, .any]⟩]
def entry_ixshort1 : Tree :=
  (.leaf (.go 0 [(.var 0), (.pr .row []), (.pr .len [(.var 0)]), (.lit (.int .i64 0))]))
def head_ixshort1_0 : Tree :=
  (.ite (.pr (.icmp .lss) [(.var 3), (.var 2)])
    (.giv (.pr (.icmp .leq) [(.lit (.int .i64 0)), (.var 3)])
      (.giv (.pr (.icmp .lss) [(.var 3), (.pr .len [(.var 0)])])
        (.ite (.pr (.icmp .gtr) [(.pr .slen [(.pr (.cell 0) [(.pr .at [(.var 0), (.var 3)])])]), (.lit (.int .i64 64))])
          (.leaf (.ret (.var 3)))
          (.leaf (.go 0 [(.var 0), (.pr .row []), (.var 2), (.pr (.iop .add .i64) [(.var 3), (.lit (.int .i64 1))])])))))
    (.leaf (.ret (.lit (.int .i64 (-1))))))
def trees_ixshort1 : List Tree := [head_ixshort1_0]
noncomputable def deps_ixshort1 : List Sig := []
theorem ok_ixshort1 : check q_ixshort1 deps_ixshort1 heads_ixshort1 entry_ixshort1 trees_ixshort1 = true := by kernel_rfl
theorem ixshort1_ok (n : Nat) : @Ok (I n) q_ixshort1 (okD n) := by
  letI := I n
  refine fn_ok (hphi n) ok_ixshort1 (by intro q hq; simp only [deps_ixshort1, List.not_mem_nil] at hq)
    (fun _ d ds => ∃ (l : List ByteArray) (i : Nat), ds = [strsD l, .row [], iD l.length, iD i] ∧ i ≤ l.length ∧ l.length ≤ lim ∧ d = iD (ixL (fun s : ByteArray => decide ((s.size : Int) > 64)) (l.drop i) i))
    (fun _ ds => (ds.getD 0 .nil).rows.length - (ds.getD 3 .nil).int.toNat) ?_ ?_
  · intro ds hf hp
    obtain ⟨l, rfl⟩ := strs_fn hf
    have h2 : l.length ≤ lim := (lim_strs.1 (okD_two.1 hp).2.1).1
    refine ⟨l, 0, by simp only [Tree.holds, Out.den, E.den, E.denL, den1, den2, den3, den4, den5, den6, den7, den8, Bool.not_eq_true', Bool.not_eq_false', List.getD_cons_zero, List.getD_cons_succ, true_and, and_true, List.length_map, phi_1000, Int.ofNat_zero], Nat.zero_le _, h2, ?_⟩
    simp only [q_ixshort1, phi_ixshort1, List.drop_zero]
  · rintro j h t d ds hj ht hf ⟨l, i, rfl, hi, hl, rfl⟩
    obtain rfl : t = head_ixshort1_0 := by
      match j, ht with
      | 0, ht => exact (Option.some.inj ht).symm
    by_cases hlt : i < l.length
    · obtain ⟨x, hx, hxm, hd⟩ := drop_get hlt
      simp only [head_ixshort1_0, Tree.holds, Out.den, E.den, E.denL, den1, den2, den3, den4, den5, den6, den7, den8, Bool.not_eq_true', Bool.not_eq_false', List.getD_cons_zero, List.getD_cons_succ, true_and, and_true, List.length_map, phi_1000, rowAt_map hx, wrap_succ hlt hl]
      refine ⟨fun _ => ⟨by omega, by omega, fun hb => ?_, fun hb => ⟨⟨l, i + 1, rfl, hlt, hl, ?_⟩, by omega⟩⟩, fun h => by omega⟩
      · rw [hd, ixL, if_pos (by simpa using hb)]
      · rw [hd, ixL, if_neg (by simpa using hb)]
    · simp only [head_ixshort1_0, Tree.holds, Out.den, E.den, E.denL, den1, den2, den3, den4, den5, den6, den7, den8, Bool.not_eq_true', Bool.not_eq_false', List.getD_cons_zero, List.getD_cons_succ, true_and, and_true, List.length_map, phi_1000]
      refine ⟨fun h => by omega, fun _ => ?_⟩
      rw [List.drop_eq_nil_of_le (by omega), ixL]
/-- slices.IndexFunc[[]calamus/api.Value,calamus/api.Value]: func 81, params [39, 42], ntmps 19. -/
-- head 0 of loop 0: [t0 .sh (.cell (.sl 41)), t1 .sh (.fn 67 []), t7 .sh (.cell (.sc (.i .i64))), t8 .sh (.cell (.sc (.i .i64)))]
def heads_ixshort2 : List Hd := [⟨0, [.sh (.cell (.sl 41)), .sh (.fn 67 []), .any, .any, .any, .any, .any, .sh (.cell (.sc (.i .i64))), .sh (.cell (.sc (.i .i64))), .any, .any, .any, .any, .any, .any, .any, .any, .any, .any]⟩]
def entry_ixshort2 : Tree :=
  (.leaf (.go 0 [(.var 0), (.pr .row []), (.pr .len [(.var 0)]), (.lit (.int .i64 0))]))
def head_ixshort2_0 : Tree :=
  (.ite (.pr (.icmp .lss) [(.var 3), (.var 2)])
    (.giv (.pr (.icmp .leq) [(.lit (.int .i64 0)), (.var 3)])
      (.giv (.pr (.icmp .lss) [(.var 3), (.pr .len [(.var 0)])])
        (.giv (.app 1000 [(.pr .row [(.pr (.cell 0) [(.pr .at [(.var 0), (.var 3)])]), (.pr (.cell 1) [(.pr .at [(.var 0), (.var 3)])]), (.pr (.cell 2) [(.pr .at [(.var 0), (.var 3)])]), (.pr (.cell 3) [(.pr .at [(.var 0), (.var 3)])]), (.pr (.cell 4) [(.pr .at [(.var 0), (.var 3)])]), (.pr (.cell 5) [(.pr .at [(.var 0), (.var 3)])]), (.pr (.cell 6) [(.pr .at [(.var 0), (.var 3)])]), (.pr (.cell 7) [(.pr .at [(.var 0), (.var 3)])]), (.pr (.cell 8) [(.pr .at [(.var 0), (.var 3)])])])])
          (.ite (.app 8 [(.pr .row [(.pr (.cell 0) [(.pr .at [(.var 0), (.var 3)])]), (.pr (.cell 1) [(.pr .at [(.var 0), (.var 3)])]), (.pr (.cell 2) [(.pr .at [(.var 0), (.var 3)])]), (.pr (.cell 3) [(.pr .at [(.var 0), (.var 3)])]), (.pr (.cell 4) [(.pr .at [(.var 0), (.var 3)])]), (.pr (.cell 5) [(.pr .at [(.var 0), (.var 3)])]), (.pr (.cell 6) [(.pr .at [(.var 0), (.var 3)])]), (.pr (.cell 7) [(.pr .at [(.var 0), (.var 3)])]), (.pr (.cell 8) [(.pr .at [(.var 0), (.var 3)])])])])
            (.leaf (.go 0 [(.var 0), (.pr .row []), (.var 2), (.pr (.iop .add .i64) [(.var 3), (.lit (.int .i64 1))])]))
            (.leaf (.ret (.var 3)))))))
    (.leaf (.ret (.lit (.int .i64 (-1))))))
def trees_ixshort2 : List Tree := [head_ixshort2_0]
noncomputable def deps_ixshort2 : List Sig := [q_short]
theorem ok_ixshort2 : check q_ixshort2 deps_ixshort2 heads_ixshort2 entry_ixshort2 trees_ixshort2 = true := by kernel_rfl
theorem ixshort2_ok (n : Nat) (ih : @Ok (I n) q_short (okD n)) : @Ok (I n) q_ixshort2 (okD n) := by
  letI := I n
  refine fn_ok (hphi n) ok_ixshort2 (by intro q hq; simp only [deps_ixshort2, List.mem_singleton] at hq; subst hq; exact ih)
    (fun _ d ds => ∃ (l : List Val) (i : Nat), ds = [valsD l, .row [], iD l.length, iD i] ∧ i ≤ l.length ∧ l.length ≤ lim ∧ (∀ x, x ∈ l → okD n [x.toD]) ∧ d = iD (shortL (l.drop i) i))
    (fun _ ds => (ds.getD 0 .nil).rows.length - (ds.getD 3 .nil).int.toNat) ?_ ?_
  · intro ds hf hp
    obtain ⟨l, rfl⟩ := vals_fn hf
    obtain ⟨h2, h3⟩ := okD_vals hp
    refine ⟨l, 0, by simp only [Tree.holds, Out.den, E.den, E.denL, den1, den2, den3, den4, den5, den6, den7, den8, Bool.not_eq_true', Bool.not_eq_false', List.getD_cons_zero, List.getD_cons_succ, true_and, and_true, List.length_map, phi_1000, Int.ofNat_zero], Nat.zero_le _, h2, h3, ?_⟩
    simp only [q_ixshort2, phi_ixshort2, List.drop_zero]
  · rintro j h t d ds hj ht hf ⟨l, i, rfl, hi, hl, hs, rfl⟩
    obtain rfl : t = head_ixshort2_0 := by
      match j, ht with
      | 0, ht => exact (Option.some.inj ht).symm
    by_cases hlt : i < l.length
    · obtain ⟨x, hx, hxm, hd⟩ := drop_get hlt
      simp only [head_ixshort2_0, Tree.holds, Out.den, E.den, E.denL, den1, den2, den3, den4, den5, den6, den7, den8, Bool.not_eq_true', Bool.not_eq_false', List.getD_cons_zero, List.getD_cons_succ, true_and, and_true, List.length_map, phi_1000, rowAt_map hx, phi_short, wrap_succ hlt hl]
      refine ⟨fun _ => ⟨by omega, by omega, hs x hxm, fun hb => ⟨⟨l, i + 1, rfl, hlt, hl, hs, ?_⟩, by omega⟩, fun hb => ?_⟩, fun h => by omega⟩
      · rw [hd, shortL, if_pos hb]
      · rw [hd, shortL, hb]; rfl
    · simp only [head_ixshort2_0, Tree.holds, Out.den, E.den, E.denL, den1, den2, den3, den4, den5, den6, den7, den8, Bool.not_eq_true', Bool.not_eq_false', List.getD_cons_zero, List.getD_cons_succ, true_and, and_true, List.length_map, phi_1000]
      refine ⟨fun h => by omega, fun _ => ?_⟩
      rw [List.drop_eq_nil_of_le (by omega), shortL]
/-- calamus/value.short: func 42, params [41], ntmps 27. -/
def heads_short : List Hd := []
def entry_short : Tree :=
  (.ite (.pr (.icmp .eql) [(.pr (.cell 0) [(.var 0)]), (.lit (.int .i64 9))])
    (.ite (.pr (.icmp .gtr) [(.pr .slen [(.pr (.cell 6) [(.var 0)])]), (.lit (.int .i64 64))])
      (.leaf (.ret (.lit (.bool false))))
      (.ite (.pr (.icmp .gtr) [(.pr .len [(.pr (.cell 8) [(.var 0)])]), (.lit (.int .i64 256))])
        (.leaf (.ret (.lit (.bool false))))
        (.giv (.app 1000 [(.pr (.cell 7) [(.var 0)]), (.pr .row [])])
          (.ite (.pr (.icmp .geq) [(.app 9 [(.pr (.cell 7) [(.var 0)]), (.pr .row [])]), (.lit (.int .i64 0))])
            (.leaf (.ret (.lit (.bool false))))
            (.giv (.app 1000 [(.pr (.cell 8) [(.var 0)]), (.pr .row [])])
              (.leaf (.ret (.pr .not [(.pr (.icmp .geq) [(.app 10 [(.pr (.cell 8) [(.var 0)]), (.pr .row [])]), (.lit (.int .i64 0))])]))))))))
    (.ite (.pr (.icmp .gtr) [(.pr .slen [(.pr (.cell 6) [(.var 0)])]), (.lit (.int .i64 4096))])
      (.leaf (.ret (.lit (.bool false))))
      (.ite (.pr (.icmp .gtr) [(.pr .len [(.pr (.cell 8) [(.var 0)])]), (.lit (.int .i64 256))])
        (.leaf (.ret (.lit (.bool false))))
        (.giv (.app 1000 [(.pr (.cell 7) [(.var 0)]), (.pr .row [])])
          (.ite (.pr (.icmp .geq) [(.app 9 [(.pr (.cell 7) [(.var 0)]), (.pr .row [])]), (.lit (.int .i64 0))])
            (.leaf (.ret (.lit (.bool false))))
            (.giv (.app 1000 [(.pr (.cell 8) [(.var 0)]), (.pr .row [])])
              (.leaf (.ret (.pr .not [(.pr (.icmp .geq) [(.app 10 [(.pr (.cell 8) [(.var 0)]), (.pr .row [])]), (.lit (.int .i64 0))])])))))))))
def trees_short : List Tree := []
noncomputable def deps_short : List Sig := [q_ixshort1, q_ixshort2]
theorem ok_short : check q_short deps_short heads_short entry_short trees_short = true := by kernel_rfl
theorem okD_parts {n : Nat} {v : Val} (h : okD (n + 1) [v.toD]) : okD n [valsD v.list, .row []] ∧ okD n [strsD v.names, .row []] ∧ okD n [strsD v.names] ∧ okD n [sD v.text] ∧ okD n [.row [bD v.neg, sD v.dig, iD v.exp]] ∧ v.text.size ≤ lim ∧ v.dig.size ≤ lim := by
  have h' := h
  rw [okD_one, sz_toD, lim_toD] at h
  obtain ⟨h1, h2, h3, h4, h5⟩ := h
  have p1 := D.sz_pos (strsD v.names)
  have p2 := D.sz_pos (valsD v.list)
  refine ⟨okD_two.2 ⟨?_, h5, lim_nilrow⟩, okD_two.2 ⟨?_, h4, lim_nilrow⟩, okD_one.2 ⟨?_, h4⟩, okD_one.2 ⟨?_, lim_sD.2 h3⟩, okD_one.2 ⟨?_, ?_⟩, h3, h2⟩
  · rw [sz_nilrow]; omega
  · rw [sz_nilrow]; omega
  · omega
  · rw [sz_sD]; omega
  · rw [sz_row]; simp only [D.szL, D.sz]; omega
  · simp only [D.Lim, D.LimL, and_true, true_and]; exact h2
theorem short_step (n : Nat) (ih : @Ok (I n) q_short (okD n)) : @Ok (I n) q_short (okD (n + 1)) := by
  letI := I n
  refine fn_ok (hphi n) ok_short (by
    intro q hq
    simp only [deps_short, List.mem_cons, List.not_mem_nil, or_false] at hq
    rcases hq with rfl | rfl
    · exact ixshort1_ok n
    · exact ixshort2_ok n ih) (fun _ _ _ => False) (fun _ _ => 0) ?_ (fun j h t d ds hj => by simp [heads_short] at hj)
  intro ds hf hp
  obtain ⟨v, rfl⟩ := one_val hf
  obtain ⟨h1, h2, h3, h4, h5, _⟩ := okD_parts hp
  simp only [entry_short, q_short, Tree.holds, Out.den, E.den, E.denL, den1, den2, den3, den4, den5, den6, den7, den8, Bool.not_eq_true', Bool.not_eq_false', List.getD_cons_zero, List.getD_cons_succ, true_and, and_true, List.length_map, phi_1000, phi_ixshort1, phi_ixshort2, phi_short, h1, h2]
  cases v with
  | mk k f ng d e b t ns l =>
    simp only [Val.kind, Val.text, Val.names, Val.list, shortV]
    by_cases hk : k = 9
    · simp only [hk, if_true]
      refine ⟨fun _ => ⟨fun h => by rw [if_pos h], fun h => ⟨fun h' => by rw [if_neg h, if_pos h'], fun h' => ⟨fun h'' => by rw [if_neg h, if_neg h', if_pos h''], fun h'' => by rw [if_neg h, if_neg h', if_neg h'']; rfl⟩⟩⟩, fun h => absurd trivial h⟩
    · simp only [hk, if_false]
      refine ⟨fun h => h.elim, fun _ => ⟨fun h => by rw [if_pos h], fun h => ⟨fun h' => by rw [if_neg h, if_pos h'], fun h' => ⟨fun h'' => by rw [if_neg h, if_neg h', if_pos h''], fun h'' => by rw [if_neg h, if_neg h', if_neg h'']; rfl⟩⟩⟩⟩
theorem short_ok : ∀ (n : Nat), @Ok (I n) q_short (okD n)
  | 0 => ok_zero
  | n + 1 => ok_irrel (by decide) (short_step n (short_ok n))
end Go.Proofs.YtaeeblcdggjokaaDoor.Vk
