/- Contracts: value.Equal, strings.Compare, strings.Repeat, num.Cmp. -/
import Derived.Test.YtaeeblcdggjokaaDoorVkC4
import Derived.Test.YtaeeblcdggjokaaDoorVkPlain
namespace Go.Proofs.YtaeeblcdggjokaaDoor.Vk
open Go Go.Ab Go.RowKit
set_option maxRecDepth 100000
set_option linter.unusedVariables false
set_option linter.unusedSimpArgs false
set_option linter.unusedSectionVars false
set_option linter.constructorNameAsVariable false
theorem okD_three {n : Nat} {d e f : D} : okD n [d, e, f] ↔ d.sz + e.sz + f.sz < n ∧ d.Lim ∧ e.Lim ∧ f.Lim := by
  unfold okD
  simp only [D.szL, D.LimL, and_true]
  constructor
  · rintro ⟨h1, h2⟩; exact ⟨by omega, h2⟩
  · rintro ⟨h1, h2⟩; exact ⟨by omega, h2⟩
theorem two_val {d : List D} (h : FitL tb [.row 41, .row 41] d) : ∃ a b : Val, d = [a.toD, b.toD] := by
  match d, h with
  | [x, y], ⟨h1, h2⟩ =>
    obtain ⟨a, ha⟩ := one_val (d := [x]) ⟨h1, trivial⟩
    obtain ⟨b, hb⟩ := one_val (d := [y]) h2
    cases ha; cases hb
    exact ⟨a, b, rfl⟩
theorem vals2_fn {f : Nat} {d : List D} (h : FitL tb [.cell (.sl 41), .cell (.sl 41), .fn f []] d) : ∃ a b : List Val, d = [valsD a, valsD b, .row []] := by
  match d, h with
  | [x, y, z], ⟨h1, h2, h3, _⟩ =>
    obtain ⟨a, rfl⟩ := fits_vals shV shS h1
    obtain ⟨b, rfl⟩ := fits_vals shV shS h2
    rw [fit_fn h3]
    exact ⟨a, b, rfl⟩
theorem strs_two {d : List D} (h : FitL tb [.cell (.sl 9), .cell (.sl 9)] d) : ∃ a b : List ByteArray, d = [strsD a, strsD b] := by
  match d, h with
  | [x, y], ⟨h1, h2, _⟩ =>
    obtain ⟨a, rfl⟩ := fits_strs shS h1
    obtain ⟨b, rfl⟩ := fits_strs shS h2
    exact ⟨a, b, rfl⟩
theorem fit_num {d : D} (h : FitS tb (.row 37) d) : ∃ (a : Bool) (s : ByteArray) (e : Int), d = .row [bD a, sD s, iD e] := by
  obtain ⟨cs, rfl, h⟩ := h
  obtain ⟨d1, r, rfl, g1, h⟩ := fitsC_cons h
  obtain ⟨d2, r, rfl, g2, h⟩ := fitsC_cons h
  obtain ⟨d3, r, rfl, g3, h⟩ := fitsC_cons h
  obtain rfl := fitsC_nil h
  obtain ⟨z1, rfl⟩ := fits_bool g1
  obtain ⟨z2, rfl⟩ := fits_str g2
  obtain ⟨z3, rfl⟩ := fits_int g3
  exact ⟨z1, z2, z3, rfl⟩
theorem num_two {d : List D} (h : FitL tb [.row 37, .row 37] d) : ∃ (a : Bool) (s : ByteArray) (e : Int) (a' : Bool) (s' : ByteArray) (e' : Int), d = [.row [bD a, sD s, iD e], .row [bD a', sD s', iD e']] := by
  match d, h with
  | [x, y], ⟨h1, h2, _⟩ =>
    obtain ⟨a, s, e, rfl⟩ := fit_num h1
    obtain ⟨a', s', e', rfl⟩ := fit_num h2
    exact ⟨a, s, e, a', s', e', rfl⟩
/-- slices.Equal[[]string,string]: func 45, params [23, 23], ntmps 26. -/
-- head 0 of loop 0: [t0 .sh (.cell (.sl 9)), t1 .sh (.cell (.sl 9)), t12 .sh (.cell (.sc (.i .i64))), t13 .sh (.cell (.sc (.i .i64)))]
def heads_eqstrs : List Hd := [⟨0, [.sh (.cell (.sl 9)), .sh (.cell (.sl 9)), .any, .any, .any, .any, .any, .any, .any, .any, .any, .any, .sh (.cell (.sc (.i .i64))), .sh (.cell (.sc (.i .i64))), .any, .any, .any, .any, .any, .any, .any, .any, .any, .any, .any, .any]⟩]
def entry_eqstrs : Tree :=
  (.ite (.pr (.icmp .neq) [(.pr .len [(.var 0)]), (.pr .len [(.var 1)])])
    (.leaf (.ret (.lit (.bool false))))
    (.leaf (.go 0 [(.var 0), (.var 1), (.pr .len [(.var 0)]), (.lit (.int .i64 0))])))
def head_eqstrs_0 : Tree :=
  (.ite (.pr (.icmp .lss) [(.var 3), (.var 2)])
    (.giv (.pr (.icmp .leq) [(.lit (.int .i64 0)), (.var 3)])
      (.giv (.pr (.icmp .lss) [(.var 3), (.pr .len [(.var 0)])])
        (.giv (.pr (.icmp .lss) [(.var 3), (.pr .len [(.var 1)])])
          (.ite (.pr (.scmp .neq) [(.pr (.cell 0) [(.pr .at [(.var 0), (.var 3)])]), (.pr (.cell 0) [(.pr .at [(.var 1), (.var 3)])])])
            (.leaf (.ret (.lit (.bool false))))
            (.leaf (.go 0 [(.var 0), (.var 1), (.var 2), (.pr (.iop .add .i64) [(.var 3), (.lit (.int .i64 1))])]))))))
    (.leaf (.ret (.lit (.bool true)))))
def trees_eqstrs : List Tree := [head_eqstrs_0]
noncomputable def deps_eqstrs : List Sig := []
theorem ok_eqstrs : check q_eqstrs deps_eqstrs heads_eqstrs entry_eqstrs trees_eqstrs = true := by kernel_rfl
theorem eqstrs_ok (n : Nat) : @Ok (I n) q_eqstrs (okD n) := by
  letI := I n
  refine fn_ok (hphi n) ok_eqstrs (by intro q hq; simp [deps_eqstrs] at hq)
    (fun _ d ds => ∃ (a b : List ByteArray) (i : Nat), ds = [strsD a, strsD b, iD a.length, iD i] ∧ i ≤ a.length ∧ a.length = b.length ∧ a.length ≤ lim ∧ d = bD (decide (a.drop i = b.drop i)))
    (fun _ ds => (ds.getD 2 .nil).int.toNat - (ds.getD 3 .nil).int.toNat) ?_ ?_
  · intro ds hf hp
    obtain ⟨a, b, rfl⟩ := strs_two hf
    obtain ⟨h1, h2, h3⟩ := okD_two.1 hp
    have h2 := (lim_strs.1 h2).1
    simp only [entry_eqstrs, q_eqstrs, Tree.holds, Out.den, E.den, E.denL, den1, den2, den3, den4, den5, den6, den7, den8, Bool.not_eq_true', Bool.not_eq_false', List.getD_cons_zero, List.getD_cons_succ, true_and, and_true, List.length_map, phi_1000, phi_eqstrs]
    refine ⟨fun h => ?_, fun h => ⟨a, b, 0, by simp only [Int.ofNat_zero], Nat.zero_le _, by omega, h2, rfl⟩⟩
    rw [decide_eq_false (fun e => h (by rw [e]))]
  · rintro j h t d ds hj ht hf ⟨a, b, i, rfl, hi, hab, hl, rfl⟩
    obtain rfl : t = head_eqstrs_0 := by
      match j, ht with
      | 0, ht => exact (Option.some.inj ht).symm
    by_cases hlt : i < a.length
    · obtain ⟨x, hx, hxm, hd⟩ := drop_get hlt
      obtain ⟨y, hy, hym, hd'⟩ := drop_get (show i < b.length by omega)
      simp only [head_eqstrs_0, Tree.holds, Out.den, E.den, E.denL, den1, den2, den3, den4, den5, den6, den7, den8, Bool.not_eq_true', Bool.not_eq_false', List.getD_cons_zero, List.getD_cons_succ, true_and, and_true, List.length_map, phi_1000, rowAt_map hx, rowAt_map hy, wrap_succ hlt hl]
      refine ⟨fun _ => ⟨by omega, by omega, by omega, fun hb => ?_, fun hb => ⟨⟨a, b, i + 1, rfl, hlt, hab, hl, ?_⟩, by omega⟩⟩, fun h => by omega⟩
      · rw [hd, hd', decide_eq_false (fun e => hb (List.cons.inj e).1)]
      · rw [hd, hd', hb]; simp
    · simp only [head_eqstrs_0, Tree.holds, Out.den, E.den, E.denL, den1, den2, den3, den4, den5, den6, den7, den8, Bool.not_eq_true', Bool.not_eq_false', List.getD_cons_zero, List.getD_cons_succ, true_and, and_true, List.length_map, phi_1000]
      refine ⟨fun h => by omega, fun _ => ?_⟩
      rw [List.drop_eq_nil_of_le (by omega), List.drop_eq_nil_of_le (by omega)]
      rfl
/-- slices.EqualFunc[[]calamus/api.Value,[]calamus/api.Value,calamus/api.Value,calamus/api.Value]: func 46, params [39, 39, 53], ntmps 32. -/
-- head 0 of loop 0: [t1 .sh (.cell (.sl 41)), t2 .sh (.fn 26 []), t15 .sh (.cell (.sl 41)), t16 .sh (.cell (.sc (.i .i64))), t17 .sh (.cell (.sc (.i .i64)))]
def heads_eqvals : List Hd := [⟨0, [.any, .sh (.cell (.sl 41)), .sh (.fn 26 []), .any, .any, .any, .any, .any, .any, .any, .any, .any, .any, .any, .any, .sh (.cell (.sl 41)), .sh (.cell (.sc (.i .i64))), .sh (.cell (.sc (.i .i64))), .any, .any, .any, .any, .any, .any, .any, .any, .any, .any, .any, .any, .any, .any]⟩]
def entry_eqvals : Tree :=
  (.ite (.pr (.icmp .neq) [(.pr .len [(.var 0)]), (.pr .len [(.var 1)])])
    (.leaf (.ret (.lit (.bool false))))
    (.leaf (.go 0 [(.var 1), (.pr .row []), (.var 0), (.pr .len [(.var 0)]), (.lit (.int .i64 0))])))
def head_eqvals_0 : Tree :=
  (.ite (.pr (.icmp .lss) [(.var 4), (.var 3)])
    (.giv (.pr (.icmp .leq) [(.lit (.int .i64 0)), (.var 4)])
      (.giv (.pr (.icmp .lss) [(.var 4), (.pr .len [(.var 2)])])
        (.giv (.pr (.icmp .lss) [(.var 4), (.pr .len [(.var 0)])])
          (.giv (.app 1000 [(.pr .row [(.pr (.cell 0) [(.pr .at [(.var 2), (.var 4)])]), (.pr (.cell 1) [(.pr .at [(.var 2), (.var 4)])]), (.pr (.cell 2) [(.pr .at [(.var 2), (.var 4)])]), (.pr (.cell 3) [(.pr .at [(.var 2), (.var 4)])]), (.pr (.cell 4) [(.pr .at [(.var 2), (.var 4)])]), (.pr (.cell 5) [(.pr .at [(.var 2), (.var 4)])]), (.pr (.cell 6) [(.pr .at [(.var 2), (.var 4)])]), (.pr (.cell 7) [(.pr .at [(.var 2), (.var 4)])]), (.pr (.cell 8) [(.pr .at [(.var 2), (.var 4)])])]), (.pr .row [(.pr (.cell 0) [(.pr .at [(.var 0), (.var 4)])]), (.pr (.cell 1) [(.pr .at [(.var 0), (.var 4)])]), (.pr (.cell 2) [(.pr .at [(.var 0), (.var 4)])]), (.pr (.cell 3) [(.pr .at [(.var 0), (.var 4)])]), (.pr (.cell 4) [(.pr .at [(.var 0), (.var 4)])]), (.pr (.cell 5) [(.pr .at [(.var 0), (.var 4)])]), (.pr (.cell 6) [(.pr .at [(.var 0), (.var 4)])]), (.pr (.cell 7) [(.pr .at [(.var 0), (.var 4)])]), (.pr (.cell 8) [(.pr .at [(.var 0), (.var 4)])])])])
            (.ite (.app 17 [(.pr .row [(.pr (.cell 0) [(.pr .at [(.var 2), (.var 4)])]), (.pr (.cell 1) [(.pr .at [(.var 2), (.var 4)])]), (.pr (.cell 2) [(.pr .at [(.var 2), (.var 4)])]), (.pr (.cell 3) [(.pr .at [(.var 2), (.var 4)])]), (.pr (.cell 4) [(.pr .at [(.var 2), (.var 4)])]), (.pr (.cell 5) [(.pr .at [(.var 2), (.var 4)])]), (.pr (.cell 6) [(.pr .at [(.var 2), (.var 4)])]), (.pr (.cell 7) [(.pr .at [(.var 2), (.var 4)])]), (.pr (.cell 8) [(.pr .at [(.var 2), (.var 4)])])]), (.pr .row [(.pr (.cell 0) [(.pr .at [(.var 0), (.var 4)])]), (.pr (.cell 1) [(.pr .at [(.var 0), (.var 4)])]), (.pr (.cell 2) [(.pr .at [(.var 0), (.var 4)])]), (.pr (.cell 3) [(.pr .at [(.var 0), (.var 4)])]), (.pr (.cell 4) [(.pr .at [(.var 0), (.var 4)])]), (.pr (.cell 5) [(.pr .at [(.var 0), (.var 4)])]), (.pr (.cell 6) [(.pr .at [(.var 0), (.var 4)])]), (.pr (.cell 7) [(.pr .at [(.var 0), (.var 4)])]), (.pr (.cell 8) [(.pr .at [(.var 0), (.var 4)])])])])
              (.leaf (.go 0 [(.var 0), (.pr .row []), (.var 2), (.var 3), (.pr (.iop .add .i64) [(.var 4), (.lit (.int .i64 1))])]))
              (.leaf (.ret (.lit (.bool false)))))))))
    (.leaf (.ret (.lit (.bool true)))))
def trees_eqvals : List Tree := [head_eqvals_0]
noncomputable def deps_eqvals : List Sig := [q_equal]
theorem ok_eqvals : check q_eqvals deps_eqvals heads_eqvals entry_eqvals trees_eqvals = true := by kernel_rfl
theorem eqvals_ok (n : Nat) (ih : @Ok (I n) q_equal (okD n)) : @Ok (I n) q_eqvals (okD n) := by
  letI := I n
  refine fn_ok (hphi n) ok_eqvals (by intro q hq; simp only [deps_eqvals, List.mem_singleton] at hq; subst hq; exact ih)
    (fun _ d ds => ∃ (a b : List Val) (i : Nat), ds = [valsD b, .row [], valsD a, iD a.length, iD i] ∧ i ≤ a.length ∧ a.length = b.length ∧ a.length ≤ lim ∧ (∀ x y, x ∈ a → y ∈ b → okD n [x.toD, y.toD]) ∧ d = bD (eqVs (a.drop i) (b.drop i)))
    (fun _ ds => (ds.getD 3 .nil).int.toNat - (ds.getD 4 .nil).int.toNat) ?_ ?_
  · intro ds hf hp
    obtain ⟨a, b, rfl⟩ := vals2_fn hf
    obtain ⟨h1, h2, h3, _⟩ := okD_three.1 hp
    obtain ⟨h2, h4⟩ := lim_vals.1 h2
    obtain ⟨h3, h5⟩ := lim_vals.1 h3
    simp only [entry_eqvals, q_eqvals, Tree.holds, Out.den, E.den, E.denL, den1, den2, den3, den4, den5, den6, den7, den8, Bool.not_eq_true', Bool.not_eq_false', List.getD_cons_zero, List.getD_cons_succ, true_and, and_true, List.length_map, phi_1000, phi_eqvals]
    refine ⟨fun h => ?_, fun h => ⟨a, b, 0, by simp only [Int.ofNat_zero], Nat.zero_le _, by omega, h2, fun x y hx hy => okD_two.2 ⟨?_, h4 x hx, h5 y hy⟩, rfl⟩⟩
    · unfold eqVs
      rw [@decide_eq_false _ (Classical.propDecidable _) (fun e => h (by rw [e]))]
    · have := sz_vals_mem hx
      have := sz_vals_mem hy
      omega
  · rintro j h t d ds hj ht hf ⟨a, b, i, rfl, hi, hab, hl, hs, rfl⟩
    obtain rfl : t = head_eqvals_0 := by
      match j, ht with
      | 0, ht => exact (Option.some.inj ht).symm
    by_cases hlt : i < a.length
    · obtain ⟨x, hx, hxm, hd⟩ := drop_get hlt
      obtain ⟨y, hy, hym, hd'⟩ := drop_get (show i < b.length by omega)
      simp only [head_eqvals_0, Tree.holds, Out.den, E.den, E.denL, den1, den2, den3, den4, den5, den6, den7, den8, Bool.not_eq_true', Bool.not_eq_false', List.getD_cons_zero, List.getD_cons_succ, true_and, and_true, List.length_map, phi_1000, rowAt_map hx, rowAt_map hy, phi_equal, wrap_succ hlt hl]
      have e : eqVs (x :: a.drop (i + 1)) (y :: b.drop (i + 1)) = (eqV x y && eqVs (a.drop (i + 1)) (b.drop (i + 1))) := by
        unfold eqVs eqV
        rw [Bool.eq_iff_iff]
        simp
      refine ⟨fun _ => ⟨by omega, by omega, by omega, hs x y hxm hym, fun hb => ⟨⟨a, b, i + 1, rfl, hlt, hab, hl, hs, ?_⟩, by omega⟩, fun hb => ?_⟩, fun h => by omega⟩
      · rw [hd, hd', e, hb]; rfl
      · rw [hd, hd', e, hb]; rfl
    · simp only [head_eqvals_0, Tree.holds, Out.den, E.den, E.denL, den1, den2, den3, den4, den5, den6, den7, den8, Bool.not_eq_true', Bool.not_eq_false', List.getD_cons_zero, List.getD_cons_succ, true_and, and_true, List.length_map, phi_1000]
      refine ⟨fun h => by omega, fun _ => ?_⟩
      rw [List.drop_eq_nil_of_le (by omega), List.drop_eq_nil_of_le (by omega)]
      unfold eqVs
      simp
theorem eqV_iff (a b : Val) : eqV a b = true ↔ a.kind = b.kind ∧ a.flag = b.flag ∧ (a.neg = b.neg ∧ a.dig = b.dig ∧ a.exp = b.exp) ∧ a.bits = b.bits ∧ a.text = b.text ∧ a.names = b.names ∧ eqVs a.list b.list = true := by
  unfold eqV eqVs
  rw [@decide_eq_true_iff _ (Classical.propDecidable _), @decide_eq_true_iff _ (Classical.propDecidable _)]
  cases a; cases b
  simp only [Val.mk.injEq, Val.kind, Val.flag, Val.neg, Val.dig, Val.exp, Val.bits, Val.text, Val.names, Val.list, and_assoc]
/-- calamus/value.Equal: func 26, params [41, 41], ntmps 52. -/
def heads_equal : List Hd := []
def entry_equal : Tree :=
  (.ite (.pr (.icmp .eql) [(.pr (.cell 0) [(.var 0)]), (.pr (.cell 0) [(.var 1)])])
    (.ite (.pr (.bcmp .eql) [(.pr (.cell 1) [(.var 0)]), (.pr (.cell 1) [(.var 1)])])
      (.ite (.pr .and [(.pr (.bcmp .eql) [(.pr (.cell 2) [(.var 0)]), (.pr (.cell 2) [(.var 1)])]), (.pr (.scmp .eql) [(.pr (.cell 3) [(.var 0)]), (.pr (.cell 3) [(.var 1)])]), (.pr (.icmp .eql) [(.pr (.cell 4) [(.var 0)]), (.pr (.cell 4) [(.var 1)])])])
        (.ite (.pr (.icmp .eql) [(.pr (.cell 5) [(.var 0)]), (.pr (.cell 5) [(.var 1)])])
          (.ite (.pr (.scmp .eql) [(.pr (.cell 6) [(.var 0)]), (.pr (.cell 6) [(.var 1)])])
            (.giv (.app 1000 [(.pr (.cell 7) [(.var 0)]), (.pr (.cell 7) [(.var 1)])])
              (.ite (.app 16 [(.pr (.cell 7) [(.var 0)]), (.pr (.cell 7) [(.var 1)])])
                (.giv (.app 1000 [(.pr (.cell 8) [(.var 0)]), (.pr (.cell 8) [(.var 1)]), (.pr .row [])])
                  (.leaf (.ret (.app 18 [(.pr (.cell 8) [(.var 0)]), (.pr (.cell 8) [(.var 1)]), (.pr .row [])]))))
                (.leaf (.ret (.lit (.bool false))))))
            (.leaf (.ret (.lit (.bool false)))))
          (.leaf (.ret (.lit (.bool false)))))
        (.leaf (.ret (.lit (.bool false)))))
      (.leaf (.ret (.lit (.bool false)))))
    (.leaf (.ret (.lit (.bool false)))))
def trees_equal : List Tree := []
noncomputable def deps_equal : List Sig := [q_eqstrs, q_eqvals]
theorem ok_equal : check q_equal deps_equal heads_equal entry_equal trees_equal = true := by kernel_rfl
theorem equal_step (n : Nat) (ih : @Ok (I n) q_equal (okD n)) : @Ok (I n) q_equal (okD (n + 1)) := by
  letI := I n
  refine fn_ok (hphi n) ok_equal (by
    intro q hq
    simp only [deps_equal, List.mem_cons, List.not_mem_nil, or_false] at hq
    rcases hq with rfl | rfl
    · exact eqstrs_ok n
    · exact eqvals_ok n ih) (fun _ _ _ => False) (fun _ _ => 0) ?_ (fun j h t d ds hj => by simp [heads_equal] at hj)
  intro ds hf hp
  obtain ⟨a, b, rfl⟩ := two_val hf
  obtain ⟨h1, h2, h3⟩ := okD_two.1 hp
  obtain ⟨_, _, h4, h5⟩ := (lim_toD a).1 h2
  obtain ⟨_, _, h6, h7⟩ := (lim_toD b).1 h3
  rw [sz_toD, sz_toD] at h1
  have o1 : okD n [strsD a.names, strsD b.names] := okD_two.2 ⟨by omega, h4, h6⟩
  have o2 : okD n [valsD a.list, valsD b.list, .row []] := okD_three.2 ⟨by rw [sz_nilrow]; omega, h5, h7, lim_nilrow⟩
  simp only [entry_equal, q_equal, Tree.holds, Out.den, E.den, E.denL, den1, den2, den3, den4, den5, den6, den7, den8, Bool.not_eq_true', Bool.not_eq_false', List.getD_cons_zero, List.getD_cons_succ, true_and, and_true, List.length_map, phi_1000, phi_eqstrs, phi_eqvals, phi_equal, o1, o2, List.all_cons, List.all_nil, Bool.and_true, Bool.and_eq_true, Bool.and_eq_false_iff, beq_iff_eq, bD_inj, decide_eq_true_iff]
  have he := eqV_iff a b
  generalize eqV a b = E at *
  generalize eqVs a.list b.list = L at *
  clear hf hp h1 h2 h3 h4 h5 h6 h7 o1 o2 ih
  grind
theorem equal_ok : ∀ (n : Nat), @Ok (I n) q_equal (okD n)
  | 0 => ok_zero
  | n + 1 => ok_irrel (by decide) (equal_step n (equal_ok n))
end Go.Proofs.YtaeeblcdggjokaaDoor.Vk
