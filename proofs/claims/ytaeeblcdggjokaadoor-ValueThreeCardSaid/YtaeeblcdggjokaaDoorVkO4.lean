/- Contract: value.Cmp; the law's functions. -/
import Derived.Test.YtaeeblcdggjokaaDoorVkO3
import Derived.Test.YtaeeblcdggjokaaDoorVkAwake
namespace Go.Proofs.YtaeeblcdggjokaaDoor.Vk
open Go Go.Ab Go.RowKit
set_option maxRecDepth 100000
set_option linter.unusedVariables false
set_option linter.unusedSimpArgs false
set_option linter.unusedSectionVars false
set_option linter.constructorNameAsVariable false
theorem check_good {v : Val} (h : checkV v = 0) : good v = true := by
  unfold checkV at h
  rw [good_iff]
  by_cases h1 : formedV v = true
  · rw [if_pos h1] at h
    by_cases h2 : shortV v = true
    · exact ⟨h1, h2⟩
    · rw [if_neg h2] at h; cases h
  · rw [if_neg h1] at h; cases h
theorem order_ok' (n : Nat) : @Ok (I n) q_order (@okS (I n) n q_order.g) := order_ok n
/-- calamus/value.Cmp: func 25, params [41, 41], ntmps 26. -/
-- head 0 of loop 0: [t2 .rf 41, t3 .rf 41, t11 .sh (.cell (.sl 41)), t12 .sh (.cell (.sc (.i .i64))), t13 .sh (.cell (.sc (.i .i64)))]
def heads_vcmp : List Hd := [⟨0, [.any, .any, .rf 41, .rf 41, .any, .any, .any, .any, .any, .any, .any, .sh (.cell (.sl 41)), .sh (.cell (.sc (.i .i64))), .sh (.cell (.sc (.i .i64))), .any, .any, .any, .any, .any, .any, .any, .any, .any, .any, .any, .any]⟩]
def entry_vcmp : Tree :=
  (.leaf (.go 0 [(.pr .row [(.pr (.cell 0) [(.var 0)]), (.pr (.cell 1) [(.var 0)]), (.pr (.cell 2) [(.var 0)]), (.pr (.cell 3) [(.var 0)]), (.pr (.cell 4) [(.var 0)]), (.pr (.cell 5) [(.var 0)]), (.pr (.cell 6) [(.var 0)]), (.pr (.cell 7) [(.var 0)]), (.pr (.cell 8) [(.var 0)])]), (.pr .row [(.pr (.cell 0) [(.var 1)]), (.pr (.cell 1) [(.var 1)]), (.pr (.cell 2) [(.var 1)]), (.pr (.cell 3) [(.var 1)]), (.pr (.cell 4) [(.var 1)]), (.pr (.cell 5) [(.var 1)]), (.pr (.cell 6) [(.var 1)]), (.pr (.cell 7) [(.var 1)]), (.pr (.cell 8) [(.var 1)])]), (.pr .lst [(.pr .row [(.pr (.cell 0) [(.var 0)]), (.pr (.cell 1) [(.var 0)]), (.pr (.cell 2) [(.var 0)]), (.pr (.cell 3) [(.var 0)]), (.pr (.cell 4) [(.var 0)]), (.pr (.cell 5) [(.var 0)]), (.pr (.cell 6) [(.var 0)]), (.pr (.cell 7) [(.var 0)]), (.pr (.cell 8) [(.var 0)])]), (.pr .row [(.pr (.cell 0) [(.var 1)]), (.pr (.cell 1) [(.var 1)]), (.pr (.cell 2) [(.var 1)]), (.pr (.cell 3) [(.var 1)]), (.pr (.cell 4) [(.var 1)]), (.pr (.cell 5) [(.var 1)]), (.pr (.cell 6) [(.var 1)]), (.pr (.cell 7) [(.var 1)]), (.pr (.cell 8) [(.var 1)])])]), (.lit (.int .i64 2)), (.lit (.int .i64 0))]))
def head_vcmp_0 : Tree :=
  (.ite (.pr (.icmp .lss) [(.var 4), (.var 3)])
    (.giv (.pr (.icmp .leq) [(.lit (.int .i64 0)), (.var 4)])
      (.giv (.pr (.icmp .lss) [(.var 4), (.pr .len [(.var 2)])])
        (.giv (.app 1000 [(.pr .row [(.pr (.cell 0) [(.pr .at [(.var 2), (.var 4)])]), (.pr (.cell 1) [(.pr .at [(.var 2), (.var 4)])]), (.pr (.cell 2) [(.pr .at [(.var 2), (.var 4)])]), (.pr (.cell 3) [(.pr .at [(.var 2), (.var 4)])]), (.pr (.cell 4) [(.pr .at [(.var 2), (.var 4)])]), (.pr (.cell 5) [(.pr .at [(.var 2), (.var 4)])]), (.pr (.cell 6) [(.pr .at [(.var 2), (.var 4)])]), (.pr (.cell 7) [(.pr .at [(.var 2), (.var 4)])]), (.pr (.cell 8) [(.pr .at [(.var 2), (.var 4)])])])])
          (.ite (.pr (.icmp .neq) [(.app 13 [(.pr .row [(.pr (.cell 0) [(.pr .at [(.var 2), (.var 4)])]), (.pr (.cell 1) [(.pr .at [(.var 2), (.var 4)])]), (.pr (.cell 2) [(.pr .at [(.var 2), (.var 4)])]), (.pr (.cell 3) [(.pr .at [(.var 2), (.var 4)])]), (.pr (.cell 4) [(.pr .at [(.var 2), (.var 4)])]), (.pr (.cell 5) [(.pr .at [(.var 2), (.var 4)])]), (.pr (.cell 6) [(.pr .at [(.var 2), (.var 4)])]), (.pr (.cell 7) [(.pr .at [(.var 2), (.var 4)])]), (.pr (.cell 8) [(.pr .at [(.var 2), (.var 4)])])])]), (.lit (.int .i64 0))])
            (.leaf (.ret (.pr .row [(.lit (.int .i64 0)), (.app 13 [(.pr .row [(.pr (.cell 0) [(.pr .at [(.var 2), (.var 4)])]), (.pr (.cell 1) [(.pr .at [(.var 2), (.var 4)])]), (.pr (.cell 2) [(.pr .at [(.var 2), (.var 4)])]), (.pr (.cell 3) [(.pr .at [(.var 2), (.var 4)])]), (.pr (.cell 4) [(.pr .at [(.var 2), (.var 4)])]), (.pr (.cell 5) [(.pr .at [(.var 2), (.var 4)])]), (.pr (.cell 6) [(.pr .at [(.var 2), (.var 4)])]), (.pr (.cell 7) [(.pr .at [(.var 2), (.var 4)])]), (.pr (.cell 8) [(.pr .at [(.var 2), (.var 4)])])])])])))
            (.leaf (.go 0 [(.var 0), (.var 1), (.var 2), (.var 3), (.pr (.iop .add .i64) [(.var 4), (.lit (.int .i64 1))])]))))))
    (.giv (.app 1000 [(.pr .row [(.pr (.cell 0) [(.var 0)]), (.pr (.cell 1) [(.var 0)]), (.pr (.cell 2) [(.var 0)]), (.pr (.cell 3) [(.var 0)]), (.pr (.cell 4) [(.var 0)]), (.pr (.cell 5) [(.var 0)]), (.pr (.cell 6) [(.var 0)]), (.pr (.cell 7) [(.var 0)]), (.pr (.cell 8) [(.var 0)])]), (.pr .row [(.pr (.cell 0) [(.var 1)]), (.pr (.cell 1) [(.var 1)]), (.pr (.cell 2) [(.var 1)]), (.pr (.cell 3) [(.var 1)]), (.pr (.cell 4) [(.var 1)]), (.pr (.cell 5) [(.var 1)]), (.pr (.cell 6) [(.var 1)]), (.pr (.cell 7) [(.var 1)]), (.pr (.cell 8) [(.var 1)])])])
      (.giv (.app 2024 [(.pr .row [(.pr (.cell 0) [(.var 0)]), (.pr (.cell 1) [(.var 0)]), (.pr (.cell 2) [(.var 0)]), (.pr (.cell 3) [(.var 0)]), (.pr (.cell 4) [(.var 0)]), (.pr (.cell 5) [(.var 0)]), (.pr (.cell 6) [(.var 0)]), (.pr (.cell 7) [(.var 0)]), (.pr (.cell 8) [(.var 0)])]), (.pr .row [(.pr (.cell 0) [(.var 1)]), (.pr (.cell 1) [(.var 1)]), (.pr (.cell 2) [(.var 1)]), (.pr (.cell 3) [(.var 1)]), (.pr (.cell 4) [(.var 1)]), (.pr (.cell 5) [(.var 1)]), (.pr (.cell 6) [(.var 1)]), (.pr (.cell 7) [(.var 1)]), (.pr (.cell 8) [(.var 1)])])])
        (.leaf (.ret (.pr .row [(.app 24 [(.pr .row [(.pr (.cell 0) [(.var 0)]), (.pr (.cell 1) [(.var 0)]), (.pr (.cell 2) [(.var 0)]), (.pr (.cell 3) [(.var 0)]), (.pr (.cell 4) [(.var 0)]), (.pr (.cell 5) [(.var 0)]), (.pr (.cell 6) [(.var 0)]), (.pr (.cell 7) [(.var 0)]), (.pr (.cell 8) [(.var 0)])]), (.pr .row [(.pr (.cell 0) [(.var 1)]), (.pr (.cell 1) [(.var 1)]), (.pr (.cell 2) [(.var 1)]), (.pr (.cell 3) [(.var 1)]), (.pr (.cell 4) [(.var 1)]), (.pr (.cell 5) [(.var 1)]), (.pr (.cell 6) [(.var 1)]), (.pr (.cell 7) [(.var 1)]), (.pr (.cell 8) [(.var 1)])])]), (.lit (.int .i64 0))]))))))
def trees_vcmp : List Tree := [head_vcmp_0]
noncomputable def deps_vcmp : List Sig := [q_check, q_order]
theorem ok_vcmp : check q_vcmp deps_vcmp heads_vcmp entry_vcmp trees_vcmp = true := by kernel_rfl
theorem vcmp_ok (n : Nat) : @Ok (I n) q_vcmp (okD n) := by
  letI := I n
  refine fn_okS (hphi n) ok_vcmp (by
    intro q hq
    simp only [deps_vcmp, List.mem_cons, List.not_mem_nil, or_false] at hq
    rcases hq with rfl | rfl
    · exact okS_of (check_ok n)
    · exact order_ok n)
    (fun _ d ds => ∃ (a b : Val) (i : Nat), ds = [a.toD, b.toD, valsD [a, b], iD 2, iD i] ∧ i ≤ 2 ∧ okD n [a.toD, b.toD] ∧ (1 ≤ i → checkV a = 0) ∧ (2 ≤ i → checkV b = 0) ∧ d = .row [iD (vcmpV a b).1, iD (vcmpV a b).2])
    (fun _ ds => 2 - (ds.getD 4 .nil).int.toNat) ?_ ?_
  · intro ds hf hp
    obtain ⟨a, b, rfl⟩ := two_val hf
    simp only [entry_vcmp, q_vcmp, Tree.holds, Out.den, E.den, E.denL, envOf_zero, envOf_succ, den_add, den_sub, den_mul, den_quo, den_rem, den_ieql, den_ineq, den_lss, den_leq, den_gtr, den_geq, den_seql, den_sneq, den_slss, den_beql, den_bneq, den_not, den_neg, den_conv, den_slen, den_sat, den_ssub, den_scat, den_len, den_at, den_cell, den_row, den_lst, den_cat, den_ite, den_and, den_mhas, den_mget, den_mset, ofBool_bD, bD_true, rows_lst, cells_row, int_v, bool_v, str_v, rows_strs, at_0, at_1, at_2, at_3, at_4, at_5, at_6, at_7, at_8, toD_put, strD_at, ltI_t, leI_t, eqI_t, eqS_t, ltI_f, leI_f, eqI_f, eqS_f, Bool.not_eq_true', Bool.not_eq_false', List.getD_cons_zero, List.getD_cons_succ, true_and, and_true, List.length_map, phi_1000, phi_vcmp]
    exact ⟨a, b, 0, rfl, by omega, hp, fun h => by omega, fun h => by omega, rfl⟩
  · rintro j h t d ds hj ht hf ⟨a, b, i, rfl, hi, ho, h1, h2, rfl⟩
    obtain rfl : t = head_vcmp_0 := by
      match j, ht with
      | 0, ht => exact (Option.some.inj ht).symm
    obtain ⟨k1, k2, k3⟩ := okD_two.1 ho
    have oa : okD n [a.toD] := okD_one.2 ⟨by omega, k2⟩
    have ob : okD n [b.toD] := okD_one.2 ⟨by omega, k3⟩
    match i, hi, h1, h2, hf with
    | 0, _, h1, h2, hf =>
      have hx : [a, b][0]? = some a := rfl
      have hx := rowAt_map (f := Val.toD) hx
      simp only [head_vcmp_0, Tree.holds, Out.den, E.den, E.denL, envOf_zero, envOf_succ, den_add, den_sub, den_mul, den_quo, den_rem, den_ieql, den_ineq, den_lss, den_leq, den_gtr, den_geq, den_seql, den_sneq, den_slss, den_beql, den_bneq, den_not, den_neg, den_conv, den_slen, den_sat, den_ssub, den_scat, den_len, den_at, den_cell, den_row, den_lst, den_cat, den_ite, den_and, den_mhas, den_mget, den_mset, ofBool_bD, bD_true, rows_lst, cells_row, int_v, bool_v, str_v, rows_strs, at_0, at_1, at_2, at_3, at_4, at_5, at_6, at_7, at_8, toD_put, strD_at, ltI_t, leI_t, eqI_t, eqS_t, ltI_f, leI_f, eqI_f, eqS_f, Bool.not_eq_true', Bool.not_eq_false', List.getD_cons_zero, List.getD_cons_succ, true_and, and_true, List.length_map, phi_1000, hx, phi_check, phi_order, phi_vcmp, oa]
      unfold vcmpV
      refine ⟨fun _ => ⟨by omega, by show (0 : Int) < ((2 : Nat) : Int); omega, fun h => ?_, fun h => ⟨⟨a, b, 1, rfl, by omega, ho, fun _ => h, fun h => by omega, ?_⟩, by decide⟩⟩, fun h => absurd (by decide) h⟩
      · rw [if_pos h]
      · rfl
    | 1, _, h1, h2, hf =>
      have hx : [a, b][1]? = some b := rfl
      have hx := rowAt_map (f := Val.toD) hx
      have h1 := h1 (by omega)
      simp only [head_vcmp_0, Tree.holds, Out.den, E.den, E.denL, envOf_zero, envOf_succ, den_add, den_sub, den_mul, den_quo, den_rem, den_ieql, den_ineq, den_lss, den_leq, den_gtr, den_geq, den_seql, den_sneq, den_slss, den_beql, den_bneq, den_not, den_neg, den_conv, den_slen, den_sat, den_ssub, den_scat, den_len, den_at, den_cell, den_row, den_lst, den_cat, den_ite, den_and, den_mhas, den_mget, den_mset, ofBool_bD, bD_true, rows_lst, cells_row, int_v, bool_v, str_v, rows_strs, at_0, at_1, at_2, at_3, at_4, at_5, at_6, at_7, at_8, toD_put, strD_at, ltI_t, leI_t, eqI_t, eqS_t, ltI_f, leI_f, eqI_f, eqS_f, Bool.not_eq_true', Bool.not_eq_false', List.getD_cons_zero, List.getD_cons_succ, true_and, and_true, List.length_map, phi_1000, hx, phi_check, phi_order, phi_vcmp, ob]
      unfold vcmpV
      refine ⟨fun _ => ⟨by omega, by show (1 : Int) < ((2 : Nat) : Int); omega, fun h => ?_, fun h => ⟨⟨a, b, 2, rfl, by omega, ho, fun _ => h1, fun _ => h, ?_⟩, by decide⟩⟩, fun h => absurd (by decide) h⟩
      · rw [if_neg (by simp [h1]), if_pos h]
      · rfl
    | 2, _, h1, h2, hf =>
      have h1 := h1 (by omega)
      have h2 := h2 (by omega)
      simp only [head_vcmp_0, Tree.holds, Out.den, E.den, E.denL, envOf_zero, envOf_succ, den_add, den_sub, den_mul, den_quo, den_rem, den_ieql, den_ineq, den_lss, den_leq, den_gtr, den_geq, den_seql, den_sneq, den_slss, den_beql, den_bneq, den_not, den_neg, den_conv, den_slen, den_sat, den_ssub, den_scat, den_len, den_at, den_cell, den_row, den_lst, den_cat, den_ite, den_and, den_mhas, den_mget, den_mset, ofBool_bD, bD_true, rows_lst, cells_row, int_v, bool_v, str_v, rows_strs, at_0, at_1, at_2, at_3, at_4, at_5, at_6, at_7, at_8, toD_put, strD_at, ltI_t, leI_t, eqI_t, eqS_t, ltI_f, leI_f, eqI_f, eqS_f, Bool.not_eq_true', Bool.not_eq_false', List.getD_cons_zero, List.getD_cons_succ, true_and, and_true, List.length_map, phi_1000, phi_check, phi_order, phi_vcmp, pre_order, ho, check_good h1, check_good h2]
      unfold vcmpV
      refine ⟨fun h => absurd h (by decide), fun _ => ?_⟩
      rw [if_neg (by simp [h1]), if_neg (by simp [h2])]
/-! ### ValueLists -/
theorem cmpS_self (a : ByteArray) : cmpS a a = 0 := by
  unfold cmpS
  generalize a.data.toList = l
  induction l with
  | nil => rfl
  | cons x r ih =>
    rw [Lib.compareBytes, if_neg (by simp), if_neg (by simp)]
    exact ih
theorem numcmp_self {a : Bool} {d : ByteArray} {e : Int} (h : numV a d e = 0) : (numcmpV a d e a d e).1 = 0 := by
  unfold numcmpV
  rw [if_neg (by simp [h]), if_neg (by simp [h]), if_pos ⟨rfl, rfl, rfl⟩]
theorem rowsG_self {α : Type} {c : α → α → Int} : ∀ (l : List α), (∀ x, x ∈ l → c x x = 0) → rowsG c l l = 0
  | [], _ => rfl
  | x :: r, h => by rw [rowsG, if_pos (h x (List.mem_cons_self ..)), rowsG_self r fun y hy => h y (List.mem_cons_of_mem _ hy)]
/-- A good value stands where it stands. -/
theorem order_self : ∀ v, good v = true → orderV v v = 0 := by
  apply val_ind
  intro v ih hv
  have hl : ∀ x, x ∈ v.list → orderV x x = 0 := fun x hx => ih x hx (good_mem hv hx)
  have hp : ∀ p, p ∈ v.names.zip v.list → pairC orderV p p = 0 := fun p hp => by unfold pairC; rw [if_pos (cmpS_self _), hl _ (zip_mem hp).2]
  have hn : v.kind = 3 → (numcmpV v.neg v.dig v.exp v.neg v.dig v.exp).1 = 0 := fun h => numcmp_self ((formed_parts (good_iff.1 hv).1).2.2 h)
  rw [orderV_eq, rowsG_self _ hl, rowsG_self _ hp, cmpS_self, if_neg (by omega), if_neg (by omega)]
  unfold cmpZ
  grind
theorem order_list (a b : List Val) : orderV (listV a) (listV b) = rowsG orderV a b := by
  rw [orderV_eq]
  unfold listV
  simp [Val.kind, Val.list]
theorem two_put (a b : Val) : D.row [iD 7, bD false, bD false, sD .empty, iD 0, uD 0, sD .empty, .lst [], .lst [a.toD, b.toD]] = (listV [a, b]).toD := list_put [a, b]
theorem sz_list2 (a b : Val) : (listV [a, b]).toD.sz = a.toD.sz + b.toD.sz + 10 := by
  rw [sz_toD]
  have e1 : (strsD (listV [a, b]).names).sz = 1 := by rw [sz_strs]; rfl
  have e2 : (valsD (listV [a, b]).list).sz = a.toD.sz + b.toD.sz + 1 := by show (D.lst [a.toD, b.toD]).sz = _; rw [sz_lst]; simp only [D.szL, Nat.add_zero]
  rw [e1, e2]; omega
theorem lim_list2 {a b : Val} (h : a.toD.Lim) (h' : b.toD.Lim) : (listV [a, b]).toD.Lim := by
  rw [lim_toD]
  refine ⟨Nat.zero_le _, Nat.zero_le _, lim_strs.2 ⟨Nat.zero_le _, fun x hx => by cases hx⟩, lim_vals.2 ⟨?_, fun x hx => ?_⟩⟩
  · show 2 ≤ lim; decide
  · have : x = a ∨ x = b := by simpa [listV, Val.list] using hx
    rcases this with rfl | rfl
    · exact h
    · exact h'
theorem eqV_self (a : Val) : eqV a a = true := @decide_eq_true _ (Classical.propDecidable _) rfl
theorem eqV_list (a b : Val) : eqV (listV [a]) (listV [b]) = eqV a b := by
  unfold eqV
  have : (listV [a] = listV [b]) ↔ a = b := by simp [listV]
  rw [Bool.eq_iff_iff, @decide_eq_true_iff _ (Classical.propDecidable _), @decide_eq_true_iff _ (Classical.propDecidable _)]
  exact this
theorem vcmp_snd (a b : Val) : (vcmpV a b).2 = 0 ↔ checkV a = 0 ∧ checkV b = 0 := by
  unfold vcmpV
  by_cases h1 : checkV a = 0
  · by_cases h2 : checkV b = 0
    · simp [h1, h2]
    · simp [h1, h2]
  · simp [h1]
theorem vcmp_fst {a b : Val} (h1 : checkV a = 0) (h2 : checkV b = 0) : (vcmpV a b).1 = orderV a b := by
  unfold vcmpV
  rw [if_neg (by simp [h1]), if_neg (by simp [h2])]
/-- calamus/calamuslaw04.ValueLists: func 9, params [41, 41], ntmps 104. -/
def heads_lists : List Hd := []
def entry_lists : Tree :=
  (.giv (.app 1000 [(.pr .row [(.pr (.cell 0) [(.var 0)]), (.pr (.cell 1) [(.var 0)]), (.pr (.cell 2) [(.var 0)]), (.pr (.cell 3) [(.var 0)]), (.pr (.cell 4) [(.var 0)]), (.pr (.cell 5) [(.var 0)]), (.pr (.cell 6) [(.var 0)]), (.pr (.cell 7) [(.var 0)]), (.pr (.cell 8) [(.var 0)])]), (.lit (.int .i64 0)), (.lit (.int .i64 65536)), (.lit (.int .i64 0))])
    (.ite (.pr (.icmp .gtr) [(.app 11 [(.pr .row [(.pr (.cell 0) [(.var 0)]), (.pr (.cell 1) [(.var 0)]), (.pr (.cell 2) [(.var 0)]), (.pr (.cell 3) [(.var 0)]), (.pr (.cell 4) [(.var 0)]), (.pr (.cell 5) [(.var 0)]), (.pr (.cell 6) [(.var 0)]), (.pr (.cell 7) [(.var 0)]), (.pr (.cell 8) [(.var 0)])]), (.lit (.int .i64 0)), (.lit (.int .i64 65536)), (.lit (.int .i64 0))]), (.lit (.int .i64 65536))])
      (.leaf (.ret (.lit (.bool true))))
      (.giv (.app 1000 [(.pr .row [(.pr (.cell 0) [(.var 0)]), (.pr (.cell 1) [(.var 0)]), (.pr (.cell 2) [(.var 0)]), (.pr (.cell 3) [(.var 0)]), (.pr (.cell 4) [(.var 0)]), (.pr (.cell 5) [(.var 0)]), (.pr (.cell 6) [(.var 0)]), (.pr (.cell 7) [(.var 0)]), (.pr (.cell 8) [(.var 0)])])])
        (.ite (.app 12 [(.pr .row [(.pr (.cell 0) [(.var 0)]), (.pr (.cell 1) [(.var 0)]), (.pr (.cell 2) [(.var 0)]), (.pr (.cell 3) [(.var 0)]), (.pr (.cell 4) [(.var 0)]), (.pr (.cell 5) [(.var 0)]), (.pr (.cell 6) [(.var 0)]), (.pr (.cell 7) [(.var 0)]), (.pr (.cell 8) [(.var 0)])])])
          (.leaf (.ret (.lit (.bool true))))
          (.giv (.app 1000 [(.pr .row [(.pr (.cell 0) [(.var 1)]), (.pr (.cell 1) [(.var 1)]), (.pr (.cell 2) [(.var 1)]), (.pr (.cell 3) [(.var 1)]), (.pr (.cell 4) [(.var 1)]), (.pr (.cell 5) [(.var 1)]), (.pr (.cell 6) [(.var 1)]), (.pr (.cell 7) [(.var 1)]), (.pr (.cell 8) [(.var 1)])]), (.lit (.int .i64 0)), (.lit (.int .i64 65536)), (.lit (.int .i64 0))])
            (.ite (.pr (.icmp .gtr) [(.app 11 [(.pr .row [(.pr (.cell 0) [(.var 1)]), (.pr (.cell 1) [(.var 1)]), (.pr (.cell 2) [(.var 1)]), (.pr (.cell 3) [(.var 1)]), (.pr (.cell 4) [(.var 1)]), (.pr (.cell 5) [(.var 1)]), (.pr (.cell 6) [(.var 1)]), (.pr (.cell 7) [(.var 1)]), (.pr (.cell 8) [(.var 1)])]), (.lit (.int .i64 0)), (.lit (.int .i64 65536)), (.lit (.int .i64 0))]), (.lit (.int .i64 65536))])
              (.leaf (.ret (.lit (.bool true))))
              (.giv (.app 1000 [(.pr .row [(.pr (.cell 0) [(.var 1)]), (.pr (.cell 1) [(.var 1)]), (.pr (.cell 2) [(.var 1)]), (.pr (.cell 3) [(.var 1)]), (.pr (.cell 4) [(.var 1)]), (.pr (.cell 5) [(.var 1)]), (.pr (.cell 6) [(.var 1)]), (.pr (.cell 7) [(.var 1)]), (.pr (.cell 8) [(.var 1)])])])
                (.ite (.app 12 [(.pr .row [(.pr (.cell 0) [(.var 1)]), (.pr (.cell 1) [(.var 1)]), (.pr (.cell 2) [(.var 1)]), (.pr (.cell 3) [(.var 1)]), (.pr (.cell 4) [(.var 1)]), (.pr (.cell 5) [(.var 1)]), (.pr (.cell 6) [(.var 1)]), (.pr (.cell 7) [(.var 1)]), (.pr (.cell 8) [(.var 1)])])])
                  (.leaf (.ret (.lit (.bool true))))
                  (.giv (.app 1000 [(.pr .row [(.lit (.int .i64 7)), (.lit (.bool false)), (.lit (.bool false)), (.lit (.string .empty)), (.lit (.int .i64 0)), (.lit (.int .u64 0)), (.lit (.string .empty)), (.pr .lst []), (.pr .lst [(.pr .row [(.pr (.cell 0) [(.var 0)]), (.pr (.cell 1) [(.var 0)]), (.pr (.cell 2) [(.var 0)]), (.pr (.cell 3) [(.var 0)]), (.pr (.cell 4) [(.var 0)]), (.pr (.cell 5) [(.var 0)]), (.pr (.cell 6) [(.var 0)]), (.pr (.cell 7) [(.var 0)]), (.pr (.cell 8) [(.var 0)])])])]), (.pr .row [(.lit (.int .i64 7)), (.lit (.bool false)), (.lit (.bool false)), (.lit (.string .empty)), (.lit (.int .i64 0)), (.lit (.int .u64 0)), (.lit (.string .empty)), (.pr .lst []), (.pr .lst [(.pr .row [(.pr (.cell 0) [(.var 1)]), (.pr (.cell 1) [(.var 1)]), (.pr (.cell 2) [(.var 1)]), (.pr (.cell 3) [(.var 1)]), (.pr (.cell 4) [(.var 1)]), (.pr (.cell 5) [(.var 1)]), (.pr (.cell 6) [(.var 1)]), (.pr (.cell 7) [(.var 1)]), (.pr (.cell 8) [(.var 1)])])])])])
                    (.giv (.app 1000 [(.pr .row [(.pr (.cell 0) [(.var 0)]), (.pr (.cell 1) [(.var 0)]), (.pr (.cell 2) [(.var 0)]), (.pr (.cell 3) [(.var 0)]), (.pr (.cell 4) [(.var 0)]), (.pr (.cell 5) [(.var 0)]), (.pr (.cell 6) [(.var 0)]), (.pr (.cell 7) [(.var 0)]), (.pr (.cell 8) [(.var 0)])]), (.pr .row [(.pr (.cell 0) [(.var 1)]), (.pr (.cell 1) [(.var 1)]), (.pr (.cell 2) [(.var 1)]), (.pr (.cell 3) [(.var 1)]), (.pr (.cell 4) [(.var 1)]), (.pr (.cell 5) [(.var 1)]), (.pr (.cell 6) [(.var 1)]), (.pr (.cell 7) [(.var 1)]), (.pr (.cell 8) [(.var 1)])])])
                      (.giv (.app 1000 [(.pr .row [(.lit (.int .i64 7)), (.lit (.bool false)), (.lit (.bool false)), (.lit (.string .empty)), (.lit (.int .i64 0)), (.lit (.int .u64 0)), (.lit (.string .empty)), (.pr .lst []), (.pr .lst [(.pr .row [(.pr (.cell 0) [(.var 0)]), (.pr (.cell 1) [(.var 0)]), (.pr (.cell 2) [(.var 0)]), (.pr (.cell 3) [(.var 0)]), (.pr (.cell 4) [(.var 0)]), (.pr (.cell 5) [(.var 0)]), (.pr (.cell 6) [(.var 0)]), (.pr (.cell 7) [(.var 0)]), (.pr (.cell 8) [(.var 0)])])])]), (.pr .row [(.lit (.int .i64 7)), (.lit (.bool false)), (.lit (.bool false)), (.lit (.string .empty)), (.lit (.int .i64 0)), (.lit (.int .u64 0)), (.lit (.string .empty)), (.pr .lst []), (.pr .lst [(.pr .row [(.pr (.cell 0) [(.var 0)]), (.pr (.cell 1) [(.var 0)]), (.pr (.cell 2) [(.var 0)]), (.pr (.cell 3) [(.var 0)]), (.pr (.cell 4) [(.var 0)]), (.pr (.cell 5) [(.var 0)]), (.pr (.cell 6) [(.var 0)]), (.pr (.cell 7) [(.var 0)]), (.pr (.cell 8) [(.var 0)])]), (.pr .row [(.pr (.cell 0) [(.var 1)]), (.pr (.cell 1) [(.var 1)]), (.pr (.cell 2) [(.var 1)]), (.pr (.cell 3) [(.var 1)]), (.pr (.cell 4) [(.var 1)]), (.pr (.cell 5) [(.var 1)]), (.pr (.cell 6) [(.var 1)]), (.pr (.cell 7) [(.var 1)]), (.pr (.cell 8) [(.var 1)])])])])])
                        (.ite (.pr (.icmp .neq) [(.pr (.cell 1) [(.app 27 [(.pr .row [(.lit (.int .i64 7)), (.lit (.bool false)), (.lit (.bool false)), (.lit (.string .empty)), (.lit (.int .i64 0)), (.lit (.int .u64 0)), (.lit (.string .empty)), (.pr .lst []), (.pr .lst [(.pr .row [(.pr (.cell 0) [(.var 0)]), (.pr (.cell 1) [(.var 0)]), (.pr (.cell 2) [(.var 0)]), (.pr (.cell 3) [(.var 0)]), (.pr (.cell 4) [(.var 0)]), (.pr (.cell 5) [(.var 0)]), (.pr (.cell 6) [(.var 0)]), (.pr (.cell 7) [(.var 0)]), (.pr (.cell 8) [(.var 0)])])])]), (.pr .row [(.lit (.int .i64 7)), (.lit (.bool false)), (.lit (.bool false)), (.lit (.string .empty)), (.lit (.int .i64 0)), (.lit (.int .u64 0)), (.lit (.string .empty)), (.pr .lst []), (.pr .lst [(.pr .row [(.pr (.cell 0) [(.var 1)]), (.pr (.cell 1) [(.var 1)]), (.pr (.cell 2) [(.var 1)]), (.pr (.cell 3) [(.var 1)]), (.pr (.cell 4) [(.var 1)]), (.pr (.cell 5) [(.var 1)]), (.pr (.cell 6) [(.var 1)]), (.pr (.cell 7) [(.var 1)]), (.pr (.cell 8) [(.var 1)])])])])])]), (.lit (.int .i64 0))])
                          (.giv (.app 1000 [])
                            (.ite (.app 14 [])
                              (.ite (.pr (.icmp .neq) [(.pr (.cell 1) [(.app 27 [(.pr .row [(.pr (.cell 0) [(.var 0)]), (.pr (.cell 1) [(.var 0)]), (.pr (.cell 2) [(.var 0)]), (.pr (.cell 3) [(.var 0)]), (.pr (.cell 4) [(.var 0)]), (.pr (.cell 5) [(.var 0)]), (.pr (.cell 6) [(.var 0)]), (.pr (.cell 7) [(.var 0)]), (.pr (.cell 8) [(.var 0)])]), (.pr .row [(.pr (.cell 0) [(.var 1)]), (.pr (.cell 1) [(.var 1)]), (.pr (.cell 2) [(.var 1)]), (.pr (.cell 3) [(.var 1)]), (.pr (.cell 4) [(.var 1)]), (.pr (.cell 5) [(.var 1)]), (.pr (.cell 6) [(.var 1)]), (.pr (.cell 7) [(.var 1)]), (.pr (.cell 8) [(.var 1)])])])]), (.lit (.int .i64 0))])
                                (.leaf (.ret (.lit (.bool true))))
                                (.giv (.app 1000 [(.pr .row [(.lit (.int .i64 7)), (.lit (.bool false)), (.lit (.bool false)), (.lit (.string .empty)), (.lit (.int .i64 0)), (.lit (.int .u64 0)), (.lit (.string .empty)), (.pr .lst []), (.pr .lst [(.pr .row [(.pr (.cell 0) [(.var 0)]), (.pr (.cell 1) [(.var 0)]), (.pr (.cell 2) [(.var 0)]), (.pr (.cell 3) [(.var 0)]), (.pr (.cell 4) [(.var 0)]), (.pr (.cell 5) [(.var 0)]), (.pr (.cell 6) [(.var 0)]), (.pr (.cell 7) [(.var 0)]), (.pr (.cell 8) [(.var 0)])])])])])
                                  (.ite (.pr (.icmp .neq) [(.app 13 [(.pr .row [(.lit (.int .i64 7)), (.lit (.bool false)), (.lit (.bool false)), (.lit (.string .empty)), (.lit (.int .i64 0)), (.lit (.int .u64 0)), (.lit (.string .empty)), (.pr .lst []), (.pr .lst [(.pr .row [(.pr (.cell 0) [(.var 0)]), (.pr (.cell 1) [(.var 0)]), (.pr (.cell 2) [(.var 0)]), (.pr (.cell 3) [(.var 0)]), (.pr (.cell 4) [(.var 0)]), (.pr (.cell 5) [(.var 0)]), (.pr (.cell 6) [(.var 0)]), (.pr (.cell 7) [(.var 0)]), (.pr (.cell 8) [(.var 0)])])])])]), (.lit (.int .i64 0))])
                                    (.leaf (.ret (.lit (.bool true))))
                                    (.giv (.app 1000 [(.pr .row [(.lit (.int .i64 7)), (.lit (.bool false)), (.lit (.bool false)), (.lit (.string .empty)), (.lit (.int .i64 0)), (.lit (.int .u64 0)), (.lit (.string .empty)), (.pr .lst []), (.pr .lst [(.pr .row [(.pr (.cell 0) [(.var 1)]), (.pr (.cell 1) [(.var 1)]), (.pr (.cell 2) [(.var 1)]), (.pr (.cell 3) [(.var 1)]), (.pr (.cell 4) [(.var 1)]), (.pr (.cell 5) [(.var 1)]), (.pr (.cell 6) [(.var 1)]), (.pr (.cell 7) [(.var 1)]), (.pr (.cell 8) [(.var 1)])])])])])
                                      (.ite (.pr (.icmp .neq) [(.app 13 [(.pr .row [(.lit (.int .i64 7)), (.lit (.bool false)), (.lit (.bool false)), (.lit (.string .empty)), (.lit (.int .i64 0)), (.lit (.int .u64 0)), (.lit (.string .empty)), (.pr .lst []), (.pr .lst [(.pr .row [(.pr (.cell 0) [(.var 1)]), (.pr (.cell 1) [(.var 1)]), (.pr (.cell 2) [(.var 1)]), (.pr (.cell 3) [(.var 1)]), (.pr (.cell 4) [(.var 1)]), (.pr (.cell 5) [(.var 1)]), (.pr (.cell 6) [(.var 1)]), (.pr (.cell 7) [(.var 1)]), (.pr (.cell 8) [(.var 1)])])])])]), (.lit (.int .i64 0))])
                                        (.leaf (.ret (.lit (.bool true))))
                                        (.giv (.app 1000 [(.pr .row [(.lit (.int .i64 7)), (.lit (.bool false)), (.lit (.bool false)), (.lit (.string .empty)), (.lit (.int .i64 0)), (.lit (.int .u64 0)), (.lit (.string .empty)), (.pr .lst []), (.pr .lst [(.pr .row [(.pr (.cell 0) [(.var 0)]), (.pr (.cell 1) [(.var 0)]), (.pr (.cell 2) [(.var 0)]), (.pr (.cell 3) [(.var 0)]), (.pr (.cell 4) [(.var 0)]), (.pr (.cell 5) [(.var 0)]), (.pr (.cell 6) [(.var 0)]), (.pr (.cell 7) [(.var 0)]), (.pr (.cell 8) [(.var 0)])]), (.pr .row [(.pr (.cell 0) [(.var 1)]), (.pr (.cell 1) [(.var 1)]), (.pr (.cell 2) [(.var 1)]), (.pr (.cell 3) [(.var 1)]), (.pr (.cell 4) [(.var 1)]), (.pr (.cell 5) [(.var 1)]), (.pr (.cell 6) [(.var 1)]), (.pr (.cell 7) [(.var 1)]), (.pr (.cell 8) [(.var 1)])])])])])
                                          (.leaf (.ret (.pr (.icmp .neq) [(.app 13 [(.pr .row [(.lit (.int .i64 7)), (.lit (.bool false)), (.lit (.bool false)), (.lit (.string .empty)), (.lit (.int .i64 0)), (.lit (.int .u64 0)), (.lit (.string .empty)), (.pr .lst []), (.pr .lst [(.pr .row [(.pr (.cell 0) [(.var 0)]), (.pr (.cell 1) [(.var 0)]), (.pr (.cell 2) [(.var 0)]), (.pr (.cell 3) [(.var 0)]), (.pr (.cell 4) [(.var 0)]), (.pr (.cell 5) [(.var 0)]), (.pr (.cell 6) [(.var 0)]), (.pr (.cell 7) [(.var 0)]), (.pr (.cell 8) [(.var 0)])]), (.pr .row [(.pr (.cell 0) [(.var 1)]), (.pr (.cell 1) [(.var 1)]), (.pr (.cell 2) [(.var 1)]), (.pr (.cell 3) [(.var 1)]), (.pr (.cell 4) [(.var 1)]), (.pr (.cell 5) [(.var 1)]), (.pr (.cell 6) [(.var 1)]), (.pr (.cell 7) [(.var 1)]), (.pr (.cell 8) [(.var 1)])])])])]), (.lit (.int .i64 0))])))))))))
                              (.leaf (.ret (.lit (.bool false))))))
                          (.ite (.pr (.icmp .neq) [(.pr (.cell 1) [(.app 27 [(.pr .row [(.pr (.cell 0) [(.var 0)]), (.pr (.cell 1) [(.var 0)]), (.pr (.cell 2) [(.var 0)]), (.pr (.cell 3) [(.var 0)]), (.pr (.cell 4) [(.var 0)]), (.pr (.cell 5) [(.var 0)]), (.pr (.cell 6) [(.var 0)]), (.pr (.cell 7) [(.var 0)]), (.pr (.cell 8) [(.var 0)])]), (.pr .row [(.pr (.cell 0) [(.var 1)]), (.pr (.cell 1) [(.var 1)]), (.pr (.cell 2) [(.var 1)]), (.pr (.cell 3) [(.var 1)]), (.pr (.cell 4) [(.var 1)]), (.pr (.cell 5) [(.var 1)]), (.pr (.cell 6) [(.var 1)]), (.pr (.cell 7) [(.var 1)]), (.pr (.cell 8) [(.var 1)])])])]), (.lit (.int .i64 0))])
                            (.giv (.app 1000 [])
                              (.ite (.app 14 [])
                                (.leaf (.ret (.lit (.bool true))))
                                (.leaf (.ret (.lit (.bool false))))))
                            (.ite (.pr (.icmp .neq) [(.pr (.cell 1) [(.app 27 [(.pr .row [(.lit (.int .i64 7)), (.lit (.bool false)), (.lit (.bool false)), (.lit (.string .empty)), (.lit (.int .i64 0)), (.lit (.int .u64 0)), (.lit (.string .empty)), (.pr .lst []), (.pr .lst [(.pr .row [(.pr (.cell 0) [(.var 0)]), (.pr (.cell 1) [(.var 0)]), (.pr (.cell 2) [(.var 0)]), (.pr (.cell 3) [(.var 0)]), (.pr (.cell 4) [(.var 0)]), (.pr (.cell 5) [(.var 0)]), (.pr (.cell 6) [(.var 0)]), (.pr (.cell 7) [(.var 0)]), (.pr (.cell 8) [(.var 0)])])])]), (.pr .row [(.lit (.int .i64 7)), (.lit (.bool false)), (.lit (.bool false)), (.lit (.string .empty)), (.lit (.int .i64 0)), (.lit (.int .u64 0)), (.lit (.string .empty)), (.pr .lst []), (.pr .lst [(.pr .row [(.pr (.cell 0) [(.var 0)]), (.pr (.cell 1) [(.var 0)]), (.pr (.cell 2) [(.var 0)]), (.pr (.cell 3) [(.var 0)]), (.pr (.cell 4) [(.var 0)]), (.pr (.cell 5) [(.var 0)]), (.pr (.cell 6) [(.var 0)]), (.pr (.cell 7) [(.var 0)]), (.pr (.cell 8) [(.var 0)])]), (.pr .row [(.pr (.cell 0) [(.var 1)]), (.pr (.cell 1) [(.var 1)]), (.pr (.cell 2) [(.var 1)]), (.pr (.cell 3) [(.var 1)]), (.pr (.cell 4) [(.var 1)]), (.pr (.cell 5) [(.var 1)]), (.pr (.cell 6) [(.var 1)]), (.pr (.cell 7) [(.var 1)]), (.pr (.cell 8) [(.var 1)])])])])])]), (.lit (.int .i64 0))])
                              (.giv (.app 1000 [])
                                (.ite (.app 14 [])
                                  (.giv (.app 1000 [(.pr .row [(.lit (.int .i64 7)), (.lit (.bool false)), (.lit (.bool false)), (.lit (.string .empty)), (.lit (.int .i64 0)), (.lit (.int .u64 0)), (.lit (.string .empty)), (.pr .lst []), (.pr .lst [(.pr .row [(.pr (.cell 0) [(.var 0)]), (.pr (.cell 1) [(.var 0)]), (.pr (.cell 2) [(.var 0)]), (.pr (.cell 3) [(.var 0)]), (.pr (.cell 4) [(.var 0)]), (.pr (.cell 5) [(.var 0)]), (.pr (.cell 6) [(.var 0)]), (.pr (.cell 7) [(.var 0)]), (.pr (.cell 8) [(.var 0)])])])])])
                                    (.ite (.pr (.icmp .neq) [(.app 13 [(.pr .row [(.lit (.int .i64 7)), (.lit (.bool false)), (.lit (.bool false)), (.lit (.string .empty)), (.lit (.int .i64 0)), (.lit (.int .u64 0)), (.lit (.string .empty)), (.pr .lst []), (.pr .lst [(.pr .row [(.pr (.cell 0) [(.var 0)]), (.pr (.cell 1) [(.var 0)]), (.pr (.cell 2) [(.var 0)]), (.pr (.cell 3) [(.var 0)]), (.pr (.cell 4) [(.var 0)]), (.pr (.cell 5) [(.var 0)]), (.pr (.cell 6) [(.var 0)]), (.pr (.cell 7) [(.var 0)]), (.pr (.cell 8) [(.var 0)])])])])]), (.lit (.int .i64 0))])
                                      (.leaf (.ret (.lit (.bool true))))
                                      (.giv (.app 1000 [(.pr .row [(.lit (.int .i64 7)), (.lit (.bool false)), (.lit (.bool false)), (.lit (.string .empty)), (.lit (.int .i64 0)), (.lit (.int .u64 0)), (.lit (.string .empty)), (.pr .lst []), (.pr .lst [(.pr .row [(.pr (.cell 0) [(.var 1)]), (.pr (.cell 1) [(.var 1)]), (.pr (.cell 2) [(.var 1)]), (.pr (.cell 3) [(.var 1)]), (.pr (.cell 4) [(.var 1)]), (.pr (.cell 5) [(.var 1)]), (.pr (.cell 6) [(.var 1)]), (.pr (.cell 7) [(.var 1)]), (.pr (.cell 8) [(.var 1)])])])])])
                                        (.ite (.pr (.icmp .neq) [(.app 13 [(.pr .row [(.lit (.int .i64 7)), (.lit (.bool false)), (.lit (.bool false)), (.lit (.string .empty)), (.lit (.int .i64 0)), (.lit (.int .u64 0)), (.lit (.string .empty)), (.pr .lst []), (.pr .lst [(.pr .row [(.pr (.cell 0) [(.var 1)]), (.pr (.cell 1) [(.var 1)]), (.pr (.cell 2) [(.var 1)]), (.pr (.cell 3) [(.var 1)]), (.pr (.cell 4) [(.var 1)]), (.pr (.cell 5) [(.var 1)]), (.pr (.cell 6) [(.var 1)]), (.pr (.cell 7) [(.var 1)]), (.pr (.cell 8) [(.var 1)])])])])]), (.lit (.int .i64 0))])
                                          (.leaf (.ret (.lit (.bool true))))
                                          (.giv (.app 1000 [(.pr .row [(.lit (.int .i64 7)), (.lit (.bool false)), (.lit (.bool false)), (.lit (.string .empty)), (.lit (.int .i64 0)), (.lit (.int .u64 0)), (.lit (.string .empty)), (.pr .lst []), (.pr .lst [(.pr .row [(.pr (.cell 0) [(.var 0)]), (.pr (.cell 1) [(.var 0)]), (.pr (.cell 2) [(.var 0)]), (.pr (.cell 3) [(.var 0)]), (.pr (.cell 4) [(.var 0)]), (.pr (.cell 5) [(.var 0)]), (.pr (.cell 6) [(.var 0)]), (.pr (.cell 7) [(.var 0)]), (.pr (.cell 8) [(.var 0)])]), (.pr .row [(.pr (.cell 0) [(.var 1)]), (.pr (.cell 1) [(.var 1)]), (.pr (.cell 2) [(.var 1)]), (.pr (.cell 3) [(.var 1)]), (.pr (.cell 4) [(.var 1)]), (.pr (.cell 5) [(.var 1)]), (.pr (.cell 6) [(.var 1)]), (.pr (.cell 7) [(.var 1)]), (.pr (.cell 8) [(.var 1)])])])])])
                                            (.leaf (.ret (.pr (.icmp .neq) [(.app 13 [(.pr .row [(.lit (.int .i64 7)), (.lit (.bool false)), (.lit (.bool false)), (.lit (.string .empty)), (.lit (.int .i64 0)), (.lit (.int .u64 0)), (.lit (.string .empty)), (.pr .lst []), (.pr .lst [(.pr .row [(.pr (.cell 0) [(.var 0)]), (.pr (.cell 1) [(.var 0)]), (.pr (.cell 2) [(.var 0)]), (.pr (.cell 3) [(.var 0)]), (.pr (.cell 4) [(.var 0)]), (.pr (.cell 5) [(.var 0)]), (.pr (.cell 6) [(.var 0)]), (.pr (.cell 7) [(.var 0)]), (.pr (.cell 8) [(.var 0)])]), (.pr .row [(.pr (.cell 0) [(.var 1)]), (.pr (.cell 1) [(.var 1)]), (.pr (.cell 2) [(.var 1)]), (.pr (.cell 3) [(.var 1)]), (.pr (.cell 4) [(.var 1)]), (.pr (.cell 5) [(.var 1)]), (.pr (.cell 6) [(.var 1)]), (.pr (.cell 7) [(.var 1)]), (.pr (.cell 8) [(.var 1)])])])])]), (.lit (.int .i64 0))]))))))))
                                  (.leaf (.ret (.lit (.bool false))))))
                              (.giv (.app 1000 [])
                                (.ite (.app 14 [])
                                  (.ite (.pr (.icmp .eql) [(.pr (.cell 0) [(.app 27 [(.pr .row [(.lit (.int .i64 7)), (.lit (.bool false)), (.lit (.bool false)), (.lit (.string .empty)), (.lit (.int .i64 0)), (.lit (.int .u64 0)), (.lit (.string .empty)), (.pr .lst []), (.pr .lst [(.pr .row [(.pr (.cell 0) [(.var 0)]), (.pr (.cell 1) [(.var 0)]), (.pr (.cell 2) [(.var 0)]), (.pr (.cell 3) [(.var 0)]), (.pr (.cell 4) [(.var 0)]), (.pr (.cell 5) [(.var 0)]), (.pr (.cell 6) [(.var 0)]), (.pr (.cell 7) [(.var 0)]), (.pr (.cell 8) [(.var 0)])])])]), (.pr .row [(.lit (.int .i64 7)), (.lit (.bool false)), (.lit (.bool false)), (.lit (.string .empty)), (.lit (.int .i64 0)), (.lit (.int .u64 0)), (.lit (.string .empty)), (.pr .lst []), (.pr .lst [(.pr .row [(.pr (.cell 0) [(.var 1)]), (.pr (.cell 1) [(.var 1)]), (.pr (.cell 2) [(.var 1)]), (.pr (.cell 3) [(.var 1)]), (.pr (.cell 4) [(.var 1)]), (.pr (.cell 5) [(.var 1)]), (.pr (.cell 6) [(.var 1)]), (.pr (.cell 7) [(.var 1)]), (.pr (.cell 8) [(.var 1)])])])])])]), (.pr (.cell 0) [(.app 27 [(.pr .row [(.pr (.cell 0) [(.var 0)]), (.pr (.cell 1) [(.var 0)]), (.pr (.cell 2) [(.var 0)]), (.pr (.cell 3) [(.var 0)]), (.pr (.cell 4) [(.var 0)]), (.pr (.cell 5) [(.var 0)]), (.pr (.cell 6) [(.var 0)]), (.pr (.cell 7) [(.var 0)]), (.pr (.cell 8) [(.var 0)])]), (.pr .row [(.pr (.cell 0) [(.var 1)]), (.pr (.cell 1) [(.var 1)]), (.pr (.cell 2) [(.var 1)]), (.pr (.cell 3) [(.var 1)]), (.pr (.cell 4) [(.var 1)]), (.pr (.cell 5) [(.var 1)]), (.pr (.cell 6) [(.var 1)]), (.pr (.cell 7) [(.var 1)]), (.pr (.cell 8) [(.var 1)])])])])])
                                    (.ite (.pr (.icmp .eql) [(.pr (.cell 0) [(.app 27 [(.pr .row [(.lit (.int .i64 7)), (.lit (.bool false)), (.lit (.bool false)), (.lit (.string .empty)), (.lit (.int .i64 0)), (.lit (.int .u64 0)), (.lit (.string .empty)), (.pr .lst []), (.pr .lst [(.pr .row [(.pr (.cell 0) [(.var 0)]), (.pr (.cell 1) [(.var 0)]), (.pr (.cell 2) [(.var 0)]), (.pr (.cell 3) [(.var 0)]), (.pr (.cell 4) [(.var 0)]), (.pr (.cell 5) [(.var 0)]), (.pr (.cell 6) [(.var 0)]), (.pr (.cell 7) [(.var 0)]), (.pr (.cell 8) [(.var 0)])])])]), (.pr .row [(.lit (.int .i64 7)), (.lit (.bool false)), (.lit (.bool false)), (.lit (.string .empty)), (.lit (.int .i64 0)), (.lit (.int .u64 0)), (.lit (.string .empty)), (.pr .lst []), (.pr .lst [(.pr .row [(.pr (.cell 0) [(.var 0)]), (.pr (.cell 1) [(.var 0)]), (.pr (.cell 2) [(.var 0)]), (.pr (.cell 3) [(.var 0)]), (.pr (.cell 4) [(.var 0)]), (.pr (.cell 5) [(.var 0)]), (.pr (.cell 6) [(.var 0)]), (.pr (.cell 7) [(.var 0)]), (.pr (.cell 8) [(.var 0)])]), (.pr .row [(.pr (.cell 0) [(.var 1)]), (.pr (.cell 1) [(.var 1)]), (.pr (.cell 2) [(.var 1)]), (.pr (.cell 3) [(.var 1)]), (.pr (.cell 4) [(.var 1)]), (.pr (.cell 5) [(.var 1)]), (.pr (.cell 6) [(.var 1)]), (.pr (.cell 7) [(.var 1)]), (.pr (.cell 8) [(.var 1)])])])])])]), (.lit (.int .i64 (-1)))])
                                      (.leaf (.ret (.pr (.bcmp .eql) [(.app 17 [(.pr .row [(.lit (.int .i64 7)), (.lit (.bool false)), (.lit (.bool false)), (.lit (.string .empty)), (.lit (.int .i64 0)), (.lit (.int .u64 0)), (.lit (.string .empty)), (.pr .lst []), (.pr .lst [(.pr .row [(.pr (.cell 0) [(.var 0)]), (.pr (.cell 1) [(.var 0)]), (.pr (.cell 2) [(.var 0)]), (.pr (.cell 3) [(.var 0)]), (.pr (.cell 4) [(.var 0)]), (.pr (.cell 5) [(.var 0)]), (.pr (.cell 6) [(.var 0)]), (.pr (.cell 7) [(.var 0)]), (.pr (.cell 8) [(.var 0)])])])]), (.pr .row [(.lit (.int .i64 7)), (.lit (.bool false)), (.lit (.bool false)), (.lit (.string .empty)), (.lit (.int .i64 0)), (.lit (.int .u64 0)), (.lit (.string .empty)), (.pr .lst []), (.pr .lst [(.pr .row [(.pr (.cell 0) [(.var 1)]), (.pr (.cell 1) [(.var 1)]), (.pr (.cell 2) [(.var 1)]), (.pr (.cell 3) [(.var 1)]), (.pr (.cell 4) [(.var 1)]), (.pr (.cell 5) [(.var 1)]), (.pr (.cell 6) [(.var 1)]), (.pr (.cell 7) [(.var 1)]), (.pr (.cell 8) [(.var 1)])])])])]), (.app 17 [(.pr .row [(.pr (.cell 0) [(.var 0)]), (.pr (.cell 1) [(.var 0)]), (.pr (.cell 2) [(.var 0)]), (.pr (.cell 3) [(.var 0)]), (.pr (.cell 4) [(.var 0)]), (.pr (.cell 5) [(.var 0)]), (.pr (.cell 6) [(.var 0)]), (.pr (.cell 7) [(.var 0)]), (.pr (.cell 8) [(.var 0)])]), (.pr .row [(.pr (.cell 0) [(.var 1)]), (.pr (.cell 1) [(.var 1)]), (.pr (.cell 2) [(.var 1)]), (.pr (.cell 3) [(.var 1)]), (.pr (.cell 4) [(.var 1)]), (.pr (.cell 5) [(.var 1)]), (.pr (.cell 6) [(.var 1)]), (.pr (.cell 7) [(.var 1)]), (.pr (.cell 8) [(.var 1)])])])])))
                                      (.leaf (.ret (.lit (.bool false)))))
                                    (.leaf (.ret (.lit (.bool false)))))
                                  (.leaf (.ret (.lit (.bool false))))))))))))))))))))
def trees_lists : List Tree := []
noncomputable def deps_lists : List Sig := [q_many, q_parts, q_vcmp, q_check, q_equal, q_awake]
theorem ok_lists : check q_lists deps_lists heads_lists entry_lists trees_lists = true := by kernel_rfl
theorem lists_ok (n : Nat) : @Ok (I n) q_lists (fun ds => 4 * D.szL ds + 200 ≤ n ∧ D.LimL ds) := by
  letI := I n
  refine fn_ok (hphi n) ok_lists (by
    intro q hq
    simp only [deps_lists, List.mem_cons, List.not_mem_nil, or_false] at hq
    rcases hq with rfl | rfl | rfl | rfl | rfl | rfl
    · exact many_ok n
    · exact parts_ok n
    · exact vcmp_ok n
    · exact check_ok n
    · exact equal_ok n
    · exact awake_ok n _) (fun _ _ _ => False) (fun _ _ => 0) ?_ (fun j h t d ds hj => by simp [heads_lists] at hj)
  intro ds hf hp
  obtain ⟨a, b, rfl⟩ := two_val hf
  obtain ⟨hp1, hp2, hp3⟩ := hp
  simp only [D.szL, D.LimL, and_true] at hp1 hp2 hp3
  have oz : okD n [] := ⟨by simp only [D.szL]; omega, by simp only [D.LimL]⟩
  have oa : okD n [a.toD, iD 0, iD 65536, iD 0] := okD_val3.2 ⟨by omega, hp2⟩
  have ob : okD n [b.toD, iD 0, iD 65536, iD 0] := okD_val3.2 ⟨by omega, hp3⟩
  have oa1 : okD n [a.toD] := okD_one.2 ⟨by omega, hp2⟩
  have ob1 : okD n [b.toD] := okD_one.2 ⟨by omega, hp3⟩
  have oab : okD n [a.toD, b.toD] := okD_two.2 ⟨by omega, hp2, hp3⟩
  have la := lim_listV hp2
  have lb := lim_listV hp3
  have lab := lim_list2 hp2 hp3
  have ola : okD n [(listV [a]).toD] := okD_one.2 ⟨by rw [sz_listV]; omega, la⟩
  have olb : okD n [(listV [b]).toD] := okD_one.2 ⟨by rw [sz_listV]; omega, lb⟩
  have olab : okD n [(listV [a, b]).toD] := okD_one.2 ⟨by rw [sz_list2]; omega, lab⟩
  have o2 : okD n [(listV [a]).toD, (listV [b]).toD] := okD_two.2 ⟨by rw [sz_listV, sz_listV]; omega, la, lb⟩
  have o3 : okD n [(listV [a]).toD, (listV [a, b]).toD] := okD_two.2 ⟨by rw [sz_listV, sz_list2]; omega, la, lab⟩
  simp only [entry_lists, q_lists, Tree.holds, Out.den, E.den, E.denL, envOf_zero, envOf_succ, den_add, den_sub, den_mul, den_quo, den_rem, den_ieql, den_ineq, den_lss, den_leq, den_gtr, den_geq, den_seql, den_sneq, den_slss, den_beql, den_bneq, den_not, den_neg, den_conv, den_slen, den_sat, den_ssub, den_scat, den_len, den_at, den_cell, den_row, den_lst, den_cat, den_ite, den_and, den_mhas, den_mget, den_mset, ofBool_bD, bD_true, rows_lst, cells_row, int_v, bool_v, str_v, rows_strs, at_0, at_1, at_2, at_3, at_4, at_5, at_6, at_7, at_8, toD_put, strD_at, ltI_t, leI_t, eqI_t, eqS_t, ltI_f, leI_f, eqI_f, eqS_f, Bool.not_eq_true', Bool.not_eq_false', List.getD_cons_zero, List.getD_cons_succ, true_and, and_true, List.length_map, phi_1000, list_put1, two_put, phi_check, phi_equal, phi_parts, phi_many, phi_vcmp, phi_awake, phi_lists, oz, oa, ob, oa1, ob1, oab, ola, olb, olab, o2, o3, row_at0, row_at1]
  have v1 := vcmp_snd (listV [a]) (listV [b])
  have v2 := vcmp_snd a b
  have v3 := vcmp_snd (listV [a]) (listV [a, b])
  have w1 := @vcmp_fst (listV [a]) (listV [b])
  have w2 := @vcmp_fst a b
  have w3 := @vcmp_fst (listV [a]) (listV [a, b])
  have e1 : orderV (listV [a]) (listV [b]) = orderV a b := by
    rw [order_list, rowsG]
    split
    · rename_i h; rw [h]; rfl
    · rfl
  have e2 : checkV a = 0 → orderV (listV [a]) (listV [a, b]) = -1 := fun h => by
    rw [order_list, rowsG, if_pos (order_self a (check_good h))]; rfl
  rw [eqV_list]
  rw [e1] at w1
  clear hf hp1 hp2 hp3 oz oa ob oa1 ob1 oab la lb lab ola olb olab o2 o3
  generalize vcmpV (listV [a]) (listV [b]) = V1 at *
  generalize vcmpV (listV [a]) (listV [a, b]) = V3 at *
  generalize vcmpV a b = V2 at *
  generalize orderV (listV [a]) (listV [a, b]) = O3 at *
  generalize checkV (listV [a]) = c1 at *
  generalize checkV (listV [b]) = c2 at *
  generalize checkV (listV [a, b]) = c3 at *
  generalize checkV a = c4 at *
  generalize checkV b = c5 at *
  generalize orderV a b = O at *
  generalize eqV a b = E
  grind
end Go.Proofs.YtaeeblcdggjokaaDoor.Vk
