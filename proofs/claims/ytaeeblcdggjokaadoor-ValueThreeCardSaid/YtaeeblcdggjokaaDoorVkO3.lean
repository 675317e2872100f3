/- Contracts: value.order, value.Cmp. -/
import Derived.Test.YtaeeblcdggjokaaDoorVkO2
namespace Go.Proofs.YtaeeblcdggjokaaDoor.Vk
open Go Go.Ab Go.RowKit
set_option maxRecDepth 100000
set_option linter.unusedVariables false
set_option linter.unusedSimpArgs false
set_option linter.unusedSectionVars false
set_option linter.constructorNameAsVariable false
/-! ### Good values -/
theorem good_iff {v : Val} : good v = true ↔ formedV v = true ∧ shortV v = true := by unfold good; rw [Bool.and_eq_true]
theorem formedL_all : ∀ (l : List Val) (i : Nat), formedL l i < 0 → ∀ x, x ∈ l → formedV x = true
  | [], _, _, x, hx => by cases hx
  | v :: r, i, h, x, hx => by
    rw [formedL] at h
    cases hv : formedV v with
    | false => rw [hv] at h; simp only [Bool.false_eq_true, if_false] at h; omega
    | true =>
      rw [hv, if_pos rfl] at h
      rcases List.mem_cons.1 hx with rfl | hx
      · exact hv
      · exact formedL_all r (i + 1) h x hx
theorem shortL_all : ∀ (l : List Val) (i : Nat), ¬ shortL l i ≥ 0 → ∀ x, x ∈ l → shortV x = true
  | [], _, _, x, hx => by cases hx
  | v :: r, i, h, x, hx => by
    rw [shortL] at h
    cases hv : shortV v with
    | false => rw [hv] at h; simp only [Bool.false_eq_true, if_false] at h; omega
    | true =>
      rw [hv, if_pos rfl] at h
      rcases List.mem_cons.1 hx with rfl | hx
      · exact hv
      · exact shortL_all r (i + 1) h x hx
theorem short_parts {v : Val} (h : shortV v = true) : v.list.length ≤ 256 ∧ ∀ x, x ∈ v.list → shortV x = true := by
  cases v with
  | mk k f ng d e b t ns l =>
    rw [shortV] at h
    have h1 : ¬ (t.size : Int) > (if k = 9 then 64 else 4096) := fun c => by rw [if_pos c] at h; cases h
    rw [if_neg h1] at h
    have h2 : ¬ (l.length : Int) > 256 := fun c => by rw [if_pos c] at h; cases h
    rw [if_neg h2] at h
    have h3 : ¬ ixL (fun s : ByteArray => decide ((s.size : Int) > 64)) ns 0 ≥ 0 := fun c => by rw [if_pos c] at h; cases h
    rw [if_neg h3] at h
    refine ⟨by show l.length ≤ 256; omega, shortL_all l 0 ?_⟩
    simpa using h
theorem formed_parts {v : Val} (h : formedV v = true) : (∀ x, x ∈ v.list → formedV x = true) ∧ (v.kind = 8 → v.names.length = v.list.length) ∧ (v.kind = 3 → numV v.neg v.dig v.exp = 0) := by
  cases v with
  | mk k f ng d e b t ns l =>
    obtain ⟨k1, k2, k3, k4, k5, k6, k7, k8, k9, k0⟩ := formedV_iff k f ng d e b t ns l
    simp only [Val.list, Val.names, Val.kind, Val.neg, Val.dig, Val.exp]
    have z : l.length = 0 → ∀ x, x ∈ l → formedV x = true := fun h x hx => by rw [List.length_eq_zero_iff.1 h] at hx; cases hx
    have a := formedL_all l 0
    by_cases e1 : k = 1
    · obtain ⟨_, _, _, _, _, g⟩ := (k1 e1).1 h; exact ⟨z g, fun h => by omega, fun h => by omega⟩
    by_cases e2 : k = 2
    · obtain ⟨_, _, _, _, g⟩ := (k2 e2).1 h; exact ⟨z g, fun h => by omega, fun h => by omega⟩
    by_cases e3 : k = 3
    · obtain ⟨n, _, _, _, _, g⟩ := (k3 e3).1 h; exact ⟨z g, fun h => by omega, fun _ => n⟩
    by_cases e4 : k = 4
    · obtain ⟨_, _, _, _, g⟩ := (k4 e4).1 h; exact ⟨z g, fun h => by omega, fun h => by omega⟩
    by_cases e5 : k = 5
    · obtain ⟨_, _, _, _, _, g⟩ := (k5 e5).1 h; exact ⟨z g, fun h => by omega, fun h => by omega⟩
    by_cases e6 : k = 6
    · obtain ⟨_, _, _, _, g⟩ := (k6 e6).1 h; exact ⟨z g, fun h => by omega, fun h => by omega⟩
    by_cases e7 : k = 7
    · obtain ⟨_, _, _, _, _, g⟩ := (k7 e7).1 h; exact ⟨a g, fun h => by omega, fun h => by omega⟩
    by_cases e8 : k = 8
    · obtain ⟨n, _, _, _, _, _, g⟩ := (k8 e8).1 h; exact ⟨a g, fun _ => n, fun h => by omega⟩
    by_cases e9 : k = 9
    · obtain ⟨_, _, _, _, _, _, g⟩ := (k9 e9).1 h; exact ⟨a g, fun h => by omega, fun h => by omega⟩
    · rw [k0 e1 e2 e3 e4 e5 e6 e7 e8 e9] at h; cases h
theorem good_mem {v x : Val} (h : good v = true) (hx : x ∈ v.list) : good x = true :=
  good_iff.2 ⟨(formed_parts (good_iff.1 h).1).1 x hx, (short_parts (good_iff.1 h).2).2 x hx⟩
theorem zip_mem {ns : List ByteArray} {l : List Val} {p : ByteArray × Val} (h : p ∈ ns.zip l) : p.1 ∈ ns ∧ p.2 ∈ l := List.of_mem_zip h
/-! ### Rows -/
theorem rowsG_congr {α : Type} {c c' : α → α → Int} : ∀ (l m : List α), (∀ x, x ∈ l → ∀ y, c x y = c' x y) → rowsG c l m = rowsG c' l m
  | [], [], _ => rfl
  | [], _ :: _, _ => rfl
  | _ :: _, [], _ => rfl
  | x :: r, y :: t, h => by
    rw [rowsG, rowsG, h x (List.mem_cons_self ..) y, rowsG_congr r t fun z hz => h z (List.mem_cons_of_mem _ hz)]
theorem hgt_mem : ∀ {l : List Val} {x : Val}, x ∈ l → hgt x ≤ hgts l
  | v :: r, x, h => by
    rw [hgts]
    rcases List.mem_cons.1 h with rfl | h
    · omega
    · have := hgt_mem h; omega
theorem hgt_eq (v : Val) : hgt v = hgts v.list + 1 := by cases v; rw [hgt]; rfl
theorem orderF_more : ∀ (n m : Nat) (a b : Val), hgt a ≤ n → hgt a ≤ m → orderF n a b = orderF m a b
  | 0, _, a, b, h, _ => by rw [hgt_eq] at h; omega
  | _ + 1, 0, a, b, _, h => by rw [hgt_eq] at h; omega
  | n + 1, m + 1, a, b, h, k => by
    rw [hgt_eq] at h k
    have e : ∀ x, x ∈ a.list → ∀ y, orderF n x y = orderF m x y := fun x hx y => orderF_more n m x y (by have := hgt_mem hx; omega) (by have := hgt_mem hx; omega)
    have e1 : rowsG (orderF n) a.list b.list = rowsG (orderF m) a.list b.list := rowsG_congr _ _ e
    have e2 : rowsG (pairC (orderF n)) (a.names.zip a.list) (b.names.zip b.list) = rowsG (pairC (orderF m)) (a.names.zip a.list) (b.names.zip b.list) :=
      rowsG_congr _ _ fun p hp q => by unfold pairC; rw [e p.2 (zip_mem hp).2 q.2]
    rw [orderF, orderF, e1, e2]
/-- The order by its parts. -/
theorem orderV_eq (a b : Val) : orderV a b =
    if a.kind < b.kind then -1 else if b.kind < a.kind then 1 else
    if a.kind = 2 then (if a.flag = b.flag then 0 else if b.flag then -1 else 1)
    else if a.kind = 3 then (numcmpV a.neg a.dig a.exp b.neg b.dig b.exp).1
    else if a.kind = 4 then cmpZ a.bits b.bits
    else if a.kind = 5 then cmpS a.text b.text
    else if a.kind = 6 then cmpS a.text b.text
    else if a.kind = 8 then rowsG (pairC orderV) (a.names.zip a.list) (b.names.zip b.list)
    else if a.kind = 9 then (if cmpS a.text b.text = 0 then rowsG orderV a.list b.list else cmpS a.text b.text)
    else rowsG orderV a.list b.list := by
  have e : ∀ x, x ∈ a.list → ∀ y, orderF (hgts a.list) x y = orderV x y := fun x hx y => orderF_more _ _ _ _ (hgt_mem hx) (Nat.le_refl _)
  have e1 : rowsG (orderF (hgts a.list)) a.list b.list = rowsG orderV a.list b.list := rowsG_congr _ _ e
  have e2 : rowsG (pairC (orderF (hgts a.list))) (a.names.zip a.list) (b.names.zip b.list) = rowsG (pairC orderV) (a.names.zip a.list) (b.names.zip b.list) :=
    rowsG_congr _ _ fun p hp q => by unfold pairC; rw [e p.2 (zip_mem hp).2 q.2]
  show orderF (hgt a) a b = _
  rw [hgt_eq, orderF, e1, e2]
theorem rowsG_end {α : Type} {c : α → α → Int} {a b : List α} {i : Nat} (h : a.length ≤ i ∨ b.length ≤ i) (ha : i ≤ a.length) (hb : i ≤ b.length) : rowsG c (a.drop i) (b.drop i) = cmpZ a.length b.length := by
  unfold cmpZ
  rcases Nat.lt_trichotomy a.length b.length with h1 | h1 | h1
  · rw [if_pos (by omega), List.drop_eq_nil_of_le (by omega)]
    obtain ⟨y, _, _, hy⟩ := drop_get (show i < b.length by omega)
    rw [hy]; rfl
  · rw [if_neg (by omega), if_neg (by omega), List.drop_eq_nil_of_le (by omega), List.drop_eq_nil_of_le (by omega)]; rfl
  · rw [if_neg (by omega), if_pos (by omega), List.drop_eq_nil_of_le (show b.length ≤ i by omega)]
    obtain ⟨y, _, _, hy⟩ := drop_get (show i < a.length by omega)
    rw [hy]; rfl
theorem shP : (kn [] tb).shape 88 = .sc .s :: valCT 41 9 := rfl
theorem pairs2_fn {f : Nat} {d : List D} (h : FitL tb [.cell (.sl 88), .cell (.sl 88), .fn f []] d) : ∃ a b : List (ByteArray × Val), d = [pairsD a, pairsD b, .row []] := by
  match d, h with
  | [x, y, z], ⟨h1, h2, h3, _⟩ =>
    obtain ⟨a, rfl⟩ := fits_pairs shP shV shS h1
    obtain ⟨b, rfl⟩ := fits_pairs shP shV shS h2
    rw [fit_fn h3]
    exact ⟨a, b, rfl⟩
theorem sz_pairs_mem {l : List (ByteArray × Val)} {p : ByteArray × Val} (h : p ∈ l) : (pairD p).sz < (pairsD l).sz := by
  rw [sz_lst]
  have := szL_mem (List.mem_map_of_mem (f := pairD) h)
  omega
theorem lim_pairs {l : List (ByteArray × Val)} : (pairsD l).Lim ↔ l.length ≤ lim ∧ ∀ p, p ∈ l → p.1.size ≤ lim ∧ p.2.toD.Lim := by
  rw [lim_lst, List.length_map, limL_map]
  simp only [lim_pairD]
/-- calamus/value.rows[calamus/api.Value]: func 75, params [39, 39, 63], ntmps 36. -/
-- head 0 of loop 0: [t0 .sh (.cell (.sl 41)), t1 .sh (.cell (.sl 41)), t2 .sh (.fn 44 []), t13 .sh (.cell (.sc (.i .i64))), t14 .sh (.cell (.sc (.i .i64)))]
def heads_rowsV : List Hd := [⟨0, [.sh (.cell (.sl 41)), .sh (.cell (.sl 41)), .sh (.fn 44 []), .any, .any, .any, .any, .any, .any, .any, .any, .any, .any, .sh (.cell (.sc (.i .i64))), .sh (.cell (.sc (.i .i64))), .any, .any, .any, .any, .any, .any, .any, .any, .any, .any, .any, .any, .any, .any, .any, .any, .any, .any, .any, .any, .any]⟩]
def entry_rowsV : Tree :=
  (.leaf (.go 0 [(.var 0), (.var 1), (.pr .row []), (.pr .ite [(.pr (.icmp .lss) [(.pr .len [(.var 1)]), (.pr .len [(.var 0)])]), (.pr .len [(.var 1)]), (.pr .len [(.var 0)])]), (.lit (.int .i64 0))]))
def head_rowsV_0 : Tree :=
  (.ite (.pr (.icmp .lss) [(.var 4), (.var 3)])
    (.giv (.pr (.icmp .leq) [(.lit (.int .i64 0)), (.var 4)])
      (.giv (.pr (.icmp .lss) [(.var 4), (.pr .len [(.var 0)])])
        (.giv (.pr (.icmp .lss) [(.var 4), (.pr .len [(.var 1)])])
          (.giv (.app 1000 [(.pr .row [(.pr (.cell 0) [(.pr .at [(.var 0), (.var 4)])]), (.pr (.cell 1) [(.pr .at [(.var 0), (.var 4)])]), (.pr (.cell 2) [(.pr .at [(.var 0), (.var 4)])]), (.pr (.cell 3) [(.pr .at [(.var 0), (.var 4)])]), (.pr (.cell 4) [(.pr .at [(.var 0), (.var 4)])]), (.pr (.cell 5) [(.pr .at [(.var 0), (.var 4)])]), (.pr (.cell 6) [(.pr .at [(.var 0), (.var 4)])]), (.pr (.cell 7) [(.pr .at [(.var 0), (.var 4)])]), (.pr (.cell 8) [(.pr .at [(.var 0), (.var 4)])])]), (.pr .row [(.pr (.cell 0) [(.pr .at [(.var 1), (.var 4)])]), (.pr (.cell 1) [(.pr .at [(.var 1), (.var 4)])]), (.pr (.cell 2) [(.pr .at [(.var 1), (.var 4)])]), (.pr (.cell 3) [(.pr .at [(.var 1), (.var 4)])]), (.pr (.cell 4) [(.pr .at [(.var 1), (.var 4)])]), (.pr (.cell 5) [(.pr .at [(.var 1), (.var 4)])]), (.pr (.cell 6) [(.pr .at [(.var 1), (.var 4)])]), (.pr (.cell 7) [(.pr .at [(.var 1), (.var 4)])]), (.pr (.cell 8) [(.pr .at [(.var 1), (.var 4)])])])])
            (.giv (.app 2024 [(.pr .row [(.pr (.cell 0) [(.pr .at [(.var 0), (.var 4)])]), (.pr (.cell 1) [(.pr .at [(.var 0), (.var 4)])]), (.pr (.cell 2) [(.pr .at [(.var 0), (.var 4)])]), (.pr (.cell 3) [(.pr .at [(.var 0), (.var 4)])]), (.pr (.cell 4) [(.pr .at [(.var 0), (.var 4)])]), (.pr (.cell 5) [(.pr .at [(.var 0), (.var 4)])]), (.pr (.cell 6) [(.pr .at [(.var 0), (.var 4)])]), (.pr (.cell 7) [(.pr .at [(.var 0), (.var 4)])]), (.pr (.cell 8) [(.pr .at [(.var 0), (.var 4)])])]), (.pr .row [(.pr (.cell 0) [(.pr .at [(.var 1), (.var 4)])]), (.pr (.cell 1) [(.pr .at [(.var 1), (.var 4)])]), (.pr (.cell 2) [(.pr .at [(.var 1), (.var 4)])]), (.pr (.cell 3) [(.pr .at [(.var 1), (.var 4)])]), (.pr (.cell 4) [(.pr .at [(.var 1), (.var 4)])]), (.pr (.cell 5) [(.pr .at [(.var 1), (.var 4)])]), (.pr (.cell 6) [(.pr .at [(.var 1), (.var 4)])]), (.pr (.cell 7) [(.pr .at [(.var 1), (.var 4)])]), (.pr (.cell 8) [(.pr .at [(.var 1), (.var 4)])])])])
              (.ite (.pr (.icmp .neq) [(.app 24 [(.pr .row [(.pr (.cell 0) [(.pr .at [(.var 0), (.var 4)])]), (.pr (.cell 1) [(.pr .at [(.var 0), (.var 4)])]), (.pr (.cell 2) [(.pr .at [(.var 0), (.var 4)])]), (.pr (.cell 3) [(.pr .at [(.var 0), (.var 4)])]), (.pr (.cell 4) [(.pr .at [(.var 0), (.var 4)])]), (.pr (.cell 5) [(.pr .at [(.var 0), (.var 4)])]), (.pr (.cell 6) [(.pr .at [(.var 0), (.var 4)])]), (.pr (.cell 7) [(.pr .at [(.var 0), (.var 4)])]), (.pr (.cell 8) [(.pr .at [(.var 0), (.var 4)])])]), (.pr .row [(.pr (.cell 0) [(.pr .at [(.var 1), (.var 4)])]), (.pr (.cell 1) [(.pr .at [(.var 1), (.var 4)])]), (.pr (.cell 2) [(.pr .at [(.var 1), (.var 4)])]), (.pr (.cell 3) [(.pr .at [(.var 1), (.var 4)])]), (.pr (.cell 4) [(.pr .at [(.var 1), (.var 4)])]), (.pr (.cell 5) [(.pr .at [(.var 1), (.var 4)])]), (.pr (.cell 6) [(.pr .at [(.var 1), (.var 4)])]), (.pr (.cell 7) [(.pr .at [(.var 1), (.var 4)])]), (.pr (.cell 8) [(.pr .at [(.var 1), (.var 4)])])])]), (.lit (.int .i64 0))])
                (.leaf (.ret (.app 24 [(.pr .row [(.pr (.cell 0) [(.pr .at [(.var 0), (.var 4)])]), (.pr (.cell 1) [(.pr .at [(.var 0), (.var 4)])]), (.pr (.cell 2) [(.pr .at [(.var 0), (.var 4)])]), (.pr (.cell 3) [(.pr .at [(.var 0), (.var 4)])]), (.pr (.cell 4) [(.pr .at [(.var 0), (.var 4)])]), (.pr (.cell 5) [(.pr .at [(.var 0), (.var 4)])]), (.pr (.cell 6) [(.pr .at [(.var 0), (.var 4)])]), (.pr (.cell 7) [(.pr .at [(.var 0), (.var 4)])]), (.pr (.cell 8) [(.pr .at [(.var 0), (.var 4)])])]), (.pr .row [(.pr (.cell 0) [(.pr .at [(.var 1), (.var 4)])]), (.pr (.cell 1) [(.pr .at [(.var 1), (.var 4)])]), (.pr (.cell 2) [(.pr .at [(.var 1), (.var 4)])]), (.pr (.cell 3) [(.pr .at [(.var 1), (.var 4)])]), (.pr (.cell 4) [(.pr .at [(.var 1), (.var 4)])]), (.pr (.cell 5) [(.pr .at [(.var 1), (.var 4)])]), (.pr (.cell 6) [(.pr .at [(.var 1), (.var 4)])]), (.pr (.cell 7) [(.pr .at [(.var 1), (.var 4)])]), (.pr (.cell 8) [(.pr .at [(.var 1), (.var 4)])])])])))
                (.leaf (.go 0 [(.var 0), (.var 1), (.pr .row []), (.var 3), (.pr (.iop .add .i64) [(.var 4), (.lit (.int .i64 1))])]))))))))
    (.ite (.pr (.icmp .lss) [(.pr .len [(.var 0)]), (.pr .len [(.var 1)])])
      (.leaf (.ret (.lit (.int .i64 (-1)))))
      (.ite (.pr (.icmp .gtr) [(.pr .len [(.var 0)]), (.pr .len [(.var 1)])])
        (.leaf (.ret (.lit (.int .i64 1))))
        (.leaf (.ret (.lit (.int .i64 0)))))))
def trees_rowsV : List Tree := [head_rowsV_0]
noncomputable def deps_rowsV : List Sig := [q_order]
theorem ok_rowsV : check q_rowsV deps_rowsV heads_rowsV entry_rowsV trees_rowsV = true := by kernel_rfl
theorem rowsV_ok (n : Nat) (ih : @Ok (I n) q_order (@okS (I n) n q_order.g)) : @Ok (I n) q_rowsV (@okS (I n) n q_rowsV.g) := by
  letI := I n
  refine fn_okS (hphi n) ok_rowsV (by intro q hq; simp only [deps_rowsV, List.mem_singleton] at hq; subst hq; exact ih)
    (fun _ d ds => ∃ (a b : List Val) (i m : Nat), ds = [valsD a, valsD b, .row [], iD m, iD i] ∧ i ≤ m ∧ m ≤ a.length ∧ m ≤ b.length ∧ (a.length ≤ m ∨ b.length ≤ m) ∧ m ≤ lim ∧ (∀ x y, x ∈ a → y ∈ b → okD n [x.toD, y.toD] ∧ good x = true ∧ good y = true) ∧ d = iD (rowsG orderV (a.drop i) (b.drop i)))
    (fun _ ds => (ds.getD 3 .nil).int.toNat - (ds.getD 4 .nil).int.toNat) ?_ ?_
  · intro ds hf hp
    obtain ⟨a, b, rfl⟩ := vals2_fn hf
    obtain ⟨g1, g2⟩ := (pre_rowsV n a b _).1 (hp.2 rfl)
    obtain ⟨h1, h2, h3, _⟩ := okD_three.1 hp.1
    obtain ⟨h2, h4⟩ := lim_vals.1 h2
    obtain ⟨h3, h5⟩ := lim_vals.1 h3
    simp only [entry_rowsV, q_rowsV, Tree.holds, Out.den, E.den, E.denL, envOf_zero, envOf_succ, den_add, den_sub, den_mul, den_quo, den_rem, den_ieql, den_ineq, den_lss, den_leq, den_gtr, den_geq, den_seql, den_sneq, den_slss, den_beql, den_bneq, den_not, den_neg, den_conv, den_slen, den_sat, den_ssub, den_scat, den_len, den_at, den_cell, den_row, den_lst, den_cat, den_ite, den_and, den_mhas, den_mget, den_mset, ofBool_bD, bD_true, rows_lst, cells_row, int_v, bool_v, str_v, rows_strs, at_0, at_1, at_2, at_3, at_4, at_5, at_6, at_7, at_8, toD_put, strD_at, ltI_t, leI_t, eqI_t, eqS_t, ltI_f, leI_f, eqI_f, eqS_f, Bool.not_eq_true', Bool.not_eq_false', List.getD_cons_zero, List.getD_cons_succ, true_and, and_true, List.length_map, phi_1000, phi_rowsV, bif_iD]
    refine ⟨a, b, 0, min a.length b.length, ?_, Nat.zero_le _, Nat.min_le_left .., Nat.min_le_right .., by omega, by omega, fun x y hx hy => ⟨okD_two.2 ⟨?_, h4 x hx, h5 y hy⟩, g1 x hx, g2 y hy⟩, rfl⟩
    · have : (if (b.length : Int) < a.length then (b.length : Int) else a.length) = ((min a.length b.length : Nat) : Int) := by split <;> omega
      rw [this]; rfl
    · have := sz_vals_mem hx
      have := sz_vals_mem hy
      omega
  · rintro j h t d ds hj ht hf ⟨a, b, i, m, rfl, hi, hma, hmb, hm, hl, hs, rfl⟩
    obtain rfl : t = head_rowsV_0 := by
      match j, ht with
      | 0, ht => exact (Option.some.inj ht).symm
    by_cases hlt : i < m
    · obtain ⟨x, hx, hxm, hd⟩ := drop_get (show i < a.length by omega)
      obtain ⟨y, hy, hym, hd'⟩ := drop_get (show i < b.length by omega)
      simp only [head_rowsV_0, Tree.holds, Out.den, E.den, E.denL, envOf_zero, envOf_succ, den_add, den_sub, den_mul, den_quo, den_rem, den_ieql, den_ineq, den_lss, den_leq, den_gtr, den_geq, den_seql, den_sneq, den_slss, den_beql, den_bneq, den_not, den_neg, den_conv, den_slen, den_sat, den_ssub, den_scat, den_len, den_at, den_cell, den_row, den_lst, den_cat, den_ite, den_and, den_mhas, den_mget, den_mset, ofBool_bD, bD_true, rows_lst, cells_row, int_v, bool_v, str_v, rows_strs, at_0, at_1, at_2, at_3, at_4, at_5, at_6, at_7, at_8, toD_put, strD_at, ltI_t, leI_t, eqI_t, eqS_t, ltI_f, leI_f, eqI_f, eqS_f, Bool.not_eq_true', Bool.not_eq_false', List.getD_cons_zero, List.getD_cons_succ, true_and, and_true, List.length_map, phi_1000, rowAt_map hx, rowAt_map hy, phi_order, pre_order, wrap_succ hlt hl]
      obtain ⟨k1, k2, k3⟩ := hs x y hxm hym
      rw [hd, hd', rowsG]
      refine ⟨fun _ => ⟨by omega, by omega, by omega, k1, ⟨k2, k3⟩, fun hb => ?_, fun hb => ⟨⟨a, b, i + 1, m, rfl, hlt, hma, hmb, hm, hl, hs, ?_⟩, by omega⟩⟩, fun h => by omega⟩
      · rw [if_neg hb]
      · rw [if_pos hb]
    · simp only [head_rowsV_0, Tree.holds, Out.den, E.den, E.denL, envOf_zero, envOf_succ, den_add, den_sub, den_mul, den_quo, den_rem, den_ieql, den_ineq, den_lss, den_leq, den_gtr, den_geq, den_seql, den_sneq, den_slss, den_beql, den_bneq, den_not, den_neg, den_conv, den_slen, den_sat, den_ssub, den_scat, den_len, den_at, den_cell, den_row, den_lst, den_cat, den_ite, den_and, den_mhas, den_mget, den_mset, ofBool_bD, bD_true, rows_lst, cells_row, int_v, bool_v, str_v, rows_strs, at_0, at_1, at_2, at_3, at_4, at_5, at_6, at_7, at_8, toD_put, strD_at, ltI_t, leI_t, eqI_t, eqS_t, ltI_f, leI_f, eqI_f, eqS_f, Bool.not_eq_true', Bool.not_eq_false', List.getD_cons_zero, List.getD_cons_succ, true_and, and_true, List.length_map, phi_1000]
      rw [rowsG_end (by omega) (by omega) (by omega)]
      unfold cmpZ
      refine ⟨fun h => by omega, fun _ => ⟨fun h => ?_, fun h => ⟨fun h' => ?_, fun h' => ?_⟩⟩⟩
      · rw [if_pos h]
      · rw [if_neg h, if_pos h']
      · rw [if_neg h, if_neg h']
/-- calamus/value.rows[calamus/value.pair]: func 72, params [89, 89, 91], ntmps 36. -/
-- head 0 of loop 0: [t0 .sh (.cell (.sl 88)), t1 .sh (.cell (.sl 88)), t2 .sh (.fn 74 []), t13 .sh (.cell (.sc (.i .i64))), t14 .sh (.cell (.sc (.i .i64)))]
def heads_rowsP : List Hd := [⟨0, [.sh (.cell (.sl 88)), .sh (.cell (.sl 88)), .sh (.fn 74 []), .any, .any, .any, .any, .any, .any, .any, .any, .any, .any, .sh (.cell (.sc (.i .i64))), .sh (.cell (.sc (.i .i64))), .any, .any, .any, .any, .any, .any, .any, .any, .any, .any, .any, .any, .any, .any, .any, .any, .any, .any, .any, .any, .any]⟩]
def entry_rowsP : Tree :=
  (.leaf (.go 0 [(.var 0), (.var 1), (.pr .row []), (.pr .ite [(.pr (.icmp .lss) [(.pr .len [(.var 1)]), (.pr .len [(.var 0)])]), (.pr .len [(.var 1)]), (.pr .len [(.var 0)])]), (.lit (.int .i64 0))]))
def head_rowsP_0 : Tree :=
  (.ite (.pr (.icmp .lss) [(.var 4), (.var 3)])
    (.giv (.pr (.icmp .leq) [(.lit (.int .i64 0)), (.var 4)])
      (.giv (.pr (.icmp .lss) [(.var 4), (.pr .len [(.var 0)])])
        (.giv (.pr (.icmp .lss) [(.var 4), (.pr .len [(.var 1)])])
          (.giv (.app 1000 [(.pr (.cell 0) [(.pr .at [(.var 0), (.var 4)])]), (.pr (.cell 0) [(.pr .at [(.var 1), (.var 4)])])])
            (.ite (.pr (.icmp .neq) [(.app 19 [(.pr (.cell 0) [(.pr .at [(.var 0), (.var 4)])]), (.pr (.cell 0) [(.pr .at [(.var 1), (.var 4)])])]), (.lit (.int .i64 0))])
              (.leaf (.ret (.app 19 [(.pr (.cell 0) [(.pr .at [(.var 0), (.var 4)])]), (.pr (.cell 0) [(.pr .at [(.var 1), (.var 4)])])])))
              (.giv (.app 1000 [(.pr .row [(.pr (.cell 1) [(.pr .at [(.var 0), (.var 4)])]), (.pr (.cell 2) [(.pr .at [(.var 0), (.var 4)])]), (.pr (.cell 3) [(.pr .at [(.var 0), (.var 4)])]), (.pr (.cell 4) [(.pr .at [(.var 0), (.var 4)])]), (.pr (.cell 5) [(.pr .at [(.var 0), (.var 4)])]), (.pr (.cell 6) [(.pr .at [(.var 0), (.var 4)])]), (.pr (.cell 7) [(.pr .at [(.var 0), (.var 4)])]), (.pr (.cell 8) [(.pr .at [(.var 0), (.var 4)])]), (.pr (.cell 9) [(.pr .at [(.var 0), (.var 4)])])]), (.pr .row [(.pr (.cell 1) [(.pr .at [(.var 1), (.var 4)])]), (.pr (.cell 2) [(.pr .at [(.var 1), (.var 4)])]), (.pr (.cell 3) [(.pr .at [(.var 1), (.var 4)])]), (.pr (.cell 4) [(.pr .at [(.var 1), (.var 4)])]), (.pr (.cell 5) [(.pr .at [(.var 1), (.var 4)])]), (.pr (.cell 6) [(.pr .at [(.var 1), (.var 4)])]), (.pr (.cell 7) [(.pr .at [(.var 1), (.var 4)])]), (.pr (.cell 8) [(.pr .at [(.var 1), (.var 4)])]), (.pr (.cell 9) [(.pr .at [(.var 1), (.var 4)])])])])
                (.giv (.app 2024 [(.pr .row [(.pr (.cell 1) [(.pr .at [(.var 0), (.var 4)])]), (.pr (.cell 2) [(.pr .at [(.var 0), (.var 4)])]), (.pr (.cell 3) [(.pr .at [(.var 0), (.var 4)])]), (.pr (.cell 4) [(.pr .at [(.var 0), (.var 4)])]), (.pr (.cell 5) [(.pr .at [(.var 0), (.var 4)])]), (.pr (.cell 6) [(.pr .at [(.var 0), (.var 4)])]), (.pr (.cell 7) [(.pr .at [(.var 0), (.var 4)])]), (.pr (.cell 8) [(.pr .at [(.var 0), (.var 4)])]), (.pr (.cell 9) [(.pr .at [(.var 0), (.var 4)])])]), (.pr .row [(.pr (.cell 1) [(.pr .at [(.var 1), (.var 4)])]), (.pr (.cell 2) [(.pr .at [(.var 1), (.var 4)])]), (.pr (.cell 3) [(.pr .at [(.var 1), (.var 4)])]), (.pr (.cell 4) [(.pr .at [(.var 1), (.var 4)])]), (.pr (.cell 5) [(.pr .at [(.var 1), (.var 4)])]), (.pr (.cell 6) [(.pr .at [(.var 1), (.var 4)])]), (.pr (.cell 7) [(.pr .at [(.var 1), (.var 4)])]), (.pr (.cell 8) [(.pr .at [(.var 1), (.var 4)])]), (.pr (.cell 9) [(.pr .at [(.var 1), (.var 4)])])])])
                  (.ite (.pr (.icmp .neq) [(.app 24 [(.pr .row [(.pr (.cell 1) [(.pr .at [(.var 0), (.var 4)])]), (.pr (.cell 2) [(.pr .at [(.var 0), (.var 4)])]), (.pr (.cell 3) [(.pr .at [(.var 0), (.var 4)])]), (.pr (.cell 4) [(.pr .at [(.var 0), (.var 4)])]), (.pr (.cell 5) [(.pr .at [(.var 0), (.var 4)])]), (.pr (.cell 6) [(.pr .at [(.var 0), (.var 4)])]), (.pr (.cell 7) [(.pr .at [(.var 0), (.var 4)])]), (.pr (.cell 8) [(.pr .at [(.var 0), (.var 4)])]), (.pr (.cell 9) [(.pr .at [(.var 0), (.var 4)])])]), (.pr .row [(.pr (.cell 1) [(.pr .at [(.var 1), (.var 4)])]), (.pr (.cell 2) [(.pr .at [(.var 1), (.var 4)])]), (.pr (.cell 3) [(.pr .at [(.var 1), (.var 4)])]), (.pr (.cell 4) [(.pr .at [(.var 1), (.var 4)])]), (.pr (.cell 5) [(.pr .at [(.var 1), (.var 4)])]), (.pr (.cell 6) [(.pr .at [(.var 1), (.var 4)])]), (.pr (.cell 7) [(.pr .at [(.var 1), (.var 4)])]), (.pr (.cell 8) [(.pr .at [(.var 1), (.var 4)])]), (.pr (.cell 9) [(.pr .at [(.var 1), (.var 4)])])])]), (.lit (.int .i64 0))])
                    (.leaf (.ret (.app 24 [(.pr .row [(.pr (.cell 1) [(.pr .at [(.var 0), (.var 4)])]), (.pr (.cell 2) [(.pr .at [(.var 0), (.var 4)])]), (.pr (.cell 3) [(.pr .at [(.var 0), (.var 4)])]), (.pr (.cell 4) [(.pr .at [(.var 0), (.var 4)])]), (.pr (.cell 5) [(.pr .at [(.var 0), (.var 4)])]), (.pr (.cell 6) [(.pr .at [(.var 0), (.var 4)])]), (.pr (.cell 7) [(.pr .at [(.var 0), (.var 4)])]), (.pr (.cell 8) [(.pr .at [(.var 0), (.var 4)])]), (.pr (.cell 9) [(.pr .at [(.var 0), (.var 4)])])]), (.pr .row [(.pr (.cell 1) [(.pr .at [(.var 1), (.var 4)])]), (.pr (.cell 2) [(.pr .at [(.var 1), (.var 4)])]), (.pr (.cell 3) [(.pr .at [(.var 1), (.var 4)])]), (.pr (.cell 4) [(.pr .at [(.var 1), (.var 4)])]), (.pr (.cell 5) [(.pr .at [(.var 1), (.var 4)])]), (.pr (.cell 6) [(.pr .at [(.var 1), (.var 4)])]), (.pr (.cell 7) [(.pr .at [(.var 1), (.var 4)])]), (.pr (.cell 8) [(.pr .at [(.var 1), (.var 4)])]), (.pr (.cell 9) [(.pr .at [(.var 1), (.var 4)])])])])))
                    (.leaf (.go 0 [(.var 0), (.var 1), (.pr .row []), (.var 3), (.pr (.iop .add .i64) [(.var 4), (.lit (.int .i64 1))])]))))))))))
    (.ite (.pr (.icmp .lss) [(.pr .len [(.var 0)]), (.pr .len [(.var 1)])])
      (.leaf (.ret (.lit (.int .i64 (-1)))))
      (.ite (.pr (.icmp .gtr) [(.pr .len [(.var 0)]), (.pr .len [(.var 1)])])
        (.leaf (.ret (.lit (.int .i64 1))))
        (.leaf (.ret (.lit (.int .i64 0)))))))
def trees_rowsP : List Tree := [head_rowsP_0]
noncomputable def deps_rowsP : List Sig := [q_scmp, q_order]
theorem ok_rowsP : check q_rowsP deps_rowsP heads_rowsP entry_rowsP trees_rowsP = true := by kernel_rfl
theorem rowsP_ok (n : Nat) (ih : @Ok (I n) q_order (@okS (I n) n q_order.g)) : @Ok (I n) q_rowsP (@okS (I n) n q_rowsP.g) := by
  letI := I n
  refine fn_okS (hphi n) ok_rowsP (by
    intro q hq
    simp only [deps_rowsP, List.mem_cons, List.not_mem_nil, or_false] at hq
    rcases hq with rfl | rfl
    · exact okS_of (scmp_ok n)
    · exact ih)
    (fun _ d ds => ∃ (a b : List (ByteArray × Val)) (i m : Nat), ds = [pairsD a, pairsD b, .row [], iD m, iD i] ∧ i ≤ m ∧ m ≤ a.length ∧ m ≤ b.length ∧ (a.length ≤ m ∨ b.length ≤ m) ∧ m ≤ lim ∧ (∀ x y, x ∈ a → y ∈ b → okD n [sD x.1, sD y.1] ∧ okD n [x.2.toD, y.2.toD] ∧ good x.2 = true ∧ good y.2 = true) ∧ d = iD (rowsG (pairC orderV) (a.drop i) (b.drop i)))
    (fun _ ds => (ds.getD 3 .nil).int.toNat - (ds.getD 4 .nil).int.toNat) ?_ ?_
  · intro ds hf hp
    obtain ⟨a, b, rfl⟩ := pairs2_fn hf
    obtain ⟨g1, g2⟩ := (pre_rowsP n a b _).1 (hp.2 rfl)
    obtain ⟨h1, h2, h3, _⟩ := okD_three.1 hp.1
    obtain ⟨h2, h4⟩ := lim_pairs.1 h2
    obtain ⟨h3, h5⟩ := lim_pairs.1 h3
    simp only [entry_rowsP, q_rowsP, Tree.holds, Out.den, E.den, E.denL, envOf_zero, envOf_succ, den_add, den_sub, den_mul, den_quo, den_rem, den_ieql, den_ineq, den_lss, den_leq, den_gtr, den_geq, den_seql, den_sneq, den_slss, den_beql, den_bneq, den_not, den_neg, den_conv, den_slen, den_sat, den_ssub, den_scat, den_len, den_at, den_cell, den_row, den_lst, den_cat, den_ite, den_and, den_mhas, den_mget, den_mset, ofBool_bD, bD_true, rows_lst, cells_row, int_v, bool_v, str_v, rows_strs, at_0, at_1, at_2, at_3, at_4, at_5, at_6, at_7, at_8, toD_put, strD_at, ltI_t, leI_t, eqI_t, eqS_t, ltI_f, leI_f, eqI_f, eqS_f, Bool.not_eq_true', Bool.not_eq_false', List.getD_cons_zero, List.getD_cons_succ, true_and, and_true, List.length_map, phi_1000, phi_rowsP, bif_iD]
    refine ⟨a, b, 0, min a.length b.length, ?_, Nat.zero_le _, Nat.min_le_left .., Nat.min_le_right .., by omega, by omega, fun x y hx hy => ?_, rfl⟩
    · have : (if (b.length : Int) < a.length then (b.length : Int) else a.length) = ((min a.length b.length : Nat) : Int) := by split <;> omega
      rw [this]; rfl
    · have e1 := sz_pairs_mem hx
      have e2 := sz_pairs_mem hy
      rw [sz_pairD] at e1 e2
      have := D.sz_pos x.2.toD
      have := D.sz_pos y.2.toD
      exact ⟨okD_two.2 ⟨by rw [sz_sD, sz_sD]; omega, lim_sD.2 (h4 x hx).1, lim_sD.2 (h5 y hy).1⟩, okD_two.2 ⟨by omega, (h4 x hx).2, (h5 y hy).2⟩, g1 x hx, g2 y hy⟩
  · rintro j h t d ds hj ht hf ⟨a, b, i, m, rfl, hi, hma, hmb, hm, hl, hs, rfl⟩
    obtain rfl : t = head_rowsP_0 := by
      match j, ht with
      | 0, ht => exact (Option.some.inj ht).symm
    by_cases hlt : i < m
    · obtain ⟨x, hx, hxm, hd⟩ := drop_get (show i < a.length by omega)
      obtain ⟨y, hy, hym, hd'⟩ := drop_get (show i < b.length by omega)
      simp only [head_rowsP_0, Tree.holds, Out.den, E.den, E.denL, envOf_zero, envOf_succ, den_add, den_sub, den_mul, den_quo, den_rem, den_ieql, den_ineq, den_lss, den_leq, den_gtr, den_geq, den_seql, den_sneq, den_slss, den_beql, den_bneq, den_not, den_neg, den_conv, den_slen, den_sat, den_ssub, den_scat, den_len, den_at, den_cell, den_row, den_lst, den_cat, den_ite, den_and, den_mhas, den_mget, den_mset, ofBool_bD, bD_true, rows_lst, cells_row, int_v, bool_v, str_v, rows_strs, at_0, at_1, at_2, at_3, at_4, at_5, at_6, at_7, at_8, toD_put, strD_at, ltI_t, leI_t, eqI_t, eqS_t, ltI_f, leI_f, eqI_f, eqS_f, Bool.not_eq_true', Bool.not_eq_false', List.getD_cons_zero, List.getD_cons_succ, true_and, and_true, List.length_map, phi_1000, rowAt_map hx, rowAt_map hy, pat_0, pat_1, pat_2, pat_3, pat_4, pat_5, pat_6, pat_7, pat_8, pat_9, toD_put, phi_scmp, phi_order, pre_order, wrap_succ hlt hl]
      obtain ⟨k0, k1, k2, k3⟩ := hs x y hxm hym
      rw [hd, hd', rowsG]
      unfold pairC
      refine ⟨fun _ => ⟨by omega, by omega, by omega, k0, fun hb => ?_, fun hb => ⟨k1, ⟨k2, k3⟩, fun hc => ?_, fun hc => ⟨⟨a, b, i + 1, m, rfl, hlt, hma, hmb, hm, hl, hs, ?_⟩, by omega⟩⟩⟩, fun h => by omega⟩
      · rw [if_neg hb, if_neg hb]
      · rw [if_pos hb, if_neg hc]
      · rw [if_pos hb, if_pos hc]
    · simp only [head_rowsP_0, Tree.holds, Out.den, E.den, E.denL, envOf_zero, envOf_succ, den_add, den_sub, den_mul, den_quo, den_rem, den_ieql, den_ineq, den_lss, den_leq, den_gtr, den_geq, den_seql, den_sneq, den_slss, den_beql, den_bneq, den_not, den_neg, den_conv, den_slen, den_sat, den_ssub, den_scat, den_len, den_at, den_cell, den_row, den_lst, den_cat, den_ite, den_and, den_mhas, den_mget, den_mset, ofBool_bD, bD_true, rows_lst, cells_row, int_v, bool_v, str_v, rows_strs, at_0, at_1, at_2, at_3, at_4, at_5, at_6, at_7, at_8, toD_put, strD_at, ltI_t, leI_t, eqI_t, eqS_t, ltI_f, leI_f, eqI_f, eqS_f, Bool.not_eq_true', Bool.not_eq_false', List.getD_cons_zero, List.getD_cons_succ, true_and, and_true, List.length_map, phi_1000]
      rw [rowsG_end (by omega) (by omega) (by omega)]
      unfold cmpZ
      refine ⟨fun h => by omega, fun _ => ⟨fun h => ?_, fun h => ⟨fun h' => ?_, fun h' => ?_⟩⟩⟩
      · rw [if_pos h]
      · rw [if_neg h, if_pos h']
      · rw [if_neg h, if_neg h']
/-- calamus/value.order: func 44, params [41, 41], ntmps 78. -/
def heads_order : List Hd := []
def entry_order : Tree :=
  (.ite (.pr (.icmp .lss) [(.pr (.cell 0) [(.var 0)]), (.pr (.cell 0) [(.var 1)])])
    (.leaf (.ret (.lit (.int .i64 (-1)))))
    (.ite (.pr (.icmp .gtr) [(.pr (.cell 0) [(.var 0)]), (.pr (.cell 0) [(.var 1)])])
      (.leaf (.ret (.lit (.int .i64 1))))
      (.ite (.pr (.icmp .eql) [(.pr (.cell 0) [(.var 0)]), (.lit (.int .i64 2))])
        (.ite (.pr (.bcmp .eql) [(.pr (.cell 1) [(.var 0)]), (.pr (.cell 1) [(.var 1)])])
          (.leaf (.ret (.lit (.int .i64 0))))
          (.ite (.pr (.cell 1) [(.var 1)])
            (.ite (.pr (.bcmp .eql) [(.pr (.cell 1) [(.var 0)]), (.lit (.bool true))])
              (.leaf (.ret (.lit (.int .i64 0))))
              (.leaf (.ret (.lit (.int .i64 (-1))))))
            (.ite (.pr (.bcmp .eql) [(.pr (.cell 1) [(.var 0)]), (.lit (.bool false))])
              (.leaf (.ret (.lit (.int .i64 0))))
              (.leaf (.ret (.lit (.int .i64 1)))))))
        (.ite (.pr (.icmp .eql) [(.pr (.cell 0) [(.var 0)]), (.lit (.int .i64 3))])
          (.giv (.app 1000 [(.pr .row [(.pr (.cell 2) [(.var 0)]), (.pr (.cell 3) [(.var 0)]), (.pr (.cell 4) [(.var 0)])]), (.pr .row [(.pr (.cell 2) [(.var 1)]), (.pr (.cell 3) [(.var 1)]), (.pr (.cell 4) [(.var 1)])])])
            (.leaf (.ret (.pr (.cell 0) [(.app 22 [(.pr .row [(.pr (.cell 2) [(.var 0)]), (.pr (.cell 3) [(.var 0)]), (.pr (.cell 4) [(.var 0)])]), (.pr .row [(.pr (.cell 2) [(.var 1)]), (.pr (.cell 3) [(.var 1)]), (.pr (.cell 4) [(.var 1)])])])]))))
          (.ite (.pr (.icmp .eql) [(.pr (.cell 0) [(.var 0)]), (.lit (.int .i64 4))])
            (.ite (.pr (.icmp .lss) [(.pr (.cell 5) [(.var 0)]), (.pr (.cell 5) [(.var 1)])])
              (.leaf (.ret (.lit (.int .i64 (-1)))))
              (.ite (.pr (.icmp .gtr) [(.pr (.cell 5) [(.var 0)]), (.pr (.cell 5) [(.var 1)])])
                (.leaf (.ret (.lit (.int .i64 1))))
                (.leaf (.ret (.lit (.int .i64 0))))))
            (.ite (.pr (.icmp .eql) [(.pr (.cell 0) [(.var 0)]), (.lit (.int .i64 5))])
              (.giv (.app 1000 [(.pr (.cell 6) [(.var 0)]), (.pr (.cell 6) [(.var 1)])])
                (.leaf (.ret (.app 19 [(.pr (.cell 6) [(.var 0)]), (.pr (.cell 6) [(.var 1)])]))))
              (.ite (.pr (.icmp .eql) [(.pr (.cell 0) [(.var 0)]), (.lit (.int .i64 6))])
                (.giv (.app 1000 [(.pr (.cell 6) [(.var 0)]), (.pr (.cell 6) [(.var 1)])])
                  (.leaf (.ret (.app 19 [(.pr (.cell 6) [(.var 0)]), (.pr (.cell 6) [(.var 1)])]))))
                (.ite (.pr (.icmp .eql) [(.pr (.cell 0) [(.var 0)]), (.lit (.int .i64 8))])
                  (.giv (.app 1000 [(.pr .row [(.pr (.cell 0) [(.var 0)]), (.pr (.cell 1) [(.var 0)]), (.pr (.cell 2) [(.var 0)]), (.pr (.cell 3) [(.var 0)]), (.pr (.cell 4) [(.var 0)]), (.pr (.cell 5) [(.var 0)]), (.pr (.cell 6) [(.var 0)]), (.pr (.cell 7) [(.var 0)]), (.pr (.cell 8) [(.var 0)])])])
                    (.giv (.app 2023 [(.pr .row [(.pr (.cell 0) [(.var 0)]), (.pr (.cell 1) [(.var 0)]), (.pr (.cell 2) [(.var 0)]), (.pr (.cell 3) [(.var 0)]), (.pr (.cell 4) [(.var 0)]), (.pr (.cell 5) [(.var 0)]), (.pr (.cell 6) [(.var 0)]), (.pr (.cell 7) [(.var 0)]), (.pr (.cell 8) [(.var 0)])])])
                      (.giv (.app 1000 [(.pr .row [(.pr (.cell 0) [(.var 1)]), (.pr (.cell 1) [(.var 1)]), (.pr (.cell 2) [(.var 1)]), (.pr (.cell 3) [(.var 1)]), (.pr (.cell 4) [(.var 1)]), (.pr (.cell 5) [(.var 1)]), (.pr (.cell 6) [(.var 1)]), (.pr (.cell 7) [(.var 1)]), (.pr (.cell 8) [(.var 1)])])])
                        (.giv (.app 2023 [(.pr .row [(.pr (.cell 0) [(.var 1)]), (.pr (.cell 1) [(.var 1)]), (.pr (.cell 2) [(.var 1)]), (.pr (.cell 3) [(.var 1)]), (.pr (.cell 4) [(.var 1)]), (.pr (.cell 5) [(.var 1)]), (.pr (.cell 6) [(.var 1)]), (.pr (.cell 7) [(.var 1)]), (.pr (.cell 8) [(.var 1)])])])
                          (.giv (.app 1000 [(.app 23 [(.pr .row [(.pr (.cell 0) [(.var 0)]), (.pr (.cell 1) [(.var 0)]), (.pr (.cell 2) [(.var 0)]), (.pr (.cell 3) [(.var 0)]), (.pr (.cell 4) [(.var 0)]), (.pr (.cell 5) [(.var 0)]), (.pr (.cell 6) [(.var 0)]), (.pr (.cell 7) [(.var 0)]), (.pr (.cell 8) [(.var 0)])])]), (.app 23 [(.pr .row [(.pr (.cell 0) [(.var 1)]), (.pr (.cell 1) [(.var 1)]), (.pr (.cell 2) [(.var 1)]), (.pr (.cell 3) [(.var 1)]), (.pr (.cell 4) [(.var 1)]), (.pr (.cell 5) [(.var 1)]), (.pr (.cell 6) [(.var 1)]), (.pr (.cell 7) [(.var 1)]), (.pr (.cell 8) [(.var 1)])])]), (.pr .row [])])
                            (.giv (.app 2026 [(.app 23 [(.pr .row [(.pr (.cell 0) [(.var 0)]), (.pr (.cell 1) [(.var 0)]), (.pr (.cell 2) [(.var 0)]), (.pr (.cell 3) [(.var 0)]), (.pr (.cell 4) [(.var 0)]), (.pr (.cell 5) [(.var 0)]), (.pr (.cell 6) [(.var 0)]), (.pr (.cell 7) [(.var 0)]), (.pr (.cell 8) [(.var 0)])])]), (.app 23 [(.pr .row [(.pr (.cell 0) [(.var 1)]), (.pr (.cell 1) [(.var 1)]), (.pr (.cell 2) [(.var 1)]), (.pr (.cell 3) [(.var 1)]), (.pr (.cell 4) [(.var 1)]), (.pr (.cell 5) [(.var 1)]), (.pr (.cell 6) [(.var 1)]), (.pr (.cell 7) [(.var 1)]), (.pr (.cell 8) [(.var 1)])])]), (.pr .row [])])
                              (.leaf (.ret (.app 26 [(.app 23 [(.pr .row [(.pr (.cell 0) [(.var 0)]), (.pr (.cell 1) [(.var 0)]), (.pr (.cell 2) [(.var 0)]), (.pr (.cell 3) [(.var 0)]), (.pr (.cell 4) [(.var 0)]), (.pr (.cell 5) [(.var 0)]), (.pr (.cell 6) [(.var 0)]), (.pr (.cell 7) [(.var 0)]), (.pr (.cell 8) [(.var 0)])])]), (.app 23 [(.pr .row [(.pr (.cell 0) [(.var 1)]), (.pr (.cell 1) [(.var 1)]), (.pr (.cell 2) [(.var 1)]), (.pr (.cell 3) [(.var 1)]), (.pr (.cell 4) [(.var 1)]), (.pr (.cell 5) [(.var 1)]), (.pr (.cell 6) [(.var 1)]), (.pr (.cell 7) [(.var 1)]), (.pr (.cell 8) [(.var 1)])])]), (.pr .row [])])))))))))
                  (.ite (.pr (.icmp .eql) [(.pr (.cell 0) [(.var 0)]), (.lit (.int .i64 9))])
                    (.giv (.app 1000 [(.pr (.cell 6) [(.var 0)]), (.pr (.cell 6) [(.var 1)])])
                      (.ite (.pr (.icmp .neq) [(.app 19 [(.pr (.cell 6) [(.var 0)]), (.pr (.cell 6) [(.var 1)])]), (.lit (.int .i64 0))])
                        (.leaf (.ret (.app 19 [(.pr (.cell 6) [(.var 0)]), (.pr (.cell 6) [(.var 1)])])))
                        (.giv (.app 1000 [(.pr (.cell 8) [(.var 0)]), (.pr (.cell 8) [(.var 1)]), (.pr .row [])])
                          (.giv (.app 2025 [(.pr (.cell 8) [(.var 0)]), (.pr (.cell 8) [(.var 1)]), (.pr .row [])])
                            (.leaf (.ret (.app 25 [(.pr (.cell 8) [(.var 0)]), (.pr (.cell 8) [(.var 1)]), (.pr .row [])])))))))
                    (.giv (.app 1000 [(.pr (.cell 8) [(.var 0)]), (.pr (.cell 8) [(.var 1)]), (.pr .row [])])
                      (.giv (.app 2025 [(.pr (.cell 8) [(.var 0)]), (.pr (.cell 8) [(.var 1)]), (.pr .row [])])
                        (.leaf (.ret (.app 25 [(.pr (.cell 8) [(.var 0)]), (.pr (.cell 8) [(.var 1)]), (.pr .row [])]))))))))))))))
def trees_order : List Tree := []
noncomputable def deps_order : List Sig := [q_numcmp, q_scmp, q_pairs, q_rowsV, q_rowsP]
theorem ok_order : check q_order deps_order heads_order entry_order trees_order = true := by kernel_rfl
theorem sz_zip (v : Val) : (pairsD (v.names.zip v.list)).sz + 8 ≤ v.toD.sz := by
  rw [sz_toD, sz_strs, sz_lst, sz_lst]
  have : ∀ (ns : List ByteArray) (l : List Val), D.szL ((ns.zip l).map pairD) ≤ ns.length + D.szL (l.map Val.toD) := by
    intro ns
    induction ns with
    | nil => intro l; rw [List.zip_nil_left, List.map_nil]; simp only [D.szL]; omega
    | cons s r ih =>
      intro l
      cases l with
      | nil => rw [List.zip_nil_right, List.map_nil]; simp only [D.szL]; omega
      | cons v l =>
        rw [List.zip_cons_cons, List.map_cons, List.map_cons, szL_cons, szL_cons, sz_pairD, List.length_cons]
        have := ih l
        show v.toD.sz + 1 + _ ≤ _
        omega
  have := this v.names v.list
  omega
theorem order_step (n : Nat) (ih : @Ok (I n) q_order (@okS (I n) n q_order.g)) : @Ok (I n) q_order (@okS (I n) (n + 1) q_order.g) := by
  letI := I n
  refine fn_okS (hphi n) ok_order (by
    intro q hq
    simp only [deps_order, List.mem_cons, List.not_mem_nil, or_false] at hq
    rcases hq with rfl | rfl | rfl | rfl | rfl
    · exact okS_of (numcmp_ok n)
    · exact okS_of (scmp_ok n)
    · exact pairs_ok n
    · exact rowsV_ok n ih
    · exact rowsP_ok n ih) (fun _ _ _ => False) (fun _ _ => 0) ?_ (fun j h t d ds hj => by simp [heads_order] at hj)
  intro ds hf hp
  obtain ⟨a, b, rfl⟩ := two_val hf
  obtain ⟨g1, g2⟩ := (pre_order n a b).1 (hp.2 rfl)
  obtain ⟨h1, h2, h3⟩ := okD_two.1 hp.1
  obtain ⟨l1, l2, l3, l4⟩ := (lim_toD a).1 h2
  obtain ⟨m1, m2, m3, m4⟩ := (lim_toD b).1 h3
  have za := sz_zip a
  have zb := sz_zip b
  have e1 := sz_toD a
  have e2 := sz_toD b
  have o0 : okD n [a.toD] := okD_one.2 ⟨by omega, h2⟩
  have o0' : okD n [b.toD] := okD_one.2 ⟨by omega, h3⟩
  have o1 : okD n [.row [bD a.neg, sD a.dig, iD a.exp], .row [bD b.neg, sD b.dig, iD b.exp]] := okD_two.2 ⟨by simp only [D.sz, D.szL]; have := D.sz_pos (strsD a.names); have := D.sz_pos (valsD a.list); have := D.sz_pos (strsD b.names); have := D.sz_pos (valsD b.list); omega, by simp only [D.Lim, D.LimL, and_true, true_and]; exact l1, by simp only [D.Lim, D.LimL, and_true, true_and]; exact m1⟩
  have o2 : okD n [sD a.text, sD b.text] := okD_two.2 ⟨by rw [sz_sD, sz_sD]; omega, lim_sD.2 l2, lim_sD.2 m2⟩
  have o3 : okD n [valsD a.list, valsD b.list, .row []] := okD_three.2 ⟨by rw [sz_nilrow]; omega, l4, m4, lim_nilrow⟩
  have lz : ∀ v : Val, (strsD v.names).Lim → (valsD v.list).Lim → (pairsD (v.names.zip v.list)).Lim := fun v k1 k2 => by
    obtain ⟨k1, k3⟩ := lim_strs.1 k1
    obtain ⟨k2, k4⟩ := lim_vals.1 k2
    refine lim_pairs.2 ⟨by rw [List.length_zip]; omega, fun p hp => ⟨k3 _ (zip_mem hp).1, k4 _ (zip_mem hp).2⟩⟩
  have o4 : okD n [pairsD (a.names.zip a.list), pairsD (b.names.zip b.list), .row []] := okD_three.2 ⟨by rw [sz_nilrow]; omega, lz a l3 l4, lz b m3 m4, lim_nilrow⟩
  have q1 := fun x => @good_mem a x g1
  have q2 := fun x => @good_mem b x g2
  have q3 : ∀ p, p ∈ a.names.zip a.list → good p.2 = true := fun p hp => q1 p.2 (zip_mem hp).2
  have q4 : ∀ p, p ∈ b.names.zip b.list → good p.2 = true := fun p hp => q2 p.2 (zip_mem hp).2
  have r1 : a.kind = 8 → a.names.length = a.list.length ∧ a.list.length ≤ 256 := fun h => ⟨(formed_parts (good_iff.1 g1).1).2.1 h, (short_parts (good_iff.1 g1).2).1⟩
  have r2 : b.kind = 8 → b.names.length = b.list.length ∧ b.list.length ≤ 256 := fun h => ⟨(formed_parts (good_iff.1 g2).1).2.1 h, (short_parts (good_iff.1 g2).2).1⟩
  simp only [entry_order, q_order, Tree.holds, Out.den, E.den, E.denL, envOf_zero, envOf_succ, den_add, den_sub, den_mul, den_quo, den_rem, den_ieql, den_ineq, den_lss, den_leq, den_gtr, den_geq, den_seql, den_sneq, den_slss, den_beql, den_bneq, den_not, den_neg, den_conv, den_slen, den_sat, den_ssub, den_scat, den_len, den_at, den_cell, den_row, den_lst, den_cat, den_ite, den_and, den_mhas, den_mget, den_mset, ofBool_bD, bD_true, rows_lst, cells_row, int_v, bool_v, str_v, rows_strs, at_0, at_1, at_2, at_3, at_4, at_5, at_6, at_7, at_8, toD_put, strD_at, ltI_t, leI_t, eqI_t, eqS_t, ltI_f, leI_f, eqI_f, eqS_f, Bool.not_eq_true', Bool.not_eq_false', List.getD_cons_zero, List.getD_cons_succ, true_and, and_true, List.length_map, phi_1000, phi_numcmp, phi_scmp, phi_pairs, phi_rowsV, phi_rowsP, phi_order, pre_pairs, pre_rowsV, pre_rowsP, o0, o0', o1, o2, o3, o4, row_at0, beq_iff_eq]
  rw [orderV_eq]
  unfold cmpZ
  have q1' : (∀ x, x ∈ a.list → good x = true) ∧ ∀ x, x ∈ b.list → good x = true := ⟨q1, q2⟩
  have q3' : (∀ x, x ∈ a.names.zip a.list → good x.2 = true) ∧ ∀ x, x ∈ b.names.zip b.list → good x.2 = true := ⟨q3, q4⟩
  clear hf hp h1 h2 h3 l1 l2 l3 l4 m1 m2 m3 m4 za zb e1 e2 o0 o0' o1 o2 o3 o4 lz g1 g2 ih
  generalize rowsG orderV a.list b.list = X1
  generalize rowsG (pairC orderV) _ _ = X2
  generalize cmpS a.text b.text = X3
  generalize (numcmpV _ _ _ _ _ _).1 = X4
  generalize a.kind = k at *
  generalize b.kind = k' at *
  by_cases c1 : k < k'
  · simp only [c1, if_true, true_implies, not_true_eq_false, false_implies, and_true]
  by_cases c2 : k' < k
  · simp only [c1, c2, if_true, if_false, true_implies, not_true_eq_false, not_false_eq_true, false_implies, and_true, true_and]
  obtain rfl : k = k' := by omega
  simp only [c1, c2, if_false, false_implies, not_false_eq_true, true_implies, true_and]
  by_cases e2 : k = 2
  · subst e2; generalize a.flag = f at *; generalize b.flag = f' at *; clear r1 r2 q1 q2 q3 q4 q1' q3'; cases f <;> cases f' <;> simp
  simp only [e2, if_false, false_implies, not_false_eq_true, true_implies, true_and]
  by_cases e3 : k = 3
  · subst e3; simp
  simp only [e3, if_false, false_implies, not_false_eq_true, true_implies, true_and]
  by_cases e4 : k = 4
  · subst e4; clear r1 r2 q1 q2 q3 q4 q1' q3'; grind
  simp only [e4, if_false, false_implies, not_false_eq_true, true_implies, true_and]
  by_cases e5 : k = 5
  · subst e5; simp
  simp only [e5, if_false, false_implies, not_false_eq_true, true_implies, true_and]
  by_cases e6 : k = 6
  · subst e6; simp
  simp only [e6, if_false, false_implies, not_false_eq_true, true_implies, true_and]
  by_cases e8 : k = 8
  · subst e8
    have r1 := r1 rfl
    have r2 := r2 rfl
    refine ⟨fun _ => ⟨r1, r2, q3', rfl⟩, fun h => absurd rfl h⟩
  simp only [e8, if_false, false_implies, not_false_eq_true, true_implies, true_and]
  by_cases e9 : k = 9
  · subst e9
    simp only [if_true, not_true_eq_false, false_implies, true_implies, and_true]
    refine ⟨fun h => by rw [if_neg h], fun h => ⟨q1', by rw [if_pos h]⟩⟩
  · simp only [e9, if_false, false_implies, not_false_eq_true, true_implies, true_and, and_true]
    exact q1'
theorem order_ok : ∀ (n : Nat), @Ok (I n) q_order (@okS (I n) n q_order.g)
  | 0 => fun W J vs ds hL hI ha hp => absurd hp.1.1 (Nat.not_lt_zero _)
  | n + 1 => ok_irrel (by decide) (order_step n (order_ok n))
end Go.Proofs.YtaeeblcdggjokaaDoor.Vk
