/- Contracts: value.order, value.Cmp. -/
import Derived.Test.YtaeeblcdggjokaaGreatDoorMd
namespace Go.Proofs.YtaeeblcdggjokaaGreatDoor.Vk
open Go Go.Ab Go.RowKit
set_option maxRecDepth 100000
set_option linter.unusedVariables false
set_option linter.unusedSimpArgs false
set_option linter.unusedSectionVars false
set_option linter.constructorNameAsVariable false
/-! ### Good values -/
theorem good_iff {v : Val} : good v = true ↔ formedV v = true ∧ shortV v = true := by unfold good; rw [Bool.and_eq_true]
theorem formedL_all : ∀ (l : List Val) (i : Nat), formedL l i < 0 → ∀ x, x ∈ l → formedV x = true
  | [], _, _, x, hx => by cases hx
  | v :: r, i, h, x, hx => by
    rw [formedL] at h
    cases hv : formedV v with
    | false => rw [hv] at h; simp only [Bool.false_eq_true, if_false] at h; omega
    | true =>
      rw [hv, if_pos rfl] at h
      rcases List.mem_cons.1 hx with rfl | hx
      · exact hv
      · exact formedL_all r (i + 1) h x hx
theorem shortL_all : ∀ (l : List Val) (i : Nat), ¬ shortL l i ≥ 0 → ∀ x, x ∈ l → shortV x = true
  | [], _, _, x, hx => by cases hx
  | v :: r, i, h, x, hx => by
    rw [shortL] at h
    cases hv : shortV v with
    | false => rw [hv] at h; simp only [Bool.false_eq_true, if_false] at h; omega
    | true =>
      rw [hv, if_pos rfl] at h
      rcases List.mem_cons.1 hx with rfl | hx
      · exact hv
      · exact shortL_all r (i + 1) h x hx
theorem short_parts {v : Val} (h : shortV v = true) : v.list.length ≤ 256 ∧ ∀ x, x ∈ v.list → shortV x = true := by
  cases v with
  | mk k f ng d e b t ns l =>
    rw [shortV] at h
    have h1 : ¬ (t.size : Int) > (if k = 9 then 64 else 4096) := fun c => by rw [if_pos c] at h; cases h
    rw [if_neg h1] at h
    have h2 : ¬ (l.length : Int) > 256 := fun c => by rw [if_pos c] at h; cases h
    rw [if_neg h2] at h
    have h3 : ¬ ixL (fun s : ByteArray => decide ((s.size : Int) > 64)) ns 0 ≥ 0 := fun c => by rw [if_pos c] at h; cases h
    rw [if_neg h3] at h
    refine ⟨by show l.length ≤ 256; omega, shortL_all l 0 ?_⟩
    simpa using h
theorem formed_parts {v : Val} (h : formedV v = true) : (∀ x, x ∈ v.list → formedV x = true) ∧ (v.kind = 8 → v.names.length = v.list.length) ∧ (v.kind = 3 → numV v.neg v.dig v.exp = 0) := by
  cases v with
  | mk k f ng d e b t ns l =>
    obtain ⟨k1, k2, k3, k4, k5, k6, k7, k8, k9, k0⟩ := formedV_iff k f ng d e b t ns l
    simp only [Val.list, Val.names, Val.kind, Val.neg, Val.dig, Val.exp]
    have z : l.length = 0 → ∀ x, x ∈ l → formedV x = true := fun h x hx => by rw [List.length_eq_zero_iff.1 h] at hx; cases hx
    have a := formedL_all l 0
    by_cases e1 : k = 1
    · obtain ⟨_, _, _, _, _, g⟩ := (k1 e1).1 h; exact ⟨z g, fun h => by omega, fun h => by omega⟩
    by_cases e2 : k = 2
    · obtain ⟨_, _, _, _, g⟩ := (k2 e2).1 h; exact ⟨z g, fun h => by omega, fun h => by omega⟩
    by_cases e3 : k = 3
    · obtain ⟨n, _, _, _, _, g⟩ := (k3 e3).1 h; exact ⟨z g, fun h => by omega, fun _ => n⟩
    by_cases e4 : k = 4
    · obtain ⟨_, _, _, _, g⟩ := (k4 e4).1 h; exact ⟨z g, fun h => by omega, fun h => by omega⟩
    by_cases e5 : k = 5
    · obtain ⟨_, _, _, _, _, g⟩ := (k5 e5).1 h; exact ⟨z g, fun h => by omega, fun h => by omega⟩
    by_cases e6 : k = 6
    · obtain ⟨_, _, _, _, g⟩ := (k6 e6).1 h; exact ⟨z g, fun h => by omega, fun h => by omega⟩
    by_cases e7 : k = 7
    · obtain ⟨_, _, _, _, _, g⟩ := (k7 e7).1 h; exact ⟨a g, fun h => by omega, fun h => by omega⟩
    by_cases e8 : k = 8
    · obtain ⟨n, _, _, _, _, _, g⟩ := (k8 e8).1 h; exact ⟨a g, fun _ => n, fun h => by omega⟩
    by_cases e9 : k = 9
    · obtain ⟨_, _, _, _, _, _, g⟩ := (k9 e9).1 h; exact ⟨a g, fun h => by omega, fun h => by omega⟩
    · rw [k0 e1 e2 e3 e4 e5 e6 e7 e8 e9] at h; cases h
theorem good_mem {v x : Val} (h : good v = true) (hx : x ∈ v.list) : good x = true :=
  good_iff.2 ⟨(formed_parts (good_iff.1 h).1).1 x hx, (short_parts (good_iff.1 h).2).2 x hx⟩
theorem zip_mem {ns : List ByteArray} {l : List Val} {p : ByteArray × Val} (h : p ∈ ns.zip l) : p.1 ∈ ns ∧ p.2 ∈ l := List.of_mem_zip h
/-! ### Rows -/
theorem rowsG_congr {α : Type} {c c' : α → α → Int} : ∀ (l m : List α), (∀ x, x ∈ l → ∀ y, c x y = c' x y) → rowsG c l m = rowsG c' l m
  | [], [], _ => rfl
  | [], _ :: _, _ => rfl
  | _ :: _, [], _ => rfl
  | x :: r, y :: t, h => by
    rw [rowsG, rowsG, h x (List.mem_cons_self ..) y, rowsG_congr r t fun z hz => h z (List.mem_cons_of_mem _ hz)]
theorem hgt_mem : ∀ {l : List Val} {x : Val}, x ∈ l → hgt x ≤ hgts l
  | v :: r, x, h => by
    rw [hgts]
    rcases List.mem_cons.1 h with rfl | h
    · omega
    · have := hgt_mem h; omega
theorem hgt_eq (v : Val) : hgt v = hgts v.list + 1 := by cases v; rw [hgt]; rfl
theorem orderF_more : ∀ (n m : Nat) (a b : Val), hgt a ≤ n → hgt a ≤ m → orderF n a b = orderF m a b
  | 0, _, a, b, h, _ => by rw [hgt_eq] at h; omega
  | _ + 1, 0, a, b, _, h => by rw [hgt_eq] at h; omega
  | n + 1, m + 1, a, b, h, k => by
    rw [hgt_eq] at h k
    have e : ∀ x, x ∈ a.list → ∀ y, orderF n x y = orderF m x y := fun x hx y => orderF_more n m x y (by have := hgt_mem hx; omega) (by have := hgt_mem hx; omega)
    have e1 : rowsG (orderF n) a.list b.list = rowsG (orderF m) a.list b.list := rowsG_congr _ _ e
    have e2 : rowsG (pairC (orderF n)) (a.names.zip a.list) (b.names.zip b.list) = rowsG (pairC (orderF m)) (a.names.zip a.list) (b.names.zip b.list) :=
      rowsG_congr _ _ fun p hp q => by unfold pairC; rw [e p.2 (zip_mem hp).2 q.2]
    rw [orderF, orderF, e1, e2]
/-- The order by its parts. -/
theorem orderV_eq (a b : Val) : orderV a b =
    if a.kind < b.kind then -1 else if b.kind < a.kind then 1 else
    if a.kind = 2 then (if a.flag = b.flag then 0 else if b.flag then -1 else 1)
    else if a.kind = 3 then (numcmpV a.neg a.dig a.exp b.neg b.dig b.exp).1
    else if a.kind = 4 then cmpZ a.bits b.bits
    else if a.kind = 5 then cmpS a.text b.text
    else if a.kind = 6 then cmpS a.text b.text
    else if a.kind = 8 then rowsG (pairC orderV) (a.names.zip a.list) (b.names.zip b.list)
    else if a.kind = 9 then (if cmpS a.text b.text = 0 then rowsG orderV a.list b.list else cmpS a.text b.text)
    else rowsG orderV a.list b.list := by
  have e : ∀ x, x ∈ a.list → ∀ y, orderF (hgts a.list) x y = orderV x y := fun x hx y => orderF_more _ _ _ _ (hgt_mem hx) (Nat.le_refl _)
  have e1 : rowsG (orderF (hgts a.list)) a.list b.list = rowsG orderV a.list b.list := rowsG_congr _ _ e
  have e2 : rowsG (pairC (orderF (hgts a.list))) (a.names.zip a.list) (b.names.zip b.list) = rowsG (pairC orderV) (a.names.zip a.list) (b.names.zip b.list) :=
    rowsG_congr _ _ fun p hp q => by unfold pairC; rw [e p.2 (zip_mem hp).2 q.2]
  show orderF (hgt a) a b = _
  rw [hgt_eq, orderF, e1, e2]
theorem rowsG_end {α : Type} {c : α → α → Int} {a b : List α} {i : Nat} (h : a.length ≤ i ∨ b.length ≤ i) (ha : i ≤ a.length) (hb : i ≤ b.length) : rowsG c (a.drop i) (b.drop i) = cmpZ a.length b.length := by
  unfold cmpZ
  rcases Nat.lt_trichotomy a.length b.length with h1 | h1 | h1
  · rw [if_pos (by omega), List.drop_eq_nil_of_le (by omega)]
    obtain ⟨y, _, _, hy⟩ := drop_get (show i < b.length by omega)
    rw [hy]; rfl
  · rw [if_neg (by omega), if_neg (by omega), List.drop_eq_nil_of_le (by omega), List.drop_eq_nil_of_le (by omega)]; rfl
  · rw [if_neg (by omega), if_pos (by omega), List.drop_eq_nil_of_le (show b.length ≤ i by omega)]
    obtain ⟨y, _, _, hy⟩ := drop_get (show i < a.length by omega)
    rw [hy]; rfl
theorem shP : (kn [] tb).shape 83 = .sc .s :: valCT 33 9 := rfl
theorem pairs2_fn {f : Nat} {d : List D} (h : FitL tb [.cell (.sl 83), .cell (.sl 83), .fn f []] d) : ∃ a b : List (ByteArray × Val), d = [pairsD a, pairsD b, .row []] := by
  match d, h with
  | [x, y, z], ⟨h1, h2, h3, _⟩ =>
    obtain ⟨a, rfl⟩ := fits_pairs shP shV shS h1
    obtain ⟨b, rfl⟩ := fits_pairs shP shV shS h2
    rw [fit_fn h3]
    exact ⟨a, b, rfl⟩
theorem sz_pairs_mem {l : List (ByteArray × Val)} {p : ByteArray × Val} (h : p ∈ l) : (pairD p).sz < (pairsD l).sz := by
  rw [sz_lst]
  have := szL_mem (List.mem_map_of_mem (f := pairD) h)
  omega
theorem lim_pairs {l : List (ByteArray × Val)} : (pairsD l).Lim ↔ l.length ≤ lim ∧ ∀ p, p ∈ l → p.1.size ≤ lim ∧ p.2.toD.Lim := by
  rw [lim_lst, List.length_map, limL_map]
  simp only [lim_pairD]
/-- calamus/value.rows[calamus/api.Value]: func 84, params [31, 31, 62], ntmps 36. -/
-- head 0 of loop 0: [t0 .sh (.cell (.sl 33)), t1 .sh (.cell (.sl 33)), t2 .sh (.fn 49 []), t13 .sh (.cell (.sc (.i .i64))), t14 .sh (.cell (.sc (.i .i64)))]
def heads_rowsV : List Hd := [⟨0, [.sh (.cell (.sl 33)), .sh (.cell (.sl 33)), .sh (.fn 49 []), .any, .any, .any, .any, .any, .any, .any, .any, .any, .any, .sh (.cell (.sc (.i .i64))), .sh (.cell (.sc (.i .i64))), .any, .any, .any, .any, .any, .any, .any, .any, .any, .any, .any, .any, .any, .any, .any, .any, .any, .any, .any, .any, .any]⟩]
def entry_rowsV : Tree :=
 (.leaf (.go 0 [(.var 0), (.var 1), (.pr .row []), (.pr .ite [(.pr (.icmp .lss) [(.pr .len [(.var 1)]), (.pr .len [(.var 0)])]), (.pr .len [(.var 1)]), (.pr .len [(.var 0)])]), (.lit (.int .i64 0))]))
def head_rowsV_0 : Tree :=
 (.ite (.pr (.icmp .lss) [(.var 4), (.var 3)])
 (.giv (.pr (.icmp .leq) [(.lit (.int .i64 0)), (.var 4)])
 (.giv (.pr (.icmp .lss) [(.var 4), (.pr .len [(.var 0)])])
 (.giv (.pr (.icmp .lss) [(.var 4), (.pr .len [(.var 1)])])
 (.giv (.app 1000 [(.pr .row [(.pr (.cell 0) [(.pr .at [(.var 0), (.var 4)])]), (.pr (.cell 1) [(.pr .at [(.var 0), (.var 4)])]), (.pr (.cell 2) [(.pr .at [(.var 0), (.var 4)])]), (.pr (.cell 3) [(.pr .at [(.var 0), (.var 4)])]), (.pr (.cell 4) [(.pr .at [(.var 0), (.var 4)])]), (.pr (.cell 5) [(.pr .at [(.var 0), (.var 4)])]), (.pr (.cell 6) [(.pr .at [(.var 0), (.var 4)])]), (.pr (.cell 7) [(.pr .at [(.var 0), (.var 4)])]), (.pr (.cell 8) [(.pr .at [(.var 0), (.var 4)])])]), (.pr .row [(.pr (.cell 0) [(.pr .at [(.var 1), (.var 4)])]), (.pr (.cell 1) [(.pr .at [(.var 1), (.var 4)])]), (.pr (.cell 2) [(.pr .at [(.var 1), (.var 4)])]), (.pr (.cell 3) [(.pr .at [(.var 1), (.var 4)])]), (.pr (.cell 4) [(.pr .at [(.var 1), (.var 4)])]), (.pr (.cell 5) [(.pr .at [(.var 1), (.var 4)])]), (.pr (.cell 6) [(.pr .at [(.var 1), (.var 4)])]), (.pr (.cell 7) [(.pr .at [(.var 1), (.var 4)])]), (.pr (.cell 8) [(.pr .at [(.var 1), (.var 4)])])])])
 (.giv (.app 2024 [(.pr .row [(.pr (.cell 0) [(.pr .at [(.var 0), (.var 4)])]), (.pr (.cell 1) [(.pr .at [(.var 0), (.var 4)])]), (.pr (.cell 2) [(.pr .at [(.var 0), (.var 4)])]), (.pr (.cell 3) [(.pr .at [(.var 0), (.var 4)])]), (.pr (.cell 4) [(.pr .at [(.var 0), (.var 4)])]), (.pr (.cell 5) [(.pr .at [(.var 0), (.var 4)])]), (.pr (.cell 6) [(.pr .at [(.var 0), (.var 4)])]), (.pr (.cell 7) [(.pr .at [(.var 0), (.var 4)])]), (.pr (.cell 8) [(.pr .at [(.var 0), (.var 4)])])]), (.pr .row [(.pr (.cell 0) [(.pr .at [(.var 1), (.var 4)])]), (.pr (.cell 1) [(.pr .at [(.var 1), (.var 4)])]), (.pr (.cell 2) [(.pr .at [(.var 1), (.var 4)])]), (.pr (.cell 3) [(.pr .at [(.var 1), (.var 4)])]), (.pr (.cell 4) [(.pr .at [(.var 1), (.var 4)])]), (.pr (.cell 5) [(.pr .at [(.var 1), (.var 4)])]), (.pr (.cell 6) [(.pr .at [(.var 1), (.var 4)])]), (.pr (.cell 7) [(.pr .at [(.var 1), (.var 4)])]), (.pr (.cell 8) [(.pr .at [(.var 1), (.var 4)])])])])
 (.ite (.pr (.icmp .neq) [(.app 24 [(.pr .row [(.pr (.cell 0) [(.pr .at [(.var 0), (.var 4)])]), (.pr (.cell 1) [(.pr .at [(.var 0), (.var 4)])]), (.pr (.cell 2) [(.pr .at [(.var 0), (.var 4)])]), (.pr (.cell 3) [(.pr .at [(.var 0), (.var 4)])]), (.pr (.cell 4) [(.pr .at [(.var 0), (.var 4)])]), (.pr (.cell 5) [(.pr .at [(.var 0), (.var 4)])]), (.pr (.cell 6) [(.pr .at [(.var 0), (.var 4)])]), (.pr (.cell 7) [(.pr .at [(.var 0), (.var 4)])]), (.pr (.cell 8) [(.pr .at [(.var 0), (.var 4)])])]), (.pr .row [(.pr (.cell 0) [(.pr .at [(.var 1), (.var 4)])]), (.pr (.cell 1) [(.pr .at [(.var 1), (.var 4)])]), (.pr (.cell 2) [(.pr .at [(.var 1), (.var 4)])]), (.pr (.cell 3) [(.pr .at [(.var 1), (.var 4)])]), (.pr (.cell 4) [(.pr .at [(.var 1), (.var 4)])]), (.pr (.cell 5) [(.pr .at [(.var 1), (.var 4)])]), (.pr (.cell 6) [(.pr .at [(.var 1), (.var 4)])]), (.pr (.cell 7) [(.pr .at [(.var 1), (.var 4)])]), (.pr (.cell 8) [(.pr .at [(.var 1), (.var 4)])])])]), (.lit (.int .i64 0))])
 (.leaf (.ret (.app 24 [(.pr .row [(.pr (.cell 0) [(.pr .at [(.var 0), (.var 4)])]), (.pr (.cell 1) [(.pr .at [(.var 0), (.var 4)])]), (.pr (.cell 2) [(.pr .at [(.var 0), (.var 4)])]), (.pr (.cell 3) [(.pr .at [(.var 0), (.var 4)])]), (.pr (.cell 4) [(.pr .at [(.var 0), (.var 4)])]), (.pr (.cell 5) [(.pr .at [(.var 0), (.var 4)])]), (.pr (.cell 6) [(.pr .at [(.var 0), (.var 4)])]), (.pr (.cell 7) [(.pr .at [(.var 0), (.var 4)])]), (.pr (.cell 8) [(.pr .at [(.var 0), (.var 4)])])]), (.pr .row [(.pr (.cell 0) [(.pr .at [(.var 1), (.var 4)])]), (.pr (.cell 1) [(.pr .at [(.var 1), (.var 4)])]), (.pr (.cell 2) [(.pr .at [(.var 1), (.var 4)])]), (.pr (.cell 3) [(.pr .at [(.var 1), (.var 4)])]), (.pr (.cell 4) [(.pr .at [(.var 1), (.var 4)])]), (.pr (.cell 5) [(.pr .at [(.var 1), (.var 4)])]), (.pr (.cell 6) [(.pr .at [(.var 1), (.var 4)])]), (.pr (.cell 7) [(.pr .at [(.var 1), (.var 4)])]), (.pr (.cell 8) [(.pr .at [(.var 1), (.var 4)])])])])))
 (.leaf (.go 0 [(.var 0), (.var 1), (.pr .row []), (.var 3), (.pr (.iop .add .i64) [(.var 4), (.lit (.int .i64 1))])]))))))))
 (.ite (.pr (.icmp .lss) [(.pr .len [(.var 0)]), (.pr .len [(.var 1)])])
 (.leaf (.ret (.lit (.int .i64 (-1)))))
 (.ite (.pr (.icmp .gtr) [(.pr .len [(.var 0)]), (.pr .len [(.var 1)])])
 (.leaf (.ret (.lit (.int .i64 1))))
 (.leaf (.ret (.lit (.int .i64 0)))))))
def trees_rowsV : List Tree := [head_rowsV_0]
noncomputable def deps_rowsV : List Sig := [q_order]
theorem ok_rowsV : check q_rowsV deps_rowsV heads_rowsV entry_rowsV trees_rowsV = true := by kernel_rfl
theorem rowsV_ok (n : Nat) (ih : @Ok (I n) q_order (@okS (I n) n q_order.g)) : @Ok (I n) q_rowsV (@okS (I n) n q_rowsV.g) := by
  letI := I n
  refine fn_okS (hphi n) ok_rowsV (by intro q hq; simp only [deps_rowsV, List.mem_singleton] at hq; subst hq; exact ih)
    (fun _ d ds => ∃ (a b : List Val) (i m : Nat), ds = [valsD a, valsD b, .row [], iD m, iD i] ∧ i ≤ m ∧ m ≤ a.length ∧ m ≤ b.length ∧ (a.length ≤ m ∨ b.length ≤ m) ∧ m ≤ lim ∧ (∀ x y, x ∈ a → y ∈ b → okD n [x.toD, y.toD] ∧ good x = true ∧ good y = true) ∧ d = iD (rowsG orderV (a.drop i) (b.drop i)))
    (fun _ ds => (ds.getD 3 .nil).int.toNat - (ds.getD 4 .nil).int.toNat) ?_ ?_
  · intro ds hf hp
    obtain ⟨a, b, rfl⟩ := vals2_fn hf
    obtain ⟨g1, g2⟩ := (pre_rowsV n a b _).1 (hp.2 rfl)
    obtain ⟨h1, h2, h3, _⟩ := okD_three.1 hp.1
    obtain ⟨h2, h4⟩ := lim_vals.1 h2
    obtain ⟨h3, h5⟩ := lim_vals.1 h3
    simp only [entry_rowsV, q_rowsV, Tree.holds, Out.den, E.den, E.denL, den1, den2, den3, den4, den5, den6, den7, den8, Bool.not_eq_true', Bool.not_eq_false', List.getD_cons_zero, List.getD_cons_succ, true_and, and_true, List.length_map, phi_1000, phi_rowsV, bif_iD]
    refine ⟨a, b, 0, min a.length b.length, ?_, Nat.zero_le _, Nat.min_le_left .., Nat.min_le_right .., by omega, by omega, fun x y hx hy => ⟨okD_two.2 ⟨?_, h4 x hx, h5 y hy⟩, g1 x hx, g2 y hy⟩, rfl⟩
    · have : (if (b.length : Int) < a.length then (b.length : Int) else a.length) = ((min a.length b.length : Nat) : Int) := by split <;> omega
      rw [this]; rfl
    · have := sz_vals_mem hx
      have := sz_vals_mem hy
      omega
  · rintro j h t d ds hj ht hf ⟨a, b, i, m, rfl, hi, hma, hmb, hm, hl, hs, rfl⟩
    obtain rfl : t = head_rowsV_0 := by
      match j, ht with
      | 0, ht => exact (Option.some.inj ht).symm
    by_cases hlt : i < m
    · obtain ⟨x, hx, hxm, hd⟩ := drop_get (show i < a.length by omega)
      obtain ⟨y, hy, hym, hd'⟩ := drop_get (show i < b.length by omega)
      simp only [head_rowsV_0, Tree.holds, Out.den, E.den, E.denL, den1, den2, den3, den4, den5, den6, den7, den8, Bool.not_eq_true', Bool.not_eq_false', List.getD_cons_zero, List.getD_cons_succ, true_and, and_true, List.length_map, phi_1000, rowAt_map hx, rowAt_map hy, phi_order, pre_order, wrap_succ hlt hl]
      obtain ⟨k1, k2, k3⟩ := hs x y hxm hym
      rw [hd, hd', rowsG]
      refine ⟨fun _ => ⟨by omega, by omega, by omega, k1, ⟨k2, k3⟩, fun hb => ?_, fun hb => ⟨⟨a, b, i + 1, m, rfl, hlt, hma, hmb, hm, hl, hs, ?_⟩, by omega⟩⟩, fun h => by omega⟩
      · rw [if_neg hb]
      · rw [if_pos hb]
    · simp only [head_rowsV_0, Tree.holds, Out.den, E.den, E.denL, den1, den2, den3, den4, den5, den6, den7, den8, Bool.not_eq_true', Bool.not_eq_false', List.getD_cons_zero, List.getD_cons_succ, true_and, and_true, List.length_map, phi_1000]
      rw [rowsG_end (by omega) (by omega) (by omega)]
      unfold cmpZ
      refine ⟨fun h => by omega, fun _ => ⟨fun h => ?_, fun h => ⟨fun h' => ?_, fun h' => ?_⟩⟩⟩
      · rw [if_pos h]
      · rw [if_neg h, if_pos h']
      · rw [if_neg h, if_neg h']
/-- calamus/value.rows[calamus/value.pair]: func 81, params [84, 84, 86], ntmps 36. -/
-- head 0 of loop 0: [t0 .sh (.cell (.sl 83)), t1 .sh (.cell (.sl 83)), t2 .sh (.fn 83 []), t13 .sh (.cell (.sc (.i .i64))), t14 .sh (.cell (.sc (.i .i64)))]
def heads_rowsP : List Hd := [⟨0, [.sh (.cell (.sl 83)), .sh (.cell (.sl 83)), .sh (.fn 83 []), .any, .any, .any, .any, .any, .any, .any, .any, .any, .any, .sh (.cell (.sc (.i .i64))), .sh (.cell (.sc (.i .i64))), .any, .any, .any, .any, .any, .any, .any, .any, .any, .any, .any, .any, .any, .any, .any, .any, .any, .any, .any, .any, .any]⟩]
def entry_rowsP : Tree :=
 (.leaf (.go 0 [(.var 0), (.var 1), (.pr .row []), (.pr .ite [(.pr (.icmp .lss) [(.pr .len [(.var 1)]), (.pr .len [(.var 0)])]), (.pr .len [(.var 1)]), (.pr .len [(.var 0)])]), (.lit (.int .i64 0))]))
def head_rowsP_0 : Tree :=
 (.ite (.pr (.icmp .lss) [(.var 4), (.var 3)])
 (.giv (.pr (.icmp .leq) [(.lit (.int .i64 0)), (.var 4)])
 (.giv (.pr (.icmp .lss) [(.var 4), (.pr .len [(.var 0)])])
 (.giv (.pr (.icmp .lss) [(.var 4), (.pr .len [(.var 1)])])
 (.giv (.app 1000 [(.pr (.cell 0) [(.pr .at [(.var 0), (.var 4)])]), (.pr (.cell 0) [(.pr .at [(.var 1), (.var 4)])])])
 (.ite (.pr (.icmp .neq) [(.app 19 [(.pr (.cell 0) [(.pr .at [(.var 0), (.var 4)])]), (.pr (.cell 0) [(.pr .at [(.var 1), (.var 4)])])]), (.lit (.int .i64 0))])
 (.leaf (.ret (.app 19 [(.pr (.cell 0) [(.pr .at [(.var 0), (.var 4)])]), (.pr (.cell 0) [(.pr .at [(.var 1), (.var 4)])])])))
 (.giv (.app 1000 [(.pr .row [(.pr (.cell 1) [(.pr .at [(.var 0), (.var 4)])]), (.pr (.cell 2) [(.pr .at [(.var 0), (.var 4)])]), (.pr (.cell 3) [(.pr .at [(.var 0), (.var 4)])]), (.pr (.cell 4) [(.pr .at [(.var 0), (.var 4)])]), (.pr (.cell 5) [(.pr .at [(.var 0), (.var 4)])]), (.pr (.cell 6) [(.pr .at [(.var 0), (.var 4)])]), (.pr (.cell 7) [(.pr .at [(.var 0), (.var 4)])]), (.pr (.cell 8) [(.pr .at [(.var 0), (.var 4)])]), (.pr (.cell 9) [(.pr .at [(.var 0), (.var 4)])])]), (.pr .row [(.pr (.cell 1) [(.pr .at [(.var 1), (.var 4)])]), (.pr (.cell 2) [(.pr .at [(.var 1), (.var 4)])]), (.pr (.cell 3) [(.pr .at [(.var 1), (.var 4)])]), (.pr (.cell 4) [(.pr .at [(.var 1), (.var 4)])]), (.pr (.cell 5) [(.pr .at [(.var 1), (.var 4)])]), (.pr (.cell 6) [(.pr .at [(.var 1), (.var 4)])]), (.pr (.cell 7) [(.pr .at [(.var 1), (.var 4)])]), (.pr (.cell 8) [(.pr .at [(.var 1), (.var 4)])]), (.pr (.cell 9) [(.pr .at [(.var 1), (.var 4)])])])])
 (.giv (.app 2024 [(.pr .row [(.pr (.cell 1) [(.pr .at [(.var 0), (.var 4)])]), (.pr (.cell 2) [(.pr .at [(.var 0), (.var 4)])]), (.pr (.cell 3) [(.pr .at [(.var 0), (.var 4)])]), (.pr (.cell 4) [(.pr .at [(.var 0), (.var 4)])]), (.pr (.cell 5) [(.pr .at [(.var 0), (.var 4)])]), (.pr (.cell 6) [(.pr .at [(.var 0), (.var 4)])]), (.pr (.cell 7) [(.pr .at [(.var 0), (.var 4)])]), (.pr (.cell 8) [(.pr .at [(.var 0), (.var 4)])]), (.pr (.cell 9) [(.pr .at [(.var 0), (.var 4)])])]), (.pr .row [(.pr (.cell 1) [(.pr .at [(.var 1), (.var 4)])]), (.pr (.cell 2) [(.pr .at [(.var 1), (.var 4)])]), (.pr (.cell 3) [(.pr .at [(.var 1), (.var 4)])]), (.pr (.cell 4) [(.pr .at [(.var 1), (.var 4)])]), (.pr (.cell 5) [(.pr .at [(.var 1), (.var 4)])]), (.pr (.cell 6) [(.pr .at [(.var 1), (.var 4)])]), (.pr (.cell 7) [(.pr .at [(.var 1), (.var 4)])]), (.pr (.cell 8) [(.pr .at [(.var 1), (.var 4)])]), (.pr (.cell 9) [(.pr .at [(.var 1), (.var 4)])])])])
 (.ite (.pr (.icmp .neq) [(.app 24 [(.pr .row [(.pr (.cell 1) [(.pr .at [(.var 0), (.var 4)])]), (.pr (.cell 2) [(.pr .at [(.var 0), (.var 4)])]), (.pr (.cell 3) [(.pr .at [(.var 0), (.var 4)])]), (.pr (.cell 4) [(.pr .at [(.var 0), (.var 4)])]), (.pr (.cell 5) [(.pr .at [(.var 0), (.var 4)])]), (.pr (.cell 6) [(.pr .at [(.var 0), (.var 4)])]), (.pr (.cell 7) [(.pr .at [(.var 0), (.var 4)])]), (.pr (.cell 8) [(.pr .at [(.var 0), (.var 4)])]), (.pr (.cell 9) [(.pr .at [(.var 0), (.var 4)])])]), (.pr .row [(.pr (.cell 1) [(.pr .at [(.var 1), (.var 4)])]), (.pr (.cell 2) [(.pr .at [(.var 1), (.var 4)])]), (.pr (.cell 3) [(.pr .at [(.var 1), (.var 4)])]), (.pr (.cell 4) [(.pr .at [(.var 1), (.var 4)])]), (.pr (.cell 5) [(.pr .at [(.var 1), (.var 4)])]), (.pr (.cell 6) [(.pr .at [(.var 1), (.var 4)])]), (.pr (.cell 7) [(.pr .at [(.var 1), (.var 4)])]), (.pr (.cell 8) [(.pr .at [(.var 1), (.var 4)])]), (.pr (.cell 9) [(.pr .at [(.var 1), (.var 4)])])])]), (.lit (.int .i64 0))])
 (.leaf (.ret (.app 24 [(.pr .row [(.pr (.cell 1) [(.pr .at [(.var 0), (.var 4)])]), (.pr (.cell 2) [(.pr .at [(.var 0), (.var 4)])]), (.pr (.cell 3) [(.pr .at [(.var 0), (.var 4)])]), (.pr (.cell 4) [(.pr .at [(.var 0), (.var 4)])]), (.pr (.cell 5) [(.pr .at [(.var 0), (.var 4)])]), (.pr (.cell 6) [(.pr .at [(.var 0), (.var 4)])]), (.pr (.cell 7) [(.pr .at [(.var 0), (.var 4)])]), (.pr (.cell 8) [(.pr .at [(.var 0), (.var 4)])]), (.pr (.cell 9) [(.pr .at [(.var 0), (.var 4)])])]), (.pr .row [(.pr (.cell 1) [(.pr .at [(.var 1), (.var 4)])]), (.pr (.cell 2) [(.pr .at [(.var 1), (.var 4)])]), (.pr (.cell 3) [(.pr .at [(.var 1), (.var 4)])]), (.pr (.cell 4) [(.pr .at [(.var 1), (.var 4)])]), (.pr (.cell 5) [(.pr .at [(.var 1), (.var 4)])]), (.pr (.cell 6) [(.pr .at [(.var 1), (.var 4)])]), (.pr (.cell 7) [(.pr .at [(.var 1), (.var 4)])]), (.pr (.cell 8) [(.pr .at [(.var 1), (.var 4)])]), (.pr (.cell 9) [(.pr .at [(.var 1), (.var 4)])])])])))
 (.leaf (.go 0 [(.var 0), (.var 1), (.pr .row []), (.var 3), (.pr (.iop .add .i64) [(.var 4), (.lit (.int .i64 1))])]))))))))))
 (.ite (.pr (.icmp .lss) [(.pr .len [(.var 0)]), (.pr .len [(.var 1)])])
 (.leaf (.ret (.lit (.int .i64 (-1)))))
 (.ite (.pr (.icmp .gtr) [(.pr .len [(.var 0)]), (.pr .len [(.var 1)])])
 (.leaf (.ret (.lit (.int .i64 1))))
 (.leaf (.ret (.lit (.int .i64 0)))))))
def trees_rowsP : List Tree := [head_rowsP_0]
noncomputable def deps_rowsP : List Sig := [q_scmp, q_order]
theorem ok_rowsP : check q_rowsP deps_rowsP heads_rowsP entry_rowsP trees_rowsP = true := by kernel_rfl
theorem rowsP_ok (n : Nat) (ih : @Ok (I n) q_order (@okS (I n) n q_order.g)) : @Ok (I n) q_rowsP (@okS (I n) n q_rowsP.g) := by
  letI := I n
  refine fn_okS (hphi n) ok_rowsP (by
    intro q hq
    simp only [deps_rowsP, List.mem_cons, List.not_mem_nil, or_false] at hq
    rcases hq with rfl | rfl
    · exact okS_of (scmp_ok n)
    · exact ih)
    (fun _ d ds => ∃ (a b : List (ByteArray × Val)) (i m : Nat), ds = [pairsD a, pairsD b, .row [], iD m, iD i] ∧ i ≤ m ∧ m ≤ a.length ∧ m ≤ b.length ∧ (a.length ≤ m ∨ b.length ≤ m) ∧ m ≤ lim ∧ (∀ x y, x ∈ a → y ∈ b → okD n [sD x.1, sD y.1] ∧ okD n [x.2.toD, y.2.toD] ∧ good x.2 = true ∧ good y.2 = true) ∧ d = iD (rowsG (pairC orderV) (a.drop i) (b.drop i)))
    (fun _ ds => (ds.getD 3 .nil).int.toNat - (ds.getD 4 .nil).int.toNat) ?_ ?_
  · intro ds hf hp
    obtain ⟨a, b, rfl⟩ := pairs2_fn hf
    obtain ⟨g1, g2⟩ := (pre_rowsP n a b _).1 (hp.2 rfl)
    obtain ⟨h1, h2, h3, _⟩ := okD_three.1 hp.1
    obtain ⟨h2, h4⟩ := lim_pairs.1 h2
    obtain ⟨h3, h5⟩ := lim_pairs.1 h3
    simp only [entry_rowsP, q_rowsP, Tree.holds, Out.den, E.den, E.denL, den1, den2, den3, den4, den5, den6, den7, den8, Bool.not_eq_true', Bool.not_eq_false', List.getD_cons_zero, List.getD_cons_succ, true_and, and_true, List.length_map, phi_1000, phi_rowsP, bif_iD]
    refine ⟨a, b, 0, min a.length b.length, ?_, Nat.zero_le _, Nat.min_le_left .., Nat.min_le_right .., by omega, by omega, fun x y hx hy => ?_, rfl⟩
    · have : (if (b.length : Int) < a.length then (b.length : Int) else a.length) = ((min a.length b.length : Nat) : Int) := by split <;> omega
      rw [this]; rfl
    · have e1 := sz_pairs_mem hx
      have e2 := sz_pairs_mem hy
      rw [sz_pairD] at e1 e2
      have := D.sz_pos x.2.toD
      have := D.sz_pos y.2.toD
      exact ⟨okD_two.2 ⟨by rw [sz_sD, sz_sD]; omega, lim_sD.2 (h4 x hx).1, lim_sD.2 (h5 y hy).1⟩, okD_two.2 ⟨by omega, (h4 x hx).2, (h5 y hy).2⟩, g1 x hx, g2 y hy⟩
  · rintro j h t d ds hj ht hf ⟨a, b, i, m, rfl, hi, hma, hmb, hm, hl, hs, rfl⟩
    obtain rfl : t = head_rowsP_0 := by
      match j, ht with
      | 0, ht => exact (Option.some.inj ht).symm
    by_cases hlt : i < m
    · obtain ⟨x, hx, hxm, hd⟩ := drop_get (show i < a.length by omega)
      obtain ⟨y, hy, hym, hd'⟩ := drop_get (show i < b.length by omega)
      simp only [head_rowsP_0, Tree.holds, Out.den, E.den, E.denL, den1, den2, den3, den4, den5, den6, den7, den8, Bool.not_eq_true', Bool.not_eq_false', List.getD_cons_zero, List.getD_cons_succ, true_and, and_true, List.length_map, phi_1000, rowAt_map hx, rowAt_map hy, pat_0, pat_1, pat_2, pat_3, pat_4, pat_5, pat_6, pat_7, pat_8, pat_9, toD_put, phi_scmp, phi_order, pre_order, wrap_succ hlt hl]
      obtain ⟨k0, k1, k2, k3⟩ := hs x y hxm hym
      rw [hd, hd', rowsG]
      unfold pairC
      refine ⟨fun _ => ⟨by omega, by omega, by omega, k0, fun hb => ?_, fun hb => ⟨k1, ⟨k2, k3⟩, fun hc => ?_, fun hc => ⟨⟨a, b, i + 1, m, rfl, hlt, hma, hmb, hm, hl, hs, ?_⟩, by omega⟩⟩⟩, fun h => by omega⟩
      · rw [if_neg hb, if_neg hb]
      · rw [if_pos hb, if_neg hc]
      · rw [if_pos hb, if_pos hc]
    · simp only [head_rowsP_0, Tree.holds, Out.den, E.den, E.denL, den1, den2, den3, den4, den5, den6, den7, den8, Bool.not_eq_true', Bool.not_eq_false', List.getD_cons_zero, List.getD_cons_succ, true_and, and_true, List.length_map, phi_1000]
      rw [rowsG_end (by omega) (by omega) (by omega)]
      unfold cmpZ
      refine ⟨fun h => by omega, fun _ => ⟨fun h => ?_, fun h => ⟨fun h' => ?_, fun h' => ?_⟩⟩⟩
      · rw [if_pos h]
      · rw [if_neg h, if_pos h']
      · rw [if_neg h, if_neg h']
/-- calamus/value.order: func 49, params [33, 33], ntmps 78. -/
def heads_order : List Hd := []
def entry_order : Tree :=
 (.ite (.pr (.icmp .lss) [(.pr (.cell 0) [(.var 0)]), (.pr (.cell 0) [(.var 1)])])
 (.leaf (.ret (.lit (.int .i64 (-1)))))
 (.ite (.pr (.icmp .gtr) [(.pr (.cell 0) [(.var 0)]), (.pr (.cell 0) [(.var 1)])])
 (.leaf (.ret (.lit (.int .i64 1))))
 (.ite (.pr (.icmp .eql) [(.pr (.cell 0) [(.var 0)]), (.lit (.int .i64 2))])
 (.ite (.pr (.bcmp .eql) [(.pr (.cell 1) [(.var 0)]), (.pr (.cell 1) [(.var 1)])])
 (.leaf (.ret (.lit (.int .i64 0))))
 (.ite (.pr (.cell 1) [(.var 1)])
 (.ite (.pr (.bcmp .eql) [(.pr (.cell 1) [(.var 0)]), (.lit (.bool true))])
 (.leaf (.ret (.lit (.int .i64 0))))
 (.leaf (.ret (.lit (.int .i64 (-1))))))
 (.ite (.pr (.bcmp .eql) [(.pr (.cell 1) [(.var 0)]), (.lit (.bool false))])
 (.leaf (.ret (.lit (.int .i64 0))))
 (.leaf (.ret (.lit (.int .i64 1)))))))
 (.ite (.pr (.icmp .eql) [(.pr (.cell 0) [(.var 0)]), (.lit (.int .i64 3))])
 (.giv (.app 1000 [(.pr .row [(.pr (.cell 2) [(.var 0)]), (.pr (.cell 3) [(.var 0)]), (.pr (.cell 4) [(.var 0)])]), (.pr .row [(.pr (.cell 2) [(.var 1)]), (.pr (.cell 3) [(.var 1)]), (.pr (.cell 4) [(.var 1)])])])
 (.leaf (.ret (.pr (.cell 0) [(.app 22 [(.pr .row [(.pr (.cell 2) [(.var 0)]), (.pr (.cell 3) [(.var 0)]), (.pr (.cell 4) [(.var 0)])]), (.pr .row [(.pr (.cell 2) [(.var 1)]), (.pr (.cell 3) [(.var 1)]), (.pr (.cell 4) [(.var 1)])])])]))))
 (.ite (.pr (.icmp .eql) [(.pr (.cell 0) [(.var 0)]), (.lit (.int .i64 4))])
 (.ite (.pr (.icmp .lss) [(.pr (.cell 5) [(.var 0)]), (.pr (.cell 5) [(.var 1)])])
 (.leaf (.ret (.lit (.int .i64 (-1)))))
 (.ite (.pr (.icmp .gtr) [(.pr (.cell 5) [(.var 0)]), (.pr (.cell 5) [(.var 1)])])
 (.leaf (.ret (.lit (.int .i64 1))))
 (.leaf (.ret (.lit (.int .i64 0))))))
 (.ite (.pr (.icmp .eql) [(.pr (.cell 0) [(.var 0)]), (.lit (.int .i64 5))])
 (.giv (.app 1000 [(.pr (.cell 6) [(.var 0)]), (.pr (.cell 6) [(.var 1)])])
 (.leaf (.ret (.app 19 [(.pr (.cell 6) [(.var 0)]), (.pr (.cell 6) [(.var 1)])]))))
 (.ite (.pr (.icmp .eql) [(.pr (.cell 0) [(.var 0)]), (.lit (.int .i64 6))])
 (.giv (.app 1000 [(.pr (.cell 6) [(.var 0)]), (.pr (.cell 6) [(.var 1)])])
 (.leaf (.ret (.app 19 [(.pr (.cell 6) [(.var 0)]), (.pr (.cell 6) [(.var 1)])]))))
 (.ite (.pr (.icmp .eql) [(.pr (.cell 0) [(.var 0)]), (.lit (.int .i64 8))])
 (.giv (.app 1000 [(.pr .row [(.pr (.cell 0) [(.var 0)]), (.pr (.cell 1) [(.var 0)]), (.pr (.cell 2) [(.var 0)]), (.pr (.cell 3) [(.var 0)]), (.pr (.cell 4) [(.var 0)]), (.pr (.cell 5) [(.var 0)]), (.pr (.cell 6) [(.var 0)]), (.pr (.cell 7) [(.var 0)]), (.pr (.cell 8) [(.var 0)])])])
 (.giv (.app 2023 [(.pr .row [(.pr (.cell 0) [(.var 0)]), (.pr (.cell 1) [(.var 0)]), (.pr (.cell 2) [(.var 0)]), (.pr (.cell 3) [(.var 0)]), (.pr (.cell 4) [(.var 0)]), (.pr (.cell 5) [(.var 0)]), (.pr (.cell 6) [(.var 0)]), (.pr (.cell 7) [(.var 0)]), (.pr (.cell 8) [(.var 0)])])])
 (.giv (.app 1000 [(.pr .row [(.pr (.cell 0) [(.var 1)]), (.pr (.cell 1) [(.var 1)]), (.pr (.cell 2) [(.var 1)]), (.pr (.cell 3) [(.var 1)]), (.pr (.cell 4) [(.var 1)]), (.pr (.cell 5) [(.var 1)]), (.pr (.cell 6) [(.var 1)]), (.pr (.cell 7) [(.var 1)]), (.pr (.cell 8) [(.var 1)])])])
 (.giv (.app 2023 [(.pr .row [(.pr (.cell 0) [(.var 1)]), (.pr (.cell 1) [(.var 1)]), (.pr (.cell 2) [(.var 1)]), (.pr (.cell 3) [(.var 1)]), (.pr (.cell 4) [(.var 1)]), (.pr (.cell 5) [(.var 1)]), (.pr (.cell 6) [(.var 1)]), (.pr (.cell 7) [(.var 1)]), (.pr (.cell 8) [(.var 1)])])])
 (.giv (.app 1000 [(.app 23 [(.pr .row [(.pr (.cell 0) [(.var 0)]), (.pr (.cell 1) [(.var 0)]), (.pr (.cell 2) [(.var 0)]), (.pr (.cell 3) [(.var 0)]), (.pr (.cell 4) [(.var 0)]), (.pr (.cell 5) [(.var 0)]), (.pr (.cell 6) [(.var 0)]), (.pr (.cell 7) [(.var 0)]), (.pr (.cell 8) [(.var 0)])])]), (.app 23 [(.pr .row [(.pr (.cell 0) [(.var 1)]), (.pr (.cell 1) [(.var 1)]), (.pr (.cell 2) [(.var 1)]), (.pr (.cell 3) [(.var 1)]), (.pr (.cell 4) [(.var 1)]), (.pr (.cell 5) [(.var 1)]), (.pr (.cell 6) [(.var 1)]), (.pr (.cell 7) [(.var 1)]), (.pr (.cell 8) [(.var 1)])])]), (.pr .row [])])
 (.giv (.app 2026 [(.app 23 [(.pr .row [(.pr (.cell 0) [(.var 0)]), (.pr (.cell 1) [(.var 0)]), (.pr (.cell 2) [(.var 0)]), (.pr (.cell 3) [(.var 0)]), (.pr (.cell 4) [(.var 0)]), (.pr (.cell 5) [(.var 0)]), (.pr (.cell 6) [(.var 0)]), (.pr (.cell 7) [(.var 0)]), (.pr (.cell 8) [(.var 0)])])]), (.app 23 [(.pr .row [(.pr (.cell 0) [(.var 1)]), (.pr (.cell 1) [(.var 1)]), (.pr (.cell 2) [(.var 1)]), (.pr (.cell 3) [(.var 1)]), (.pr (.cell 4) [(.var 1)]), (.pr (.cell 5) [(.var 1)]), (.pr (.cell 6) [(.var 1)]), (.pr (.cell 7) [(.var 1)]), (.pr (.cell 8) [(.var 1)])])]), (.pr .row [])])
 (.leaf (.ret (.app 26 [(.app 23 [(.pr .row [(.pr (.cell 0) [(.var 0)]), (.pr (.cell 1) [(.var 0)]), (.pr (.cell 2) [(.var 0)]), (.pr (.cell 3) [(.var 0)]), (.pr (.cell 4) [(.var 0)]), (.pr (.cell 5) [(.var 0)]), (.pr (.cell 6) [(.var 0)]), (.pr (.cell 7) [(.var 0)]), (.pr (.cell 8) [(.var 0)])])]), (.app 23 [(.pr .row [(.pr (.cell 0) [(.var 1)]), (.pr (.cell 1) [(.var 1)]), (.pr (.cell 2) [(.var 1)]), (.pr (.cell 3) [(.var 1)]), (.pr (.cell 4) [(.var 1)]), (.pr (.cell 5) [(.var 1)]), (.pr (.cell 6) [(.var 1)]), (.pr (.cell 7) [(.var 1)]), (.pr (.cell 8) [(.var 1)])])]), (.pr .row [])])))))))))
 (.ite (.pr (.icmp .eql) [(.pr (.cell 0) [(.var 0)]), (.lit (.int .i64 9))])
 (.giv (.app 1000 [(.pr (.cell 6) [(.var 0)]), (.pr (.cell 6) [(.var 1)])])
 (.ite (.pr (.icmp .neq) [(.app 19 [(.pr (.cell 6) [(.var 0)]), (.pr (.cell 6) [(.var 1)])]), (.lit (.int .i64 0))])
 (.leaf (.ret (.app 19 [(.pr (.cell 6) [(.var 0)]), (.pr (.cell 6) [(.var 1)])])))
 (.giv (.app 1000 [(.pr (.cell 8) [(.var 0)]), (.pr (.cell 8) [(.var 1)]), (.pr .row [])])
 (.giv (.app 2025 [(.pr (.cell 8) [(.var 0)]), (.pr (.cell 8) [(.var 1)]), (.pr .row [])])
 (.leaf (.ret (.app 25 [(.pr (.cell 8) [(.var 0)]), (.pr (.cell 8) [(.var 1)]), (.pr .row [])])))))))
 (.giv (.app 1000 [(.pr (.cell 8) [(.var 0)]), (.pr (.cell 8) [(.var 1)]), (.pr .row [])])
 (.giv (.app 2025 [(.pr (.cell 8) [(.var 0)]), (.pr (.cell 8) [(.var 1)]), (.pr .row [])])
 (.leaf (.ret (.app 25 [(.pr (.cell 8) [(.var 0)]), (.pr (.cell 8) [(.var 1)]), (.pr .row [])]))))))))))))))
def trees_order : List Tree := []
noncomputable def deps_order : List Sig := [q_numcmp, q_scmp, q_pairs, q_rowsV, q_rowsP]
theorem ok_order : check q_order deps_order heads_order entry_order trees_order = true := by kernel_rfl
theorem sz_zip (v : Val) : (pairsD (v.names.zip v.list)).sz + 8 ≤ v.toD.sz := by
  rw [sz_toD, sz_strs, sz_lst, sz_lst]
  have : ∀ (ns : List ByteArray) (l : List Val), D.szL ((ns.zip l).map pairD) ≤ ns.length + D.szL (l.map Val.toD) := by
    intro ns
    induction ns with
    | nil => intro l; rw [List.zip_nil_left, List.map_nil]; simp only [D.szL]; omega
    | cons s r ih =>
      intro l
      cases l with
      | nil => rw [List.zip_nil_right, List.map_nil]; simp only [D.szL]; omega
      | cons v l =>
        rw [List.zip_cons_cons, List.map_cons, List.map_cons, szL_cons, szL_cons, sz_pairD, List.length_cons]
        have := ih l
        show v.toD.sz + 1 + _ ≤ _
        omega
  have := this v.names v.list
  omega
theorem order_step (n : Nat) (ih : @Ok (I n) q_order (@okS (I n) n q_order.g)) : @Ok (I n) q_order (@okS (I n) (n + 1) q_order.g) := by
  letI := I n
  refine fn_okS (hphi n) ok_order (by
    intro q hq
    simp only [deps_order, List.mem_cons, List.not_mem_nil, or_false] at hq
    rcases hq with rfl | rfl | rfl | rfl | rfl
    · exact okS_of (numcmp_ok n)
    · exact okS_of (scmp_ok n)
    · exact pairs_ok n
    · exact rowsV_ok n ih
    · exact rowsP_ok n ih) (fun _ _ _ => False) (fun _ _ => 0) ?_ (fun j h t d ds hj => by simp [heads_order] at hj)
  intro ds hf hp
  obtain ⟨a, b, rfl⟩ := two_val hf
  obtain ⟨g1, g2⟩ := (pre_order n a b).1 (hp.2 rfl)
  obtain ⟨h1, h2, h3⟩ := okD_two.1 hp.1
  obtain ⟨l1, l2, l3, l4⟩ := (lim_toD a).1 h2
  obtain ⟨m1, m2, m3, m4⟩ := (lim_toD b).1 h3
  have za := sz_zip a
  have zb := sz_zip b
  have e1 := sz_toD a
  have e2 := sz_toD b
  have o0 : okD n [a.toD] := okD_one.2 ⟨by omega, h2⟩
  have o0' : okD n [b.toD] := okD_one.2 ⟨by omega, h3⟩
  have o1 : okD n [.row [bD a.neg, sD a.dig, iD a.exp], .row [bD b.neg, sD b.dig, iD b.exp]] := okD_two.2 ⟨by simp only [D.sz, D.szL]; have := D.sz_pos (strsD a.names); have := D.sz_pos (valsD a.list); have := D.sz_pos (strsD b.names); have := D.sz_pos (valsD b.list); omega, by simp only [D.Lim, D.LimL, and_true, true_and]; exact l1, by simp only [D.Lim, D.LimL, and_true, true_and]; exact m1⟩
  have o2 : okD n [sD a.text, sD b.text] := okD_two.2 ⟨by rw [sz_sD, sz_sD]; omega, lim_sD.2 l2, lim_sD.2 m2⟩
  have o3 : okD n [valsD a.list, valsD b.list, .row []] := okD_three.2 ⟨by rw [sz_nilrow]; omega, l4, m4, lim_nilrow⟩
  have lz : ∀ v : Val, (strsD v.names).Lim → (valsD v.list).Lim → (pairsD (v.names.zip v.list)).Lim := fun v k1 k2 => by
    obtain ⟨k1, k3⟩ := lim_strs.1 k1
    obtain ⟨k2, k4⟩ := lim_vals.1 k2
    refine lim_pairs.2 ⟨by rw [List.length_zip]; omega, fun p hp => ⟨k3 _ (zip_mem hp).1, k4 _ (zip_mem hp).2⟩⟩
  have o4 : okD n [pairsD (a.names.zip a.list), pairsD (b.names.zip b.list), .row []] := okD_three.2 ⟨by rw [sz_nilrow]; omega, lz a l3 l4, lz b m3 m4, lim_nilrow⟩
  have q1 := fun x => @good_mem a x g1
  have q2 := fun x => @good_mem b x g2
  have q3 : ∀ p, p ∈ a.names.zip a.list → good p.2 = true := fun p hp => q1 p.2 (zip_mem hp).2
  have q4 : ∀ p, p ∈ b.names.zip b.list → good p.2 = true := fun p hp => q2 p.2 (zip_mem hp).2
  have r1 : a.kind = 8 → a.names.length = a.list.length ∧ a.list.length ≤ 256 := fun h => ⟨(formed_parts (good_iff.1 g1).1).2.1 h, (short_parts (good_iff.1 g1).2).1⟩
  have r2 : b.kind = 8 → b.names.length = b.list.length ∧ b.list.length ≤ 256 := fun h => ⟨(formed_parts (good_iff.1 g2).1).2.1 h, (short_parts (good_iff.1 g2).2).1⟩
  simp only [entry_order, q_order, Tree.holds, Out.den, E.den, E.denL, den1, den2, den3, den4, den5, den6, den7, den8, Bool.not_eq_true', Bool.not_eq_false', List.getD_cons_zero, List.getD_cons_succ, true_and, and_true, List.length_map, phi_1000, phi_numcmp, phi_scmp, phi_pairs, phi_rowsV, phi_rowsP, phi_order, pre_pairs, pre_rowsV, pre_rowsP, o0, o0', o1, o2, o3, o4, row_at0, beq_iff_eq]
  rw [orderV_eq]
  unfold cmpZ
  have q1' : (∀ x, x ∈ a.list → good x = true) ∧ ∀ x, x ∈ b.list → good x = true := ⟨q1, q2⟩
  have q3' : (∀ x, x ∈ a.names.zip a.list → good x.2 = true) ∧ ∀ x, x ∈ b.names.zip b.list → good x.2 = true := ⟨q3, q4⟩
  clear hf hp h1 h2 h3 l1 l2 l3 l4 m1 m2 m3 m4 za zb e1 e2 o0 o0' o1 o2 o3 o4 lz g1 g2 ih
  generalize rowsG orderV a.list b.list = X1
  generalize rowsG (pairC orderV) _ _ = X2
  generalize cmpS a.text b.text = X3
  generalize (numcmpV _ _ _ _ _ _).1 = X4
  generalize a.kind = k at *
  generalize b.kind = k' at *
  by_cases c1 : k < k'
  · simp only [c1, if_true, true_implies, not_true_eq_false, false_implies, and_true]
  by_cases c2 : k' < k
  · simp only [c1, c2, if_true, if_false, true_implies, not_true_eq_false, not_false_eq_true, false_implies, and_true, true_and]
  obtain rfl : k = k' := by omega
  simp only [c1, c2, if_false, false_implies, not_false_eq_true, true_implies, true_and]
  by_cases e2 : k = 2
  · subst e2; generalize a.flag = f at *; generalize b.flag = f' at *; clear r1 r2 q1 q2 q3 q4 q1' q3'; cases f <;> cases f' <;> simp
  simp only [e2, if_false, false_implies, not_false_eq_true, true_implies, true_and]
  by_cases e3 : k = 3
  · subst e3; simp
  simp only [e3, if_false, false_implies, not_false_eq_true, true_implies, true_and]
  by_cases e4 : k = 4
  · subst e4; clear r1 r2 q1 q2 q3 q4 q1' q3'; grind
  simp only [e4, if_false, false_implies, not_false_eq_true, true_implies, true_and]
  by_cases e5 : k = 5
  · subst e5; simp
  simp only [e5, if_false, false_implies, not_false_eq_true, true_implies, true_and]
  by_cases e6 : k = 6
  · subst e6; simp
  simp only [e6, if_false, false_implies, not_false_eq_true, true_implies, true_and]
  by_cases e8 : k = 8
  · subst e8
    have r1 := r1 rfl
    have r2 := r2 rfl
    refine ⟨fun _ => ⟨r1, r2, q3', rfl⟩, fun h => absurd rfl h⟩
  simp only [e8, if_false, false_implies, not_false_eq_true, true_implies, true_and]
  by_cases e9 : k = 9
  · subst e9
    simp only [if_true, not_true_eq_false, false_implies, true_implies, and_true]
    refine ⟨fun h => by rw [if_neg h], fun h => ⟨q1', by rw [if_pos h]⟩⟩
  · simp only [e9, if_false, false_implies, not_false_eq_true, true_implies, true_and, and_true]
    exact q1'
theorem order_ok : ∀ (n : Nat), @Ok (I n) q_order (@okS (I n) n q_order.g)
  | 0 => fun W J vs ds hL hI ha hp => absurd hp.1.1 (Nat.not_lt_zero _)
  | n + 1 => ok_irrel (by decide) (order_step n (order_ok n))
end Go.Proofs.YtaeeblcdggjokaaGreatDoor.Vk
/- Contracts of the reference: depth, size, lengths, equality. -/
namespace Go.Proofs.YtaeeblcdggjokaaGreatDoor.Vk
open Go Go.Ab Go.RowKit
set_option maxRecDepth 100000
set_option linter.unusedVariables false
set_option linter.unusedSimpArgs false
set_option linter.unusedSectionVars false
set_option linter.constructorNameAsVariable false
/-- calamus/calamusref04.Depth: func 20, params [33], ntmps 22. -/
-- head 0 of loop 0: [t1 .rf 33, t3 .sh (.cell (.sc (.i .i64))), t4 .sh (.cell (.sc (.i .i64)))]
def heads_rdepth : List Hd := [⟨0, [.any, .rf 33, .any, .sh (.cell (.sc (.i .i64))), .sh (.cell (.sc (.i .i64))), .any, .any, .any, .any, .any, .any, .any, .any, .any, .any, .any, .any, .any, .any, .any, .any, .any]⟩]
def entry_rdepth : Tree :=
 (.leaf (.go 0 [(.pr .row [(.pr (.cell 0) [(.var 0)]), (.pr (.cell 1) [(.var 0)]), (.pr (.cell 2) [(.var 0)]), (.pr (.cell 3) [(.var 0)]), (.pr (.cell 4) [(.var 0)]), (.pr (.cell 5) [(.var 0)]), (.pr (.cell 6) [(.var 0)]), (.pr (.cell 7) [(.var 0)]), (.pr (.cell 8) [(.var 0)])]), (.lit (.int .i64 0)), (.lit (.int .i64 0))]))
def head_rdepth_0 : Tree :=
 (.ite (.pr (.icmp .lss) [(.var 2), (.pr .len [(.pr (.cell 8) [(.var 0)])])])
 (.giv (.pr (.icmp .leq) [(.lit (.int .i64 0)), (.var 2)])
 (.giv (.app 1000 [(.pr .row [(.pr (.cell 0) [(.pr .at [(.pr (.cell 8) [(.var 0)]), (.var 2)])]), (.pr (.cell 1) [(.pr .at [(.pr (.cell 8) [(.var 0)]), (.var 2)])]), (.pr (.cell 2) [(.pr .at [(.pr (.cell 8) [(.var 0)]), (.var 2)])]), (.pr (.cell 3) [(.pr .at [(.pr (.cell 8) [(.var 0)]), (.var 2)])]), (.pr (.cell 4) [(.pr .at [(.pr (.cell 8) [(.var 0)]), (.var 2)])]), (.pr (.cell 5) [(.pr .at [(.pr (.cell 8) [(.var 0)]), (.var 2)])]), (.pr (.cell 6) [(.pr .at [(.pr (.cell 8) [(.var 0)]), (.var 2)])]), (.pr (.cell 7) [(.pr .at [(.pr (.cell 8) [(.var 0)]), (.var 2)])]), (.pr (.cell 8) [(.pr .at [(.pr (.cell 8) [(.var 0)]), (.var 2)])])])])
 (.leaf (.go 0 [(.var 0), (.pr .ite [(.pr (.icmp .gtr) [(.app 44 [(.pr .row [(.pr (.cell 0) [(.pr .at [(.pr (.cell 8) [(.var 0)]), (.var 2)])]), (.pr (.cell 1) [(.pr .at [(.pr (.cell 8) [(.var 0)]), (.var 2)])]), (.pr (.cell 2) [(.pr .at [(.pr (.cell 8) [(.var 0)]), (.var 2)])]), (.pr (.cell 3) [(.pr .at [(.pr (.cell 8) [(.var 0)]), (.var 2)])]), (.pr (.cell 4) [(.pr .at [(.pr (.cell 8) [(.var 0)]), (.var 2)])]), (.pr (.cell 5) [(.pr .at [(.pr (.cell 8) [(.var 0)]), (.var 2)])]), (.pr (.cell 6) [(.pr .at [(.pr (.cell 8) [(.var 0)]), (.var 2)])]), (.pr (.cell 7) [(.pr .at [(.pr (.cell 8) [(.var 0)]), (.var 2)])]), (.pr (.cell 8) [(.pr .at [(.pr (.cell 8) [(.var 0)]), (.var 2)])])])]), (.var 1)]), (.app 44 [(.pr .row [(.pr (.cell 0) [(.pr .at [(.pr (.cell 8) [(.var 0)]), (.var 2)])]), (.pr (.cell 1) [(.pr .at [(.pr (.cell 8) [(.var 0)]), (.var 2)])]), (.pr (.cell 2) [(.pr .at [(.pr (.cell 8) [(.var 0)]), (.var 2)])]), (.pr (.cell 3) [(.pr .at [(.pr (.cell 8) [(.var 0)]), (.var 2)])]), (.pr (.cell 4) [(.pr .at [(.pr (.cell 8) [(.var 0)]), (.var 2)])]), (.pr (.cell 5) [(.pr .at [(.pr (.cell 8) [(.var 0)]), (.var 2)])]), (.pr (.cell 6) [(.pr .at [(.pr (.cell 8) [(.var 0)]), (.var 2)])]), (.pr (.cell 7) [(.pr .at [(.pr (.cell 8) [(.var 0)]), (.var 2)])]), (.pr (.cell 8) [(.pr .at [(.pr (.cell 8) [(.var 0)]), (.var 2)])])])]), (.var 1)]), (.pr (.iop .add .i64) [(.var 2), (.lit (.int .i64 1))])]))))
 (.leaf (.ret (.pr (.iop .add .i64) [(.var 1), (.lit (.int .i64 1))]))))
def trees_rdepth : List Tree := [head_rdepth_0]
noncomputable def deps_rdepth : List Sig := [q_rdepth]
theorem ok_rdepth : check q_rdepth deps_rdepth heads_rdepth entry_rdepth trees_rdepth = true := by kernel_rfl
theorem rdepth_step (n : Nat) (ih : @Ok (I n) q_rdepth (okD n)) : @Ok (I n) q_rdepth (okD (n + 1)) := by
  letI := I n
  refine fn_ok (hphi n) ok_rdepth (by intro q hq; simp only [deps_rdepth, List.mem_singleton] at hq; subst hq; exact ih)
    (fun _ d ds => ∃ (v : Val) (acc : Int) (i : Nat), ds = [v.toD, iD acc, iD i] ∧ i ≤ v.list.length ∧ v.list.length ≤ lim ∧ (∀ x, x ∈ v.list → okD n [x.toD]) ∧ d = iD (wrap (depL acc (v.list.drop i) + 1)))
    (fun _ ds => (ds.getD 0 .nil).val1.list.length - (ds.getD 2 .nil).int.toNat) ?_ ?_
  · intro ds hf hp
    obtain ⟨v, rfl⟩ := one_val hf
    obtain ⟨h1, h2, h3⟩ := okD_list hp
    simp only [entry_rdepth, Tree.holds, Out.den, E.den, E.denL, den1, den2, den3, den4, den5, den6, den7, den8, Bool.not_eq_true', Bool.not_eq_false', List.getD_cons_zero, List.getD_cons_succ, true_and, and_true, List.length_map, phi_1000]
    refine ⟨v, 0, 0, by simp only [Int.ofNat_zero], Nat.zero_le _, h2, h3, ?_⟩
    simp only [q_rdepth, phi_rdepth]
    rw [depV_eq]; rfl
  · rintro j h t d ds hj ht hf ⟨v, acc, i, rfl, hi, hl, hs, rfl⟩
    obtain rfl : t = head_rdepth_0 := by
      match j, ht with
      | 0, ht => exact (Option.some.inj ht).symm
    by_cases hlt : i < v.list.length
    · obtain ⟨x, hx, hxm, hd⟩ := drop_get hlt
      simp only [head_rdepth_0, Tree.holds, Out.den, E.den, E.denL, den1, den2, den3, den4, den5, den6, den7, den8, Bool.not_eq_true', Bool.not_eq_false', List.getD_cons_zero, List.getD_cons_succ, true_and, and_true, List.length_map, phi_1000, rowAt_map hx, phi_rdepth, wrap_succ hlt hl, val1_toD]
      refine ⟨fun _ => ⟨by omega, hs x hxm, ⟨v, if depV x > acc then depV x else acc, i + 1, ?_, hlt, hl, hs, ?_⟩, by omega⟩, fun h => by omega⟩
      · by_cases hg : depV x > acc
        · rw [if_pos hg, ltI_t.2 hg]; rfl
        · rw [if_neg hg, ltI_f.2 hg]; rfl
      · rw [hd, depL]
    · simp only [head_rdepth_0, Tree.holds, Out.den, E.den, E.denL, den1, den2, den3, den4, den5, den6, den7, den8, Bool.not_eq_true', Bool.not_eq_false', List.getD_cons_zero, List.getD_cons_succ, true_and, and_true, List.length_map, phi_1000]
      refine ⟨fun h => by omega, fun _ => ?_⟩
      rw [List.drop_eq_nil_of_le (by omega), depL]
theorem rdepth_ok : ∀ (n : Nat), @Ok (I n) q_rdepth (okD n)
  | 0 => ok_zero
  | n + 1 => ok_irrel (by decide) (rdepth_step n (rdepth_ok n))
/-- calamus/calamusref04.Size: func 22, params [33], ntmps 21. -/
-- head 0 of loop 0: [t1 .rf 33, t3 .sh (.cell (.sc (.i .i64))), t4 .sh (.cell (.sc (.i .i64)))]
def heads_rsize : List Hd := [⟨0, [.any, .rf 33, .any, .sh (.cell (.sc (.i .i64))), .sh (.cell (.sc (.i .i64))), .any, .any, .any, .any, .any, .any, .any, .any, .any, .any, .any, .any, .any, .any, .any, .any]⟩]
def entry_rsize : Tree :=
 (.leaf (.go 0 [(.pr .row [(.pr (.cell 0) [(.var 0)]), (.pr (.cell 1) [(.var 0)]), (.pr (.cell 2) [(.var 0)]), (.pr (.cell 3) [(.var 0)]), (.pr (.cell 4) [(.var 0)]), (.pr (.cell 5) [(.var 0)]), (.pr (.cell 6) [(.var 0)]), (.pr (.cell 7) [(.var 0)]), (.pr (.cell 8) [(.var 0)])]), (.lit (.int .i64 1)), (.lit (.int .i64 0))]))
def head_rsize_0 : Tree :=
 (.ite (.pr (.icmp .lss) [(.var 2), (.pr .len [(.pr (.cell 8) [(.var 0)])])])
 (.giv (.pr (.icmp .leq) [(.lit (.int .i64 0)), (.var 2)])
 (.giv (.app 1000 [(.pr .row [(.pr (.cell 0) [(.pr .at [(.pr (.cell 8) [(.var 0)]), (.var 2)])]), (.pr (.cell 1) [(.pr .at [(.pr (.cell 8) [(.var 0)]), (.var 2)])]), (.pr (.cell 2) [(.pr .at [(.pr (.cell 8) [(.var 0)]), (.var 2)])]), (.pr (.cell 3) [(.pr .at [(.pr (.cell 8) [(.var 0)]), (.var 2)])]), (.pr (.cell 4) [(.pr .at [(.pr (.cell 8) [(.var 0)]), (.var 2)])]), (.pr (.cell 5) [(.pr .at [(.pr (.cell 8) [(.var 0)]), (.var 2)])]), (.pr (.cell 6) [(.pr .at [(.pr (.cell 8) [(.var 0)]), (.var 2)])]), (.pr (.cell 7) [(.pr .at [(.pr (.cell 8) [(.var 0)]), (.var 2)])]), (.pr (.cell 8) [(.pr .at [(.pr (.cell 8) [(.var 0)]), (.var 2)])])])])
 (.leaf (.go 0 [(.var 0), (.pr (.iop .add .i64) [(.var 1), (.app 45 [(.pr .row [(.pr (.cell 0) [(.pr .at [(.pr (.cell 8) [(.var 0)]), (.var 2)])]), (.pr (.cell 1) [(.pr .at [(.pr (.cell 8) [(.var 0)]), (.var 2)])]), (.pr (.cell 2) [(.pr .at [(.pr (.cell 8) [(.var 0)]), (.var 2)])]), (.pr (.cell 3) [(.pr .at [(.pr (.cell 8) [(.var 0)]), (.var 2)])]), (.pr (.cell 4) [(.pr .at [(.pr (.cell 8) [(.var 0)]), (.var 2)])]), (.pr (.cell 5) [(.pr .at [(.pr (.cell 8) [(.var 0)]), (.var 2)])]), (.pr (.cell 6) [(.pr .at [(.pr (.cell 8) [(.var 0)]), (.var 2)])]), (.pr (.cell 7) [(.pr .at [(.pr (.cell 8) [(.var 0)]), (.var 2)])]), (.pr (.cell 8) [(.pr .at [(.pr (.cell 8) [(.var 0)]), (.var 2)])])])])]), (.pr (.iop .add .i64) [(.var 2), (.lit (.int .i64 1))])]))))
 (.leaf (.ret (.var 1))))
def trees_rsize : List Tree := [head_rsize_0]
noncomputable def deps_rsize : List Sig := [q_rsize]
theorem ok_rsize : check q_rsize deps_rsize heads_rsize entry_rsize trees_rsize = true := by kernel_rfl
theorem rsize_step (n : Nat) (ih : @Ok (I n) q_rsize (okD n)) : @Ok (I n) q_rsize (okD (n + 1)) := by
  letI := I n
  refine fn_ok (hphi n) ok_rsize (by intro q hq; simp only [deps_rsize, List.mem_singleton] at hq; subst hq; exact ih)
    (fun _ d ds => ∃ (v : Val) (acc : Int) (i : Nat), ds = [v.toD, iD acc, iD i] ∧ i ≤ v.list.length ∧ v.list.length ≤ lim ∧ (∀ x, x ∈ v.list → okD n [x.toD]) ∧ d = iD (sizL acc (v.list.drop i)))
    (fun _ ds => (ds.getD 0 .nil).val1.list.length - (ds.getD 2 .nil).int.toNat) ?_ ?_
  · intro ds hf hp
    obtain ⟨v, rfl⟩ := one_val hf
    obtain ⟨h1, h2, h3⟩ := okD_list hp
    simp only [entry_rsize, Tree.holds, Out.den, E.den, E.denL, den1, den2, den3, den4, den5, den6, den7, den8, Bool.not_eq_true', Bool.not_eq_false', List.getD_cons_zero, List.getD_cons_succ, true_and, and_true, List.length_map, phi_1000]
    refine ⟨v, 1, 0, by simp only [Int.ofNat_zero], Nat.zero_le _, h2, h3, ?_⟩
    simp only [q_rsize, phi_rsize]
    rw [sizV_eq]; rfl
  · rintro j h t d ds hj ht hf ⟨v, acc, i, rfl, hi, hl, hs, rfl⟩
    obtain rfl : t = head_rsize_0 := by
      match j, ht with
      | 0, ht => exact (Option.some.inj ht).symm
    by_cases hlt : i < v.list.length
    · obtain ⟨x, hx, hxm, hd⟩ := drop_get hlt
      simp only [head_rsize_0, Tree.holds, Out.den, E.den, E.denL, den1, den2, den3, den4, den5, den6, den7, den8, Bool.not_eq_true', Bool.not_eq_false', List.getD_cons_zero, List.getD_cons_succ, true_and, and_true, List.length_map, phi_1000, rowAt_map hx, phi_rsize, wrap_succ hlt hl, val1_toD]
      refine ⟨fun _ => ⟨by omega, hs x hxm, ⟨v, wrap (acc + sizV x), i + 1, rfl, hlt, hl, hs, ?_⟩, by omega⟩, fun h => by omega⟩
      rw [hd, sizL]
    · simp only [head_rsize_0, Tree.holds, Out.den, E.den, E.denL, den1, den2, den3, den4, den5, den6, den7, den8, Bool.not_eq_true', Bool.not_eq_false', List.getD_cons_zero, List.getD_cons_succ, true_and, and_true, List.length_map, phi_1000]
      refine ⟨fun h => by omega, fun _ => ?_⟩
      rw [List.drop_eq_nil_of_le (by omega), sizL]
theorem rsize_ok : ∀ (n : Nat), @Ok (I n) q_rsize (okD n)
  | 0 => ok_zero
  | n + 1 => ok_irrel (by decide) (rsize_step n (rsize_ok n))
/-! ### Lengths -/
theorem shortL_iff : ∀ (l : List Val) (i : Nat), ¬ shortL l i ≥ 0 ↔ l.all shortV = true
  | [], i => by rw [shortL]; simp
  | v :: r, i => by
    rw [shortL, List.all_cons]
    cases shortV v with
    | false => simp
    | true => simp only [if_true, Bool.true_and]; exact shortL_iff r (i + 1)
theorem ixL_iff {α : Type} (p : α → Bool) : ∀ (l : List α) (i : Nat), ¬ ixL p l i ≥ 0 ↔ l.any p = false
  | [], i => by rw [ixL]; simp
  | v :: r, i => by
    rw [ixL, List.any_cons]
    cases p v with
    | true => simp
    | false => simp only [Bool.false_eq_true, if_false, Bool.false_or]; exact ixL_iff p r (i + 1)
def longS (s : ByteArray) : Bool := decide ((s.size : Int) > 64)
theorem shortV_iff (v : Val) : shortV v = true ↔ ¬ (v.text.size : Int) > (if v.kind = 9 then 64 else 4096) ∧ ¬ (v.list.length : Int) > 256 ∧ v.names.any longS = false ∧ v.list.all shortV = true := by
  cases v with
  | mk k f ng d e b t ns l =>
    simp only [Val.text, Val.kind, Val.list, Val.names]
    have h1 := shortL_iff l 0
    have h2 := ixL_iff longS ns 0
    rw [shortV]
    by_cases c1 : (t.size : Int) > (if k = 9 then 64 else 4096)
    · rw [if_pos c1]; exact ⟨fun h => (by cases h), fun h => absurd c1 h.1⟩
    rw [if_neg c1]
    by_cases c2 : (l.length : Int) > 256
    · rw [if_pos c2]; exact ⟨fun h => (by cases h), fun h => absurd c2 h.2.1⟩
    rw [if_neg c2]
    show (if ixL longS ns 0 ≥ 0 then false else !decide (shortL l 0 ≥ 0)) = true ↔ _
    by_cases c3 : ixL longS ns 0 ≥ 0
    · rw [if_pos c3]
      have : ¬ ns.any longS = false := fun h => (h2.2 h) c3
      simp [this]
    · rw [if_neg c3]
      have := h2.1 c3
      rw [Bool.not_eq_true', decide_eq_false_iff_not, h1]
      exact ⟨fun h => ⟨c1, c2, this, h⟩, fun h => h.2.2.2⟩
/-- calamus/calamusref04.short: func 76, params [33], ntmps 48. -/
-- head 0 of loop 0: [t1 .rf 33, t4 .sh (.cell (.sc (.i .i64)))]
-- head 1 of loop 1: [t1 .rf 33, t5 .sh (.cell (.sc (.i .i64)))]
def heads_rshort : List Hd := [⟨0, [.any, .rf 33, .any, .any, .sh (.cell (.sc (.i .i64))), .any, .any, .any, .any, .any, .any, .any, .any, .any, .any, .any, .any, .any, .any, .any, .any, .any, .any, .any, .any, .any, .any, .any, .any, .any, .any, .any, .any, .any, .any, .any, .any, .any, .any, .any, .any, .any, .any, .any, .any, .any, .any, .any]⟩, ⟨1, [.any, .rf 33, .any, .any, .any, .sh (.cell (.sc (.i .i64))), .any, .any, .any, .any, .any, .any, .any, .any, .any, .any, .any, .any, .any, .any, .any, .any, .any, .any, .any, .any, .any, .any, .any, .any, .any, .any, .any, .any, .any, .any, .any, .any, .any, .any, .any, .any, .any, .any, .any, .any, .any, .any]⟩]
def entry_rshort : Tree :=
 (.ite (.pr (.icmp .eql) [(.pr (.cell 0) [(.var 0)]), (.lit (.int .i64 9))])
 (.ite (.pr (.icmp .gtr) [(.pr .slen [(.pr (.cell 6) [(.var 0)])]), (.lit (.int .i64 64))])
 (.leaf (.ret (.lit (.bool false))))
 (.ite (.pr (.icmp .gtr) [(.pr .len [(.pr (.cell 8) [(.var 0)])]), (.lit (.int .i64 256))])
 (.leaf (.ret (.lit (.bool false))))
 (.leaf (.go 0 [(.pr .row [(.pr (.cell 0) [(.var 0)]), (.pr (.cell 1) [(.var 0)]), (.pr (.cell 2) [(.var 0)]), (.pr (.cell 3) [(.var 0)]), (.pr (.cell 4) [(.var 0)]), (.pr (.cell 5) [(.var 0)]), (.pr (.cell 6) [(.var 0)]), (.pr (.cell 7) [(.var 0)]), (.pr (.cell 8) [(.var 0)])]), (.lit (.int .i64 0))]))))
 (.ite (.pr (.icmp .gtr) [(.pr .slen [(.pr (.cell 6) [(.var 0)])]), (.lit (.int .i64 4096))])
 (.leaf (.ret (.lit (.bool false))))
 (.ite (.pr (.icmp .gtr) [(.pr .len [(.pr (.cell 8) [(.var 0)])]), (.lit (.int .i64 256))])
 (.leaf (.ret (.lit (.bool false))))
 (.leaf (.go 0 [(.pr .row [(.pr (.cell 0) [(.var 0)]), (.pr (.cell 1) [(.var 0)]), (.pr (.cell 2) [(.var 0)]), (.pr (.cell 3) [(.var 0)]), (.pr (.cell 4) [(.var 0)]), (.pr (.cell 5) [(.var 0)]), (.pr (.cell 6) [(.var 0)]), (.pr (.cell 7) [(.var 0)]), (.pr (.cell 8) [(.var 0)])]), (.lit (.int .i64 0))])))))
def head_rshort_0 : Tree :=
 (.ite (.pr (.icmp .lss) [(.var 1), (.pr .len [(.pr (.cell 7) [(.var 0)])])])
 (.giv (.pr (.icmp .leq) [(.lit (.int .i64 0)), (.var 1)])
 (.ite (.pr (.icmp .gtr) [(.pr .slen [(.pr (.cell 0) [(.pr .at [(.pr (.cell 7) [(.var 0)]), (.var 1)])])]), (.lit (.int .i64 64))])
 (.leaf (.ret (.lit (.bool false))))
 (.leaf (.go 0 [(.var 0), (.pr (.iop .add .i64) [(.var 1), (.lit (.int .i64 1))])]))))
 (.leaf (.go 1 [(.var 0), (.lit (.int .i64 0))])))
def head_rshort_1 : Tree :=
 (.ite (.pr (.icmp .lss) [(.var 1), (.pr .len [(.pr (.cell 8) [(.var 0)])])])
 (.giv (.pr (.icmp .leq) [(.lit (.int .i64 0)), (.var 1)])
 (.giv (.app 1000 [(.pr .row [(.pr (.cell 0) [(.pr .at [(.pr (.cell 8) [(.var 0)]), (.var 1)])]), (.pr (.cell 1) [(.pr .at [(.pr (.cell 8) [(.var 0)]), (.var 1)])]), (.pr (.cell 2) [(.pr .at [(.pr (.cell 8) [(.var 0)]), (.var 1)])]), (.pr (.cell 3) [(.pr .at [(.pr (.cell 8) [(.var 0)]), (.var 1)])]), (.pr (.cell 4) [(.pr .at [(.pr (.cell 8) [(.var 0)]), (.var 1)])]), (.pr (.cell 5) [(.pr .at [(.pr (.cell 8) [(.var 0)]), (.var 1)])]), (.pr (.cell 6) [(.pr .at [(.pr (.cell 8) [(.var 0)]), (.var 1)])]), (.pr (.cell 7) [(.pr .at [(.pr (.cell 8) [(.var 0)]), (.var 1)])]), (.pr (.cell 8) [(.pr .at [(.pr (.cell 8) [(.var 0)]), (.var 1)])])])])
 (.ite (.app 46 [(.pr .row [(.pr (.cell 0) [(.pr .at [(.pr (.cell 8) [(.var 0)]), (.var 1)])]), (.pr (.cell 1) [(.pr .at [(.pr (.cell 8) [(.var 0)]), (.var 1)])]), (.pr (.cell 2) [(.pr .at [(.pr (.cell 8) [(.var 0)]), (.var 1)])]), (.pr (.cell 3) [(.pr .at [(.pr (.cell 8) [(.var 0)]), (.var 1)])]), (.pr (.cell 4) [(.pr .at [(.pr (.cell 8) [(.var 0)]), (.var 1)])]), (.pr (.cell 5) [(.pr .at [(.pr (.cell 8) [(.var 0)]), (.var 1)])]), (.pr (.cell 6) [(.pr .at [(.pr (.cell 8) [(.var 0)]), (.var 1)])]), (.pr (.cell 7) [(.pr .at [(.pr (.cell 8) [(.var 0)]), (.var 1)])]), (.pr (.cell 8) [(.pr .at [(.pr (.cell 8) [(.var 0)]), (.var 1)])])])])
 (.leaf (.go 1 [(.var 0), (.pr (.iop .add .i64) [(.var 1), (.lit (.int .i64 1))])]))
 (.leaf (.ret (.lit (.bool false)))))))
 (.leaf (.ret (.lit (.bool true)))))
def trees_rshort : List Tree := [head_rshort_0, head_rshort_1]
noncomputable def deps_rshort : List Sig := [q_rshort]
theorem ok_rshort : check q_rshort deps_rshort heads_rshort entry_rshort trees_rshort = true := by kernel_rfl
theorem rshort_step (n : Nat) (ih : @Ok (I n) q_rshort (okD n)) : @Ok (I n) q_rshort (okD (n + 1)) := by
  letI := I n
  refine fn_ok (hphi n) ok_rshort (by intro q hq; simp only [deps_rshort, List.mem_singleton] at hq; subst hq; exact ih)
    (fun j d ds => ∃ (v : Val) (i : Nat), ds = [v.toD, iD i] ∧ v.list.length ≤ lim ∧ v.names.length ≤ lim ∧ (∀ x, x ∈ v.list → okD n [x.toD]) ∧
      ((j = 0 ∧ i ≤ v.names.length ∧ d = bD (!(v.names.drop i).any longS && v.list.all shortV)) ∨ (j = 1 ∧ i ≤ v.list.length ∧ d = bD ((v.list.drop i).all shortV))))
    (fun j ds => if j = 0 then (ds.getD 0 .nil).val1.list.length + 1 + ((ds.getD 0 .nil).val1.names.length - (ds.getD 1 .nil).int.toNat) else (ds.getD 0 .nil).val1.list.length - (ds.getD 1 .nil).int.toNat) ?_ ?_
  · intro ds hf hp
    obtain ⟨v, rfl⟩ := one_val hf
    obtain ⟨h1, h2, h3⟩ := okD_list hp
    have hn := (lim_strs.1 ((lim_toD v).1 (okD_one.1 hp).2).2.2.1).1
    have hv := shortV_iff v
    simp only [entry_rshort, Tree.holds, Out.den, E.den, E.denL, den1, den2, den3, den4, den5, den6, den7, den8, Bool.not_eq_true', Bool.not_eq_false', List.getD_cons_zero, List.getD_cons_succ, true_and, and_true, List.length_map, phi_1000, q_rshort, phi_rshort]
    have k : ∀ c1 : ¬ (v.text.size : Int) > (if v.kind = 9 then 64 else 4096), ∀ c2 : ¬ (v.list.length : Int) > 256, shortV v = (!(v.names.drop 0).any longS && v.list.all shortV) := fun c1 c2 => by
      rw [Bool.eq_iff_iff, hv, List.drop_zero, Bool.and_eq_true, Bool.not_eq_true']
      simp [c1, c2]
    refine ⟨fun h9 => ⟨fun h => ?_, fun h => ⟨fun h' => ?_, fun h' => ⟨v, 0, rfl, h2, hn, h3, ?_⟩⟩⟩, fun h9 => ⟨fun h => ?_, fun h => ⟨fun h' => ?_, fun h' => ⟨v, 0, rfl, h2, hn, h3, ?_⟩⟩⟩⟩
    · rw [Bool.eq_false_iff.2 fun e => (hv.1 e).1 (by rw [if_pos h9]; exact h)]
    · rw [Bool.eq_false_iff.2 fun e => (hv.1 e).2.1 h']
    · exact .inl ⟨Nat.zero_le _, by rw [k (by rw [if_pos h9]; exact h) h']⟩
    · rw [Bool.eq_false_iff.2 fun e => (hv.1 e).1 (by rw [if_neg h9]; exact h)]
    · rw [Bool.eq_false_iff.2 fun e => (hv.1 e).2.1 h']
    · exact .inl ⟨Nat.zero_le _, by rw [k (by rw [if_neg h9]; exact h) h']⟩
  · rintro j h t d ds hj ht hf ⟨v, i, rfl, hl, hn, hs, ⟨rfl, hi, rfl⟩ | ⟨rfl, hi, rfl⟩⟩
    · obtain rfl : t = head_rshort_0 := (Option.some.inj ht).symm
      by_cases hlt : i < v.names.length
      · obtain ⟨x, hx, hxm, hd⟩ := drop_get hlt
        simp only [head_rshort_0, Tree.holds, Out.den, E.den, E.denL, den1, den2, den3, den4, den5, den6, den7, den8, Bool.not_eq_true', Bool.not_eq_false', List.getD_cons_zero, List.getD_cons_succ, true_and, and_true, List.length_map, phi_1000, rowAt_map hx, wrap_succ hlt hn, val1_toD]
        rw [hd, List.any_cons]
        refine ⟨fun _ => ⟨by omega, fun hb => ?_, fun hb => ⟨⟨v, i + 1, rfl, hl, hn, hs, .inl ⟨hlt, ?_⟩⟩, ?_⟩⟩, fun h => by omega⟩
        · rw [show longS x = true from decide_eq_true hb]; rfl
        · rw [show longS x = false from decide_eq_false hb]; rfl
        · simp only [if_true]; omega
      · simp only [head_rshort_0, Tree.holds, Out.den, E.den, E.denL, den1, den2, den3, den4, den5, den6, den7, den8, Bool.not_eq_true', Bool.not_eq_false', List.getD_cons_zero, List.getD_cons_succ, true_and, and_true, List.length_map, phi_1000, val1_toD]
        refine ⟨fun h => by omega, fun _ => ⟨⟨v, 0, rfl, hl, hn, hs, .inr ⟨Nat.zero_le _, ?_⟩⟩, ?_⟩⟩
        · rw [List.drop_eq_nil_of_le (by omega), List.drop_zero]; rfl
        · simp only [if_true]; rw [if_neg (by decide)]; omega
    · obtain rfl : t = head_rshort_1 := (Option.some.inj ht).symm
      by_cases hlt : i < v.list.length
      · obtain ⟨x, hx, hxm, hd⟩ := drop_get hlt
        simp only [head_rshort_1, Tree.holds, Out.den, E.den, E.denL, den1, den2, den3, den4, den5, den6, den7, den8, Bool.not_eq_true', Bool.not_eq_false', List.getD_cons_zero, List.getD_cons_succ, true_and, and_true, List.length_map, phi_1000, rowAt_map hx, wrap_succ hlt hl, val1_toD, phi_rshort]
        rw [hd, List.all_cons]
        refine ⟨fun _ => ⟨by omega, hs x hxm, fun hb => ⟨⟨v, i + 1, rfl, hl, hn, hs, .inr ⟨hlt, ?_⟩⟩, ?_⟩, fun hb => ?_⟩, fun h => by omega⟩
        · rw [hb]; rfl
        · rw [if_neg (by decide), if_neg (by decide)]; omega
        · rw [hb]; rfl
      · simp only [head_rshort_1, Tree.holds, Out.den, E.den, E.denL, den1, den2, den3, den4, den5, den6, den7, den8, Bool.not_eq_true', Bool.not_eq_false', List.getD_cons_zero, List.getD_cons_succ, true_and, and_true, List.length_map, phi_1000]
        refine ⟨fun h => by omega, fun _ => ?_⟩
        rw [List.drop_eq_nil_of_le (by omega)]; rfl
theorem rshort_ok : ∀ (n : Nat), @Ok (I n) q_rshort (okD n)
  | 0 => ok_zero
  | n + 1 => ok_irrel (by decide) (rshort_step n (rshort_ok n))
/-- calamus/calamusref04.Equal: func 23, params [33, 33], ntmps 95. -/
-- head 0 of loop 0: [t2 .rf 33, t3 .rf 33, t5 .sh (.cell (.sc (.i .i64)))]
-- head 1 of loop 1: [t2 .rf 33, t3 .rf 33, t6 .sh (.cell (.sc (.i .i64)))]
def heads_requal : List Hd := [⟨0, [.any, .any, .rf 33, .rf 33, .any, .sh (.cell (.sc (.i .i64))), .any, .any, .any, .any, .any, .any, .any, .any, .any, .any, .any, .any, .any, .any, .any, .any, .any, .any, .any, .any, .any, .any, .any, .any, .any, .any, .any, .any, .any, .any, .any, .any, .any, .any, .any, .any, .any, .any, .any, .any, .any, .any, .any, .any, .any, .any, .any, .any, .any, .any, .any, .any, .any, .any, .any, .any, .any, .any, .any, .any, .any, .any, .any, .any, .any, .any, .any, .any, .any, .any, .any, .any, .any, .any, .any, .any, .any, .any, .any, .any, .any, .any, .any, .any, .any, .any, .any, .any, .any]⟩, ⟨1, [.any, .any, .rf 33, .rf 33, .any, .any, .sh (.cell (.sc (.i .i64))), .any, .any, .any, .any, .any, .any, .any, .any, .any, .any, .any, .any, .any, .any, .any, .any, .any, .any, .any, .any, .any, .any, .any, .any, .any, .any, .any, .any, .any, .any, .any, .any, .any, .any, .any, .any, .any, .any, .any, .any, .any, .any, .any, .any, .any, .any, .any, .any, .any, .any, .any, .any, .any, .any, .any, .any, .any, .any, .any, .any, .any, .any, .any, .any, .any, .any, .any, .any, .any, .any, .any, .any, .any, .any, .any, .any, .any, .any, .any, .any, .any, .any, .any, .any, .any, .any, .any, .any]⟩]
def entry_requal : Tree :=
 (.ite (.pr (.icmp .neq) [(.pr (.cell 0) [(.var 0)]), (.pr (.cell 0) [(.var 1)])])
 (.leaf (.ret (.lit (.bool false))))
 (.ite (.pr (.bcmp .neq) [(.pr (.cell 1) [(.var 0)]), (.pr (.cell 1) [(.var 1)])])
 (.leaf (.ret (.lit (.bool false))))
 (.ite (.pr .and [(.pr (.bcmp .eql) [(.pr (.cell 2) [(.var 0)]), (.pr (.cell 2) [(.var 1)])]), (.pr (.scmp .eql) [(.pr (.cell 3) [(.var 0)]), (.pr (.cell 3) [(.var 1)])]), (.pr (.icmp .eql) [(.pr (.cell 4) [(.var 0)]), (.pr (.cell 4) [(.var 1)])])])
 (.ite (.pr (.icmp .neq) [(.pr (.cell 5) [(.var 0)]), (.pr (.cell 5) [(.var 1)])])
 (.leaf (.ret (.lit (.bool false))))
 (.ite (.pr (.scmp .neq) [(.pr (.cell 6) [(.var 0)]), (.pr (.cell 6) [(.var 1)])])
 (.leaf (.ret (.lit (.bool false))))
 (.ite (.pr (.icmp .neq) [(.pr .len [(.pr (.cell 7) [(.var 0)])]), (.pr .len [(.pr (.cell 7) [(.var 1)])])])
 (.leaf (.ret (.lit (.bool false))))
 (.ite (.pr (.icmp .neq) [(.pr .len [(.pr (.cell 8) [(.var 0)])]), (.pr .len [(.pr (.cell 8) [(.var 1)])])])
 (.leaf (.ret (.lit (.bool false))))
 (.leaf (.go 0 [(.pr .row [(.pr (.cell 0) [(.var 0)]), (.pr (.cell 1) [(.var 0)]), (.pr (.cell 2) [(.var 0)]), (.pr (.cell 3) [(.var 0)]), (.pr (.cell 4) [(.var 0)]), (.pr (.cell 5) [(.var 0)]), (.pr (.cell 6) [(.var 0)]), (.pr (.cell 7) [(.var 0)]), (.pr (.cell 8) [(.var 0)])]), (.pr .row [(.pr (.cell 0) [(.var 1)]), (.pr (.cell 1) [(.var 1)]), (.pr (.cell 2) [(.var 1)]), (.pr (.cell 3) [(.var 1)]), (.pr (.cell 4) [(.var 1)]), (.pr (.cell 5) [(.var 1)]), (.pr (.cell 6) [(.var 1)]), (.pr (.cell 7) [(.var 1)]), (.pr (.cell 8) [(.var 1)])]), (.lit (.int .i64 0))]))))))
 (.leaf (.ret (.lit (.bool false)))))))
def head_requal_0 : Tree :=
 (.ite (.pr (.icmp .lss) [(.var 2), (.pr .len [(.pr (.cell 7) [(.var 0)])])])
 (.giv (.pr (.icmp .leq) [(.lit (.int .i64 0)), (.var 2)])
 (.giv (.pr (.icmp .lss) [(.var 2), (.pr .len [(.pr (.cell 7) [(.var 1)])])])
 (.ite (.pr (.scmp .neq) [(.pr (.cell 0) [(.pr .at [(.pr (.cell 7) [(.var 0)]), (.var 2)])]), (.pr (.cell 0) [(.pr .at [(.pr (.cell 7) [(.var 1)]), (.var 2)])])])
 (.leaf (.ret (.lit (.bool false))))
 (.leaf (.go 0 [(.var 0), (.var 1), (.pr (.iop .add .i64) [(.var 2), (.lit (.int .i64 1))])])))))
 (.leaf (.go 1 [(.var 0), (.var 1), (.lit (.int .i64 0))])))
def head_requal_1 : Tree :=
 (.ite (.pr (.icmp .lss) [(.var 2), (.pr .len [(.pr (.cell 8) [(.var 0)])])])
 (.giv (.pr (.icmp .leq) [(.lit (.int .i64 0)), (.var 2)])
 (.giv (.pr (.icmp .lss) [(.var 2), (.pr .len [(.pr (.cell 8) [(.var 1)])])])
 (.giv (.app 1000 [(.pr .row [(.pr (.cell 0) [(.pr .at [(.pr (.cell 8) [(.var 0)]), (.var 2)])]), (.pr (.cell 1) [(.pr .at [(.pr (.cell 8) [(.var 0)]), (.var 2)])]), (.pr (.cell 2) [(.pr .at [(.pr (.cell 8) [(.var 0)]), (.var 2)])]), (.pr (.cell 3) [(.pr .at [(.pr (.cell 8) [(.var 0)]), (.var 2)])]), (.pr (.cell 4) [(.pr .at [(.pr (.cell 8) [(.var 0)]), (.var 2)])]), (.pr (.cell 5) [(.pr .at [(.pr (.cell 8) [(.var 0)]), (.var 2)])]), (.pr (.cell 6) [(.pr .at [(.pr (.cell 8) [(.var 0)]), (.var 2)])]), (.pr (.cell 7) [(.pr .at [(.pr (.cell 8) [(.var 0)]), (.var 2)])]), (.pr (.cell 8) [(.pr .at [(.pr (.cell 8) [(.var 0)]), (.var 2)])])]), (.pr .row [(.pr (.cell 0) [(.pr .at [(.pr (.cell 8) [(.var 1)]), (.var 2)])]), (.pr (.cell 1) [(.pr .at [(.pr (.cell 8) [(.var 1)]), (.var 2)])]), (.pr (.cell 2) [(.pr .at [(.pr (.cell 8) [(.var 1)]), (.var 2)])]), (.pr (.cell 3) [(.pr .at [(.pr (.cell 8) [(.var 1)]), (.var 2)])]), (.pr (.cell 4) [(.pr .at [(.pr (.cell 8) [(.var 1)]), (.var 2)])]), (.pr (.cell 5) [(.pr .at [(.pr (.cell 8) [(.var 1)]), (.var 2)])]), (.pr (.cell 6) [(.pr .at [(.pr (.cell 8) [(.var 1)]), (.var 2)])]), (.pr (.cell 7) [(.pr .at [(.pr (.cell 8) [(.var 1)]), (.var 2)])]), (.pr (.cell 8) [(.pr .at [(.pr (.cell 8) [(.var 1)]), (.var 2)])])])])
 (.ite (.app 48 [(.pr .row [(.pr (.cell 0) [(.pr .at [(.pr (.cell 8) [(.var 0)]), (.var 2)])]), (.pr (.cell 1) [(.pr .at [(.pr (.cell 8) [(.var 0)]), (.var 2)])]), (.pr (.cell 2) [(.pr .at [(.pr (.cell 8) [(.var 0)]), (.var 2)])]), (.pr (.cell 3) [(.pr .at [(.pr (.cell 8) [(.var 0)]), (.var 2)])]), (.pr (.cell 4) [(.pr .at [(.pr (.cell 8) [(.var 0)]), (.var 2)])]), (.pr (.cell 5) [(.pr .at [(.pr (.cell 8) [(.var 0)]), (.var 2)])]), (.pr (.cell 6) [(.pr .at [(.pr (.cell 8) [(.var 0)]), (.var 2)])]), (.pr (.cell 7) [(.pr .at [(.pr (.cell 8) [(.var 0)]), (.var 2)])]), (.pr (.cell 8) [(.pr .at [(.pr (.cell 8) [(.var 0)]), (.var 2)])])]), (.pr .row [(.pr (.cell 0) [(.pr .at [(.pr (.cell 8) [(.var 1)]), (.var 2)])]), (.pr (.cell 1) [(.pr .at [(.pr (.cell 8) [(.var 1)]), (.var 2)])]), (.pr (.cell 2) [(.pr .at [(.pr (.cell 8) [(.var 1)]), (.var 2)])]), (.pr (.cell 3) [(.pr .at [(.pr (.cell 8) [(.var 1)]), (.var 2)])]), (.pr (.cell 4) [(.pr .at [(.pr (.cell 8) [(.var 1)]), (.var 2)])]), (.pr (.cell 5) [(.pr .at [(.pr (.cell 8) [(.var 1)]), (.var 2)])]), (.pr (.cell 6) [(.pr .at [(.pr (.cell 8) [(.var 1)]), (.var 2)])]), (.pr (.cell 7) [(.pr .at [(.pr (.cell 8) [(.var 1)]), (.var 2)])]), (.pr (.cell 8) [(.pr .at [(.pr (.cell 8) [(.var 1)]), (.var 2)])])])])
 (.leaf (.go 1 [(.var 0), (.var 1), (.pr (.iop .add .i64) [(.var 2), (.lit (.int .i64 1))])]))
 (.leaf (.ret (.lit (.bool false))))))))
 (.leaf (.ret (.lit (.bool true)))))
def trees_requal : List Tree := [head_requal_0, head_requal_1]
noncomputable def deps_requal : List Sig := [q_requal]
theorem ok_requal : check q_requal deps_requal heads_requal entry_requal trees_requal = true := by kernel_rfl
theorem requal_step (n : Nat) (ih : @Ok (I n) q_requal (okD n)) : @Ok (I n) q_requal (okD (n + 1)) := by
  letI := I n
  refine fn_ok (hphi n) ok_requal (by intro q hq; simp only [deps_requal, List.mem_singleton] at hq; subst hq; exact ih)
    (fun j d ds => ∃ (a b : Val) (i : Nat), ds = [a.toD, b.toD, iD i] ∧ a.list.length = b.list.length ∧ a.names.length = b.names.length ∧ a.list.length ≤ lim ∧ a.names.length ≤ lim ∧ (∀ x y, x ∈ a.list → y ∈ b.list → okD n [x.toD, y.toD]) ∧
      ((j = 0 ∧ i ≤ a.names.length ∧ d = bD (decide (a.names.drop i = b.names.drop i) && eqVs a.list b.list)) ∨ (j = 1 ∧ i ≤ a.list.length ∧ d = bD (eqVs (a.list.drop i) (b.list.drop i)))))
    (fun j ds => if j = 0 then (ds.getD 0 .nil).val1.list.length + 1 + ((ds.getD 0 .nil).val1.names.length - (ds.getD 2 .nil).int.toNat) else (ds.getD 0 .nil).val1.list.length - (ds.getD 2 .nil).int.toNat) ?_ ?_
  · intro ds hf hp
    obtain ⟨a, b, rfl⟩ := two_val hf
    obtain ⟨h1, h2, h3⟩ := okD_two.1 hp
    obtain ⟨_, _, h4, h5⟩ := (lim_toD a).1 h2
    obtain ⟨_, _, h6, h7⟩ := (lim_toD b).1 h3
    rw [sz_toD, sz_toD] at h1
    have hv := eqV_iff a b
    have hs : ∀ x y, x ∈ a.list → y ∈ b.list → okD n [x.toD, y.toD] := fun x y hx hy => okD_two.2 ⟨by
      have := sz_vals_mem hx
      have := sz_vals_mem hy
      omega, (lim_vals.1 h5).2 x hx, (lim_vals.1 h7).2 y hy⟩
    simp only [entry_requal, q_requal, Tree.holds, Out.den, E.den, E.denL, den1, den2, den3, den4, den5, den6, den7, den8, Bool.not_eq_true', Bool.not_eq_false', List.getD_cons_zero, List.getD_cons_succ, true_and, and_true, List.length_map, phi_1000, phi_requal, List.all_cons, List.all_nil, Bool.and_true, Bool.and_eq_true, Bool.and_eq_false_iff, beq_iff_eq, bne_iff_ne, ne_eq, bD_inj]
    have no : ∀ p : Prop, ¬ p → (eqV a b = true → p) → (false = eqV a b) := fun p h1 h2 => by
      cases h : eqV a b with
      | false => rfl
      | true => exact absurd (h2 h) h1
    refine ⟨fun h => no _ h fun e => (hv.1 e).1, fun c1 => ⟨fun h => no _ h fun e => (hv.1 e).2.1, fun c2 => ⟨fun c3 => ⟨fun h => no _ h fun e => (hv.1 e).2.2.2.1, fun c4 => ⟨fun h => no _ h fun e => (hv.1 e).2.2.2.2.1, fun c5 => ⟨fun h => no (a.names.length = b.names.length) (by omega) fun e => by rw [(hv.1 e).2.2.2.2.2.1], fun c6 => ⟨fun h => no (a.list.length = b.list.length) (by omega) fun e => ?_, fun c7 => ⟨a, b, 0, rfl, by omega, by omega, (lim_vals.1 h5).1, (lim_strs.1 h4).1, hs, .inl ⟨Nat.zero_le _, ?_⟩⟩⟩⟩⟩⟩, fun c3 => no (a.neg = b.neg ∧ a.dig = b.dig ∧ a.exp = b.exp) ?_ fun e => (hv.1 e).2.2.1⟩⟩⟩
    · have h := (hv.1 e).2.2.2.2.2.2
      have h : a.list = b.list := @of_decide_eq_true _ (Classical.propDecidable _) h
      rw [h]
    · rw [Bool.eq_iff_iff, hv, List.drop_zero, List.drop_zero, Bool.and_eq_true, decide_eq_true_iff]
      clear hf hp h1 h2 h3 h4 h5 h6 h7 hs no hv ih
      grind
    · clear hf hp h1 h2 h3 h4 h5 h6 h7 hs no hv ih
      grind
  · rintro j h t d ds hj ht hf ⟨a, b, i, rfl, hab, hnn, hl, hn, hs, ⟨rfl, hi, rfl⟩ | ⟨rfl, hi, rfl⟩⟩
    · obtain rfl : t = head_requal_0 := (Option.some.inj ht).symm
      by_cases hlt : i < a.names.length
      · obtain ⟨x, hx, hxm, hd⟩ := drop_get hlt
        obtain ⟨y, hy, hym, hd'⟩ := drop_get (show i < b.names.length by omega)
        simp only [head_requal_0, Tree.holds, Out.den, E.den, E.denL, den1, den2, den3, den4, den5, den6, den7, den8, Bool.not_eq_true', Bool.not_eq_false', List.getD_cons_zero, List.getD_cons_succ, true_and, and_true, List.length_map, phi_1000, rowAt_map hx, rowAt_map hy, wrap_succ hlt hn, val1_toD]
        rw [hd, hd']
        refine ⟨fun _ => ⟨by omega, by omega, fun hb => ?_, fun hb => ⟨⟨a, b, i + 1, rfl, hab, hnn, hl, hn, hs, .inl ⟨hlt, ?_⟩⟩, ?_⟩⟩, fun h => by omega⟩
        · rw [decide_eq_false (fun e => hb (List.cons.inj e).1)]; rfl
        · rw [hb]; simp
        · simp only [if_true]; omega
      · simp only [head_requal_0, Tree.holds, Out.den, E.den, E.denL, den1, den2, den3, den4, den5, den6, den7, den8, Bool.not_eq_true', Bool.not_eq_false', List.getD_cons_zero, List.getD_cons_succ, true_and, and_true, List.length_map, phi_1000, val1_toD]
        refine ⟨fun h => by omega, fun _ => ⟨⟨a, b, 0, rfl, hab, hnn, hl, hn, hs, .inr ⟨Nat.zero_le _, ?_⟩⟩, ?_⟩⟩
        · rw [List.drop_eq_nil_of_le (show a.names.length ≤ i by omega), List.drop_eq_nil_of_le (show b.names.length ≤ i by omega), List.drop_zero, List.drop_zero]; rfl
        · simp only [if_true]; rw [if_neg (by decide)]; omega
    · obtain rfl : t = head_requal_1 := (Option.some.inj ht).symm
      by_cases hlt : i < a.list.length
      · obtain ⟨x, hx, hxm, hd⟩ := drop_get hlt
        obtain ⟨y, hy, hym, hd'⟩ := drop_get (show i < b.list.length by omega)
        simp only [head_requal_1, Tree.holds, Out.den, E.den, E.denL, den1, den2, den3, den4, den5, den6, den7, den8, Bool.not_eq_true', Bool.not_eq_false', List.getD_cons_zero, List.getD_cons_succ, true_and, and_true, List.length_map, phi_1000, rowAt_map hx, rowAt_map hy, wrap_succ hlt hl, val1_toD, phi_requal]
        have e : eqVs (x :: a.list.drop (i + 1)) (y :: b.list.drop (i + 1)) = (eqV x y && eqVs (a.list.drop (i + 1)) (b.list.drop (i + 1))) := by
          unfold eqVs eqV
          rw [Bool.eq_iff_iff]
          simp
        rw [hd, hd', e]
        refine ⟨fun _ => ⟨by omega, by omega, hs x y hxm hym, fun hb => ⟨⟨a, b, i + 1, rfl, hab, hnn, hl, hn, hs, .inr ⟨hlt, ?_⟩⟩, ?_⟩, fun hb => ?_⟩, fun h => by omega⟩
        · rw [hb]; rfl
        · rw [if_neg (by decide), if_neg (by decide)]; omega
        · rw [hb]; rfl
      · simp only [head_requal_1, Tree.holds, Out.den, E.den, E.denL, den1, den2, den3, den4, den5, den6, den7, den8, Bool.not_eq_true', Bool.not_eq_false', List.getD_cons_zero, List.getD_cons_succ, true_and, and_true, List.length_map, phi_1000]
        refine ⟨fun h => by omega, fun _ => ?_⟩
        rw [List.drop_eq_nil_of_le (show a.list.length ≤ i by omega), List.drop_eq_nil_of_le (show b.list.length ≤ i by omega)]
        unfold eqVs
        simp
theorem requal_ok : ∀ (n : Nat), @Ok (I n) q_requal (okD n)
  | 0 => ok_zero
  | n + 1 => ok_irrel (by decide) (requal_step n (requal_ok n))
end Go.Proofs.YtaeeblcdggjokaaGreatDoor.Vk
/- Contracts of the reference: names, digits. -/
namespace Go.Proofs.YtaeeblcdggjokaaGreatDoor.Vk
open Go Go.Ab Go.RowKit
set_option maxRecDepth 100000
set_option linter.unusedVariables false
set_option linter.unusedSimpArgs false
set_option linter.unusedSectionVars false
set_option linter.constructorNameAsVariable false
theorem nodup_iff {α : Type} (l : List α) : l.Nodup ↔ ∀ a b, a < b → b < l.length → l[a]? ≠ l[b]? := by
  unfold List.Nodup
  rw [List.pairwise_iff_getElem]
  constructor
  · intro h a b hab hb e
    rw [List.getElem?_eq_getElem (by omega), List.getElem?_eq_getElem hb] at e
    exact h a b (by omega) hb hab (Option.some.inj e)
  · intro h i j hi hj hij e
    exact h i j hij hj (by rw [List.getElem?_eq_getElem hi, List.getElem?_eq_getElem hj, e])
theorem one_str {d : List D} (h : FitL tb [.cell (.sc .s)] d) : ∃ s, d = [sD s] := by
  match d, h with
  | [a], ⟨h1, _⟩ =>
    obtain ⟨l, rfl⟩ := fits_str h1
    exact ⟨l, rfl⟩
/-- calamus/calamusref04.unlike: func 97, params [23], ntmps 25. -/
-- head 0 of loop 0: [t0 .sh (.cell (.sl 9)), t3 .sh (.cell (.sc (.i .i64)))]
-- head 1 of loop 1: [t0 .sh (.cell (.sl 9)), t3 .sh (.cell (.sc (.i .i64))), t4 .sh (.cell (.sc (.i .i64)))]
def heads_runlike : List Hd := [⟨0, [.sh (.cell (.sl 9)), .any, .any, .sh (.cell (.sc (.i .i64))), .any, .any, .any, .any, .any, .any, .any, .any, .any, .any, .any, .any, .any, .any, .any, .any, .any, .any, .any, .any, .any]⟩, ⟨1, [.sh (.cell (.sl 9)), .any, .any, .sh (.cell (.sc (.i .i64))), .sh (.cell (.sc (.i .i64))), .any, .any, .any, .any, .any, .any, .any, .any, .any, .any, .any, .any, .any, .any, .any, .any, .any, .any, .any, .any]⟩]
def entry_runlike : Tree :=
 (.leaf (.go 0 [(.var 0), (.lit (.int .i64 0))]))
def head_runlike_0 : Tree :=
 (.ite (.pr (.icmp .lss) [(.var 1), (.pr .len [(.var 0)])])
 (.leaf (.go 1 [(.var 0), (.var 1), (.lit (.int .i64 0))]))
 (.leaf (.ret (.lit (.bool true)))))
def head_runlike_1 : Tree :=
 (.ite (.pr (.icmp .lss) [(.var 2), (.var 1)])
 (.giv (.pr (.icmp .leq) [(.lit (.int .i64 0)), (.var 1)])
 (.giv (.pr (.icmp .lss) [(.var 1), (.pr .len [(.var 0)])])
 (.giv (.pr (.icmp .leq) [(.lit (.int .i64 0)), (.var 2)])
 (.giv (.pr (.icmp .lss) [(.var 2), (.pr .len [(.var 0)])])
 (.ite (.pr (.scmp .eql) [(.pr (.cell 0) [(.pr .at [(.var 0), (.var 1)])]), (.pr (.cell 0) [(.pr .at [(.var 0), (.var 2)])])])
 (.leaf (.ret (.lit (.bool false))))
 (.leaf (.go 1 [(.var 0), (.var 1), (.pr (.iop .add .i64) [(.var 2), (.lit (.int .i64 1))])])))))))
 (.leaf (.go 0 [(.var 0), (.pr (.iop .add .i64) [(.var 1), (.lit (.int .i64 1))])])))
def trees_runlike : List Tree := [head_runlike_0, head_runlike_1]
noncomputable def deps_runlike : List Sig := []
theorem ok_runlike : check q_runlike deps_runlike heads_runlike entry_runlike trees_runlike = true := by kernel_rfl
theorem runlike_ok (n : Nat) : @Ok (I n) q_runlike (okD n) := by
  letI := I n
  refine fn_ok (hphi n) ok_runlike (by intro q hq; simp [deps_runlike] at hq)
    (fun j d ds => ∃ (l : List ByteArray) (i k : Nat), l.length ≤ lim ∧ d = bD (decide l.Nodup) ∧ (∀ a b, a < b → b < i → l[a]? ≠ l[b]?) ∧
      ((j = 0 ∧ i ≤ l.length ∧ ds = [strsD l, iD i]) ∨ (j = 1 ∧ i < l.length ∧ k ≤ i ∧ (∀ a, a < k → l[a]? ≠ l[i]?) ∧ ds = [strsD l, iD i, iD k])))
    (fun j ds => let L := (ds.getD 0 .nil).rows.length; let i := (ds.getD 1 .nil).int.toNat
      if j = 0 then (L - i) * (L + 2) else (L - i) * (L + 2) - 1 - (ds.getD 2 .nil).int.toNat) ?_ ?_
  · intro ds hf hp
    obtain ⟨l, rfl⟩ := one_strs hf
    have hl := (lim_strs.1 (okD_one.1 hp).2).1
    simp only [entry_runlike, Tree.holds, Out.den, E.den, E.denL, den1, den2, den3, den4, den5, den6, den7, den8, Bool.not_eq_true', Bool.not_eq_false', List.getD_cons_zero, List.getD_cons_succ, true_and, and_true, List.length_map, phi_1000, q_runlike, phi_runlike]
    exact ⟨l, 0, 0, hl, rfl, fun a b _ h => by omega, .inl ⟨Nat.zero_le _, rfl⟩⟩
  · rintro j h t d ds hj ht hf ⟨l, i, k, hl, rfl, hn, ⟨rfl, hi, rfl⟩ | ⟨rfl, hi, hk, hx, rfl⟩⟩
    · obtain rfl : t = head_runlike_0 := (Option.some.inj ht).symm
      simp only [head_runlike_0, Tree.holds, Out.den, E.den, E.denL, den1, den2, den3, den4, den5, den6, den7, den8, Bool.not_eq_true', Bool.not_eq_false', List.getD_cons_zero, List.getD_cons_succ, true_and, and_true, List.length_map, phi_1000]
      refine ⟨fun h => ⟨⟨l, i, 0, hl, rfl, hn, .inr ⟨by omega, Nat.zero_le _, fun a ha => by omega, rfl⟩⟩, ?_⟩, fun h => ?_⟩
      · simp only [if_true]
        rw [if_neg (by decide)]
        have : 1 * (l.length + 2) ≤ (l.length - i) * (l.length + 2) := Nat.mul_le_mul_right _ (by omega)
        simp only [Int.toNat_natCast, Int.toNat_zero]
        omega
      · rw [decide_eq_true ((nodup_iff l).2 fun a b h1 h2 => hn a b h1 (by omega))]
    · obtain rfl : t = head_runlike_1 := (Option.some.inj ht).symm
      obtain ⟨x, hxi, _, _⟩ := drop_get hi
      have hm : 1 * (l.length + 2) ≤ (l.length - i) * (l.length + 2) := Nat.mul_le_mul_right _ (by omega)
      by_cases hlt : k < i
      · obtain ⟨y, hyk, _, _⟩ := drop_get (show k < l.length by omega)
        simp only [head_runlike_1, Tree.holds, Out.den, E.den, E.denL, den1, den2, den3, den4, den5, den6, den7, den8, Bool.not_eq_true', Bool.not_eq_false', List.getD_cons_zero, List.getD_cons_succ, true_and, and_true, List.length_map, phi_1000, rowAt_map hxi, rowAt_map hyk, wrap_succ hi hl, wrap_succ (show k < l.length by omega) hl]
        refine ⟨fun _ => ⟨by omega, by omega, by omega, by omega, fun hb => ?_, fun hb => ⟨⟨l, i, k + 1, hl, rfl, hn, .inr ⟨hi, hlt, ?_, rfl⟩⟩, ?_⟩⟩, fun h => by omega⟩
        · rw [decide_eq_false fun hd => (nodup_iff l).1 hd k i hlt hi (by rw [hxi, hyk, hb])]
        · intro a ha
          rcases Nat.lt_or_ge a k with h | h
          · exact hx a h
          · obtain rfl : a = k := by omega
            rw [hxi, hyk]; intro e; exact hb (Option.some.inj e).symm
        · rw [if_neg (by decide), if_neg (by decide)]
          simp only [Int.toNat_natCast]
          omega
      · obtain rfl : k = i := by omega
        simp only [head_runlike_1, Tree.holds, Out.den, E.den, E.denL, den1, den2, den3, den4, den5, den6, den7, den8, Bool.not_eq_true', Bool.not_eq_false', List.getD_cons_zero, List.getD_cons_succ, true_and, and_true, List.length_map, phi_1000, wrap_succ hi hl]
        refine ⟨fun h => by omega, fun _ => ⟨⟨l, k + 1, 0, hl, rfl, fun a b h1 h2 => ?_, .inl ⟨hi, rfl⟩⟩, ?_⟩⟩
        · rcases Nat.lt_or_ge b k with h | h
          · exact hn a b h1 h
          · obtain rfl : b = k := by omega
            exact hx a h1
        · rw [if_pos trivial, if_neg (by decide)]
          simp only [Int.toNat_natCast]
          have e : l.length - k = (l.length - (k + 1)) + 1 := by omega
          rw [e, Nat.add_mul]
          omega
/-- calamus/calamusref01.all: func 108, params [9], ntmps 23. -/
-- head 0 of loop 0: [t0 .sh (.cell (.sc .s)), t3 .sh (.cell (.sc (.i .i64)))]
def heads_rall : List Hd := [⟨0, [.sh (.cell (.sc .s)), .any, .any, .sh (.cell (.sc (.i .i64))), .any, .any, .any, .any, .any, .any, .any, .any, .any, .any, .any, .any, .any, .any, .any, .any, .any, .any, .any]⟩]
def entry_rall : Tree :=
 (.leaf (.go 0 [(.var 0), (.lit (.int .i64 0))]))
def head_rall_0 : Tree :=
 (.ite (.pr (.icmp .lss) [(.var 1), (.pr .slen [(.var 0)])])
 (.giv (.pr (.icmp .leq) [(.lit (.int .i64 0)), (.var 1)])
 (.ite (.pr (.icmp .lss) [(.pr .sat [(.var 0), (.var 1)]), (.lit (.int .u8 48))])
 (.leaf (.ret (.lit (.bool false))))
 (.ite (.pr (.icmp .gtr) [(.pr .sat [(.var 0), (.var 1)]), (.lit (.int .u8 57))])
 (.leaf (.ret (.lit (.bool false))))
 (.leaf (.go 0 [(.var 0), (.pr (.iop .add .i64) [(.var 1), (.lit (.int .i64 1))])])))))
 (.leaf (.ret (.pr (.icmp .gtr) [(.pr .slen [(.var 0)]), (.lit (.int .i64 0))]))))
def trees_rall : List Tree := [head_rall_0]
noncomputable def deps_rall : List Sig := []
theorem ok_rall : check q_rall deps_rall heads_rall entry_rall trees_rall = true := by kernel_rfl
def isDig (c : UInt8) : Bool := decide (48 ≤ c.toNat ∧ c.toNat ≤ 57)
theorem size_len (s : ByteArray) : s.size = s.data.toList.length := by rw [Array.length_toList]; rfl
theorem rall_ok (n : Nat) : @Ok (I n) q_rall (okD n) := by
  letI := I n
  refine fn_ok (hphi n) ok_rall (by intro q hq; simp [deps_rall] at hq)
    (fun j d ds => ∃ (s : ByteArray) (i : Nat), ds = [sD s, iD i] ∧ i ≤ s.size ∧ s.size ≤ lim ∧ d = bD ((s.data.toList.drop i).all isDig && decide (s.data.toList ≠ [])))
    (fun j ds => (ds.getD 0 .nil).str.size - (ds.getD 1 .nil).int.toNat) ?_ ?_
  · intro ds hf hp
    obtain ⟨s, rfl⟩ := one_str hf
    have hl := lim_sD.1 (okD_one.1 hp).2
    simp only [entry_rall, Tree.holds, Out.den, E.den, E.denL, den1, den2, den3, den4, den5, den6, den7, den8, Bool.not_eq_true', Bool.not_eq_false', List.getD_cons_zero, List.getD_cons_succ, true_and, and_true, List.length_map, phi_1000, q_rall, phi_rall]
    exact ⟨s, 0, rfl, Nat.zero_le _, hl, rfl⟩
  · rintro j h t d ds hj ht hf ⟨s, i, rfl, hi, hl, rfl⟩
    obtain rfl : t = head_rall_0 := by
      match j, ht with
      | 0, ht => exact (Option.some.inj ht).symm
    by_cases hlt : i < s.size
    · obtain ⟨x, hx, _, hd⟩ := drop_get (show i < s.data.toList.length by rw [← size_len]; exact hlt)
      have hx' : s.data.toList.getD i 0 = x := by rw [List.getD_eq_getElem?_getD, hx]; rfl
      simp only [head_rall_0, Tree.holds, Out.den, E.den, E.denL, den1, den2, den3, den4, den5, den6, den7, den8, Bool.not_eq_true', Bool.not_eq_false', List.getD_cons_zero, List.getD_cons_succ, true_and, and_true, List.length_map, phi_1000, wrap_succ hlt hl, Int.toNat_natCast, hx']
      rw [hd, List.all_cons]
      refine ⟨fun _ => ⟨by omega, fun hb => ?_, fun hb => ⟨fun hc => ?_, fun hc => ⟨⟨s, i + 1, rfl, hlt, hl, ?_⟩, by omega⟩⟩⟩, fun h => by omega⟩
      · rw [show isDig x = false from decide_eq_false fun h => by omega]; rfl
      · rw [show isDig x = false from decide_eq_false fun h => by omega]; rfl
      · rw [show isDig x = true from decide_eq_true ⟨by omega, by omega⟩]; rfl
    · simp only [head_rall_0, Tree.holds, Out.den, E.den, E.denL, den1, den2, den3, den4, den5, den6, den7, den8, Bool.not_eq_true', Bool.not_eq_false', List.getD_cons_zero, List.getD_cons_succ, true_and, and_true, List.length_map, phi_1000]
      refine ⟨fun h => by omega, fun _ => ?_⟩
      rw [List.drop_eq_nil_of_le (by rw [← size_len]; omega)]
      have : ltI 0 s.size = decide (s.data.toList ≠ []) := by
        rw [Bool.eq_iff_iff, ltI_t, decide_eq_true_iff, size_len]
        rw [ne_eq, ← List.length_eq_zero_iff]
        omega
      rw [this]; rfl
end Go.Proofs.YtaeeblcdggjokaaGreatDoor.Vk
/- The chapter's examples. -/
namespace Go.Proofs.YtaeeblcdggjokaaGreatDoor.Vk
open Go Go.Ab Go.RowKit
set_option maxRecDepth 100000
set_option linter.unusedVariables false
set_option linter.unusedSimpArgs false
set_option linter.unusedSectionVars false
set_option linter.constructorNameAsVariable false
def muA (f : Nat) : Bool := match f with | 125 => true | _ => false
theorem awake_run : isTrue (evFn Tryz.prog (tabsG tabs) muA (evDrawnX Tryz.prog (tabsG tabs)) 100000 noOrc 200 (.func 17) [] none0) = true := by kernel_rfl
theorem awake {W : World} (h : TabsMet tabs W) : Calls Tryz.prog 17 #[] W fun e W' => e = .returned (.bool true) ∧ Below W.heap.size W W' := by
  haveI : Interp := ⟨fun _ _ => .nil⟩
  exact calls_of_true noOrc_ok noNum Tryz.checked.mixed (glob_of_tabs h) (fun _ => VRl_nil) awake_run
theorem awake_ok (n : Nat) (pre : List D → Prop) : @Ok (I n) q_awake pre := by
  letI := I n
  refine ok_scalar (t := .b) rfl fun W vs ds hL ha hp => ?_
  have hv : vs = #[] ∧ ds = [] := by
    obtain ⟨vs⟩ := vs
    cases vs with
    | nil => cases ds with | nil => exact ⟨rfl, rfl⟩ | cons _ _ => exact ha.elim
    | cons _ _ => cases ds <;> exact ha.elim
  obtain ⟨rfl, rfl⟩ := hv
  refine (awake hL).mono ?_
  rintro e W' ⟨rfl, hb⟩
  exact ⟨_, rfl, hb, phi_awake n, rfl⟩
end Go.Proofs.YtaeeblcdggjokaaGreatDoor.Vk
/- Contract: value.Cmp; the law's functions. -/
namespace Go.Proofs.YtaeeblcdggjokaaGreatDoor.Vk
open Go Go.Ab Go.RowKit
set_option maxRecDepth 100000
set_option linter.unusedVariables false
set_option linter.unusedSimpArgs false
set_option linter.unusedSectionVars false
set_option linter.constructorNameAsVariable false
theorem check_good {v : Val} (h : checkV v = 0) : good v = true := by
  unfold checkV at h
  rw [good_iff]
  by_cases h1 : formedV v = true
  · rw [if_pos h1] at h
    by_cases h2 : shortV v = true
    · exact ⟨h1, h2⟩
    · rw [if_neg h2] at h; cases h
  · rw [if_neg h1] at h; cases h
theorem order_ok' (n : Nat) : @Ok (I n) q_order (@okS (I n) n q_order.g) := order_ok n
/-- calamus/value.Cmp: func 24, params [33, 33], ntmps 26. -/
-- head 0 of loop 0: [t2 .rf 33, t3 .rf 33, t11 .sh (.cell (.sl 33)), t12 .sh (.cell (.sc (.i .i64))), t13 .sh (.cell (.sc (.i .i64)))]
def heads_vcmp : List Hd := [⟨0, [.any, .any, .rf 33, .rf 33, .any, .any, .any, .any, .any, .any, .any, .sh (.cell (.sl 33)), .sh (.cell (.sc (.i .i64))), .sh (.cell (.sc (.i .i64))), .any, .any, .any, .any, .any, .any, .any, .any, .any, .any, .any, .any]⟩]
def entry_vcmp : Tree :=
 (.leaf (.go 0 [(.pr .row [(.pr (.cell 0) [(.var 0)]), (.pr (.cell 1) [(.var 0)]), (.pr (.cell 2) [(.var 0)]), (.pr (.cell 3) [(.var 0)]), (.pr (.cell 4) [(.var 0)]), (.pr (.cell 5) [(.var 0)]), (.pr (.cell 6) [(.var 0)]), (.pr (.cell 7) [(.var 0)]), (.pr (.cell 8) [(.var 0)])]), (.pr .row [(.pr (.cell 0) [(.var 1)]), (.pr (.cell 1) [(.var 1)]), (.pr (.cell 2) [(.var 1)]), (.pr (.cell 3) [(.var 1)]), (.pr (.cell 4) [(.var 1)]), (.pr (.cell 5) [(.var 1)]), (.pr (.cell 6) [(.var 1)]), (.pr (.cell 7) [(.var 1)]), (.pr (.cell 8) [(.var 1)])]), (.pr .lst [(.pr .row [(.pr (.cell 0) [(.var 0)]), (.pr (.cell 1) [(.var 0)]), (.pr (.cell 2) [(.var 0)]), (.pr (.cell 3) [(.var 0)]), (.pr (.cell 4) [(.var 0)]), (.pr (.cell 5) [(.var 0)]), (.pr (.cell 6) [(.var 0)]), (.pr (.cell 7) [(.var 0)]), (.pr (.cell 8) [(.var 0)])]), (.pr .row [(.pr (.cell 0) [(.var 1)]), (.pr (.cell 1) [(.var 1)]), (.pr (.cell 2) [(.var 1)]), (.pr (.cell 3) [(.var 1)]), (.pr (.cell 4) [(.var 1)]), (.pr (.cell 5) [(.var 1)]), (.pr (.cell 6) [(.var 1)]), (.pr (.cell 7) [(.var 1)]), (.pr (.cell 8) [(.var 1)])])]), (.lit (.int .i64 2)), (.lit (.int .i64 0))]))
def head_vcmp_0 : Tree :=
 (.ite (.pr (.icmp .lss) [(.var 4), (.var 3)])
 (.giv (.pr (.icmp .leq) [(.lit (.int .i64 0)), (.var 4)])
 (.giv (.pr (.icmp .lss) [(.var 4), (.pr .len [(.var 2)])])
 (.giv (.app 1000 [(.pr .row [(.pr (.cell 0) [(.pr .at [(.var 2), (.var 4)])]), (.pr (.cell 1) [(.pr .at [(.var 2), (.var 4)])]), (.pr (.cell 2) [(.pr .at [(.var 2), (.var 4)])]), (.pr (.cell 3) [(.pr .at [(.var 2), (.var 4)])]), (.pr (.cell 4) [(.pr .at [(.var 2), (.var 4)])]), (.pr (.cell 5) [(.pr .at [(.var 2), (.var 4)])]), (.pr (.cell 6) [(.pr .at [(.var 2), (.var 4)])]), (.pr (.cell 7) [(.pr .at [(.var 2), (.var 4)])]), (.pr (.cell 8) [(.pr .at [(.var 2), (.var 4)])])])])
 (.ite (.pr (.icmp .neq) [(.app 13 [(.pr .row [(.pr (.cell 0) [(.pr .at [(.var 2), (.var 4)])]), (.pr (.cell 1) [(.pr .at [(.var 2), (.var 4)])]), (.pr (.cell 2) [(.pr .at [(.var 2), (.var 4)])]), (.pr (.cell 3) [(.pr .at [(.var 2), (.var 4)])]), (.pr (.cell 4) [(.pr .at [(.var 2), (.var 4)])]), (.pr (.cell 5) [(.pr .at [(.var 2), (.var 4)])]), (.pr (.cell 6) [(.pr .at [(.var 2), (.var 4)])]), (.pr (.cell 7) [(.pr .at [(.var 2), (.var 4)])]), (.pr (.cell 8) [(.pr .at [(.var 2), (.var 4)])])])]), (.lit (.int .i64 0))])
 (.leaf (.ret (.pr .row [(.lit (.int .i64 0)), (.app 13 [(.pr .row [(.pr (.cell 0) [(.pr .at [(.var 2), (.var 4)])]), (.pr (.cell 1) [(.pr .at [(.var 2), (.var 4)])]), (.pr (.cell 2) [(.pr .at [(.var 2), (.var 4)])]), (.pr (.cell 3) [(.pr .at [(.var 2), (.var 4)])]), (.pr (.cell 4) [(.pr .at [(.var 2), (.var 4)])]), (.pr (.cell 5) [(.pr .at [(.var 2), (.var 4)])]), (.pr (.cell 6) [(.pr .at [(.var 2), (.var 4)])]), (.pr (.cell 7) [(.pr .at [(.var 2), (.var 4)])]), (.pr (.cell 8) [(.pr .at [(.var 2), (.var 4)])])])])])))
 (.leaf (.go 0 [(.var 0), (.var 1), (.var 2), (.var 3), (.pr (.iop .add .i64) [(.var 4), (.lit (.int .i64 1))])]))))))
 (.giv (.app 1000 [(.pr .row [(.pr (.cell 0) [(.var 0)]), (.pr (.cell 1) [(.var 0)]), (.pr (.cell 2) [(.var 0)]), (.pr (.cell 3) [(.var 0)]), (.pr (.cell 4) [(.var 0)]), (.pr (.cell 5) [(.var 0)]), (.pr (.cell 6) [(.var 0)]), (.pr (.cell 7) [(.var 0)]), (.pr (.cell 8) [(.var 0)])]), (.pr .row [(.pr (.cell 0) [(.var 1)]), (.pr (.cell 1) [(.var 1)]), (.pr (.cell 2) [(.var 1)]), (.pr (.cell 3) [(.var 1)]), (.pr (.cell 4) [(.var 1)]), (.pr (.cell 5) [(.var 1)]), (.pr (.cell 6) [(.var 1)]), (.pr (.cell 7) [(.var 1)]), (.pr (.cell 8) [(.var 1)])])])
 (.giv (.app 2024 [(.pr .row [(.pr (.cell 0) [(.var 0)]), (.pr (.cell 1) [(.var 0)]), (.pr (.cell 2) [(.var 0)]), (.pr (.cell 3) [(.var 0)]), (.pr (.cell 4) [(.var 0)]), (.pr (.cell 5) [(.var 0)]), (.pr (.cell 6) [(.var 0)]), (.pr (.cell 7) [(.var 0)]), (.pr (.cell 8) [(.var 0)])]), (.pr .row [(.pr (.cell 0) [(.var 1)]), (.pr (.cell 1) [(.var 1)]), (.pr (.cell 2) [(.var 1)]), (.pr (.cell 3) [(.var 1)]), (.pr (.cell 4) [(.var 1)]), (.pr (.cell 5) [(.var 1)]), (.pr (.cell 6) [(.var 1)]), (.pr (.cell 7) [(.var 1)]), (.pr (.cell 8) [(.var 1)])])])
 (.leaf (.ret (.pr .row [(.app 24 [(.pr .row [(.pr (.cell 0) [(.var 0)]), (.pr (.cell 1) [(.var 0)]), (.pr (.cell 2) [(.var 0)]), (.pr (.cell 3) [(.var 0)]), (.pr (.cell 4) [(.var 0)]), (.pr (.cell 5) [(.var 0)]), (.pr (.cell 6) [(.var 0)]), (.pr (.cell 7) [(.var 0)]), (.pr (.cell 8) [(.var 0)])]), (.pr .row [(.pr (.cell 0) [(.var 1)]), (.pr (.cell 1) [(.var 1)]), (.pr (.cell 2) [(.var 1)]), (.pr (.cell 3) [(.var 1)]), (.pr (.cell 4) [(.var 1)]), (.pr (.cell 5) [(.var 1)]), (.pr (.cell 6) [(.var 1)]), (.pr (.cell 7) [(.var 1)]), (.pr (.cell 8) [(.var 1)])])]), (.lit (.int .i64 0))]))))))
def trees_vcmp : List Tree := [head_vcmp_0]
noncomputable def deps_vcmp : List Sig := [q_check, q_order]
theorem ok_vcmp : check q_vcmp deps_vcmp heads_vcmp entry_vcmp trees_vcmp = true := by kernel_rfl
theorem vcmp_ok (n : Nat) : @Ok (I n) q_vcmp (okD n) := by
  letI := I n
  refine fn_okS (hphi n) ok_vcmp (by
    intro q hq
    simp only [deps_vcmp, List.mem_cons, List.not_mem_nil, or_false] at hq
    rcases hq with rfl | rfl
    · exact okS_of (check_ok n)
    · exact order_ok n)
    (fun _ d ds => ∃ (a b : Val) (i : Nat), ds = [a.toD, b.toD, valsD [a, b], iD 2, iD i] ∧ i ≤ 2 ∧ okD n [a.toD, b.toD] ∧ (1 ≤ i → checkV a = 0) ∧ (2 ≤ i → checkV b = 0) ∧ d = .row [iD (vcmpV a b).1, iD (vcmpV a b).2])
    (fun _ ds => 2 - (ds.getD 4 .nil).int.toNat) ?_ ?_
  · intro ds hf hp
    obtain ⟨a, b, rfl⟩ := two_val hf
    simp only [entry_vcmp, q_vcmp, Tree.holds, Out.den, E.den, E.denL, den1, den2, den3, den4, den5, den6, den7, den8, Bool.not_eq_true', Bool.not_eq_false', List.getD_cons_zero, List.getD_cons_succ, true_and, and_true, List.length_map, phi_1000, phi_vcmp]
    exact ⟨a, b, 0, rfl, by omega, hp, fun h => by omega, fun h => by omega, rfl⟩
  · rintro j h t d ds hj ht hf ⟨a, b, i, rfl, hi, ho, h1, h2, rfl⟩
    obtain rfl : t = head_vcmp_0 := by
      match j, ht with
      | 0, ht => exact (Option.some.inj ht).symm
    obtain ⟨k1, k2, k3⟩ := okD_two.1 ho
    have oa : okD n [a.toD] := okD_one.2 ⟨by omega, k2⟩
    have ob : okD n [b.toD] := okD_one.2 ⟨by omega, k3⟩
    match i, hi, h1, h2, hf with
    | 0, _, h1, h2, hf =>
      have hx : [a, b][0]? = some a := rfl
      have hx := rowAt_map (f := Val.toD) hx
      simp only [head_vcmp_0, Tree.holds, Out.den, E.den, E.denL, den1, den2, den3, den4, den5, den6, den7, den8, Bool.not_eq_true', Bool.not_eq_false', List.getD_cons_zero, List.getD_cons_succ, true_and, and_true, List.length_map, phi_1000, hx, phi_check, phi_order, phi_vcmp, oa]
      unfold vcmpV
      refine ⟨fun _ => ⟨by omega, by show (0 : Int) < ((2 : Nat) : Int); omega, fun h => ?_, fun h => ⟨⟨a, b, 1, rfl, by omega, ho, fun _ => h, fun h => by omega, ?_⟩, by decide⟩⟩, fun h => absurd (by decide) h⟩
      · rw [if_pos h]
      · rfl
    | 1, _, h1, h2, hf =>
      have hx : [a, b][1]? = some b := rfl
      have hx := rowAt_map (f := Val.toD) hx
      have h1 := h1 (by omega)
      simp only [head_vcmp_0, Tree.holds, Out.den, E.den, E.denL, den1, den2, den3, den4, den5, den6, den7, den8, Bool.not_eq_true', Bool.not_eq_false', List.getD_cons_zero, List.getD_cons_succ, true_and, and_true, List.length_map, phi_1000, hx, phi_check, phi_order, phi_vcmp, ob]
      unfold vcmpV
      refine ⟨fun _ => ⟨by omega, by show (1 : Int) < ((2 : Nat) : Int); omega, fun h => ?_, fun h => ⟨⟨a, b, 2, rfl, by omega, ho, fun _ => h1, fun _ => h, ?_⟩, by decide⟩⟩, fun h => absurd (by decide) h⟩
      · rw [if_neg (by simp [h1]), if_pos h]
      · rfl
    | 2, _, h1, h2, hf =>
      have h1 := h1 (by omega)
      have h2 := h2 (by omega)
      simp only [head_vcmp_0, Tree.holds, Out.den, E.den, E.denL, den1, den2, den3, den4, den5, den6, den7, den8, Bool.not_eq_true', Bool.not_eq_false', List.getD_cons_zero, List.getD_cons_succ, true_and, and_true, List.length_map, phi_1000, phi_check, phi_order, phi_vcmp, pre_order, ho, check_good h1, check_good h2]
      unfold vcmpV
      refine ⟨fun h => absurd h (by decide), fun _ => ?_⟩
      rw [if_neg (by simp [h1]), if_neg (by simp [h2])]
theorem cmpS_self (a : ByteArray) : cmpS a a = 0 := by
  unfold cmpS
  generalize a.data.toList = l
  induction l with
  | nil => rfl
  | cons x r ih =>
    rw [Lib.compareBytes, if_neg (by simp), if_neg (by simp)]
    exact ih
theorem numcmp_self {a : Bool} {d : ByteArray} {e : Int} (h : numV a d e = 0) : (numcmpV a d e a d e).1 = 0 := by
  unfold numcmpV
  rw [if_neg (by simp [h]), if_neg (by simp [h]), if_pos ⟨rfl, rfl, rfl⟩]
theorem rowsG_self {α : Type} {c : α → α → Int} : ∀ (l : List α), (∀ x, x ∈ l → c x x = 0) → rowsG c l l = 0
  | [], _ => rfl
  | x :: r, h => by rw [rowsG, if_pos (h x (List.mem_cons_self ..)), rowsG_self r fun y hy => h y (List.mem_cons_of_mem _ hy)]
/-- A good value stands where it stands. -/
theorem order_self : ∀ v, good v = true → orderV v v = 0 := by
  apply val_ind
  intro v ih hv
  have hl : ∀ x, x ∈ v.list → orderV x x = 0 := fun x hx => ih x hx (good_mem hv hx)
  have hp : ∀ p, p ∈ v.names.zip v.list → pairC orderV p p = 0 := fun p hp => by unfold pairC; rw [if_pos (cmpS_self _), hl _ (zip_mem hp).2]
  have hn : v.kind = 3 → (numcmpV v.neg v.dig v.exp v.neg v.dig v.exp).1 = 0 := fun h => numcmp_self ((formed_parts (good_iff.1 hv).1).2.2 h)
  rw [orderV_eq, rowsG_self _ hl, rowsG_self _ hp, cmpS_self, if_neg (by omega), if_neg (by omega)]
  unfold cmpZ
  grind
theorem eqV_self (a : Val) : eqV a a = true := @decide_eq_true _ (Classical.propDecidable _) rfl
theorem vcmp_snd (a b : Val) : (vcmpV a b).2 = 0 ↔ checkV a = 0 ∧ checkV b = 0 := by
  unfold vcmpV
  by_cases h1 : checkV a = 0
  · by_cases h2 : checkV b = 0
    · simp [h1, h2]
    · simp [h1, h2]
  · simp [h1]
theorem vcmp_fst {a b : Val} (h1 : checkV a = 0) (h2 : checkV b = 0) : (vcmpV a b).1 = orderV a b := by
  unfold vcmpV
  rw [if_neg (by simp [h1]), if_neg (by simp [h2])]
end Go.Proofs.YtaeeblcdggjokaaGreatDoor.Vk
/- The order of values is one: plain Lean. -/
namespace Go.Proofs.YtaeeblcdggjokaaGreatDoor.Vk
open Go Go.Ab Go.RowKit
set_option maxRecDepth 100000
set_option linter.unusedVariables false
set_option linter.unusedSimpArgs false
set_option linter.unusedSectionVars false
set_option linter.constructorNameAsVariable false
/-- What a comparison has to be at one of those that stand in the order. -/
structure OrdAt {α : Type} (c : α → α → Int) (S : α → Prop) (x : α) : Prop where
  rng : ∀ y, S y → c x y = -1 ∨ c x y = 0 ∨ c x y = 1
  anti : ∀ y, S y → c y x = - c x y
  zero : ∀ y, S y → c x y = 0 → x = y
  trans : ∀ y z, S y → S z → c x y = -1 → c y z ≤ 0 → c x z = -1
theorem cmpZ_lt {a b : Int} : cmpZ a b = -1 ↔ a < b := by unfold cmpZ; split <;> (try split) <;> omega
theorem cmpZ_eq {a b : Int} : cmpZ a b = 0 ↔ a = b := by unfold cmpZ; split <;> (try split) <;> omega
theorem cmpZ_le {a b : Int} : cmpZ a b ≤ 0 ↔ a ≤ b := by unfold cmpZ; split <;> (try split) <;> omega
theorem cmpZ_rng (a b : Int) : cmpZ a b = -1 ∨ cmpZ a b = 0 ∨ cmpZ a b = 1 := by unfold cmpZ; split <;> (try split) <;> omega
theorem cmpZ_anti (a b : Int) : cmpZ b a = - cmpZ a b := by unfold cmpZ; split <;> (try split) <;> (try split) <;> omega
/-- By a number that tells all. -/
theorem ord_key {α : Type} {c : α → α → Int} {S : α → Prop} (f : α → Int) (hc : ∀ x y, S x → S y → c x y = cmpZ (f x) (f y)) (hi : ∀ x y, S x → S y → f x = f y → x = y) {x : α} (hx : S x) : OrdAt c S x where
  rng y hy := by rw [hc x y hx hy]; exact cmpZ_rng _ _
  anti y hy := by rw [hc x y hx hy, hc y x hy hx]; exact cmpZ_anti _ _
  zero y hy h := by rw [hc x y hx hy, cmpZ_eq] at h; exact hi x y hx hy h
  trans y z hy hz h1 h2 := by
    rw [hc x y hx hy, cmpZ_lt] at h1
    rw [hc y z hy hz, cmpZ_le] at h2
    rw [hc x z hx hz, cmpZ_lt]; omega
theorem ltb {a b : UInt8} : a < b ↔ a.toNat < b.toNat := UInt8.lt_iff_toNat_lt
theorem ord_bytes : ∀ l : List UInt8, OrdAt Lib.compareBytes (fun _ => True) l
  | [] => {
    rng := fun y _ => by cases y <;> simp [Lib.compareBytes]
    anti := fun y _ => by cases y <;> simp [Lib.compareBytes]
    zero := fun y _ h => by cases y with | nil => rfl | cons _ _ => simp [Lib.compareBytes] at h
    trans := fun y z _ _ h1 h2 => by
      cases z with
      | nil => cases y <;> simp [Lib.compareBytes] at h1 h2
      | cons _ _ => rfl }
  | a :: us => by
    have ih := ord_bytes us
    have step : ∀ (x y : UInt8) (xs ys : List UInt8), Lib.compareBytes (x :: xs) (y :: ys) = if x < y then -1 else if y < x then 1 else Lib.compareBytes xs ys := fun _ _ _ _ => rfl
    refine ⟨fun y _ => ?_, fun y _ => ?_, fun y _ h => ?_, fun y z _ _ h1 h2 => ?_⟩
    · cases y with
      | nil => simp [Lib.compareBytes]
      | cons b bs => rw [step]; have := ih.rng bs trivial; split <;> (try split) <;> omega
    · cases y with
      | nil => simp [Lib.compareBytes]
      | cons b bs =>
        rw [step, step]
        have := ih.anti bs trivial
        simp only [ltb]
        split <;> (try split) <;> (try split) <;> (try split) <;> omega
    · cases y with
      | nil => simp [Lib.compareBytes] at h
      | cons b bs =>
        rw [step] at h
        simp only [ltb] at h
        split at h
        · omega
        · split at h
          · omega
          · have e : a = b := UInt8.toNat_inj.1 (by omega)
            rw [e, ih.zero bs trivial h]
    · cases y with
      | nil => simp [Lib.compareBytes] at h1
      | cons b bs =>
        cases z with
        | nil => simp [Lib.compareBytes] at h2
        | cons c cs =>
          rw [step] at h1 h2 ⊢
          simp only [ltb] at h1 h2 ⊢
          have k1 := ih.trans bs cs trivial trivial
          by_cases e1 : a.toNat < b.toNat
          · by_cases e2 : b.toNat < c.toNat
            · rw [if_pos (by omega)]
            · rw [if_neg e2] at h2
              split at h2
              · omega
              · rw [if_pos (by omega)]
          · rw [if_neg e1] at h1
            split at h1
            · omega
            · by_cases e2 : b.toNat < c.toNat
              · rw [if_pos (by omega)]
              · rw [if_neg e2] at h2
                split at h2
                · omega
                · rw [if_neg (by omega), if_neg (by omega)]
                  exact k1 h1 h2
theorem ord_cmpS (a : ByteArray) : OrdAt cmpS (fun _ => True) a where
  rng y _ := (ord_bytes a.data.toList).rng _ trivial
  anti y _ := (ord_bytes a.data.toList).anti _ trivial
  zero y _ h := ByteArray.ext (Array.toList_inj.1 ((ord_bytes a.data.toList).zero _ trivial h))
  trans y z _ _ h1 h2 := (ord_bytes a.data.toList).trans _ _ trivial trivial h1 h2
theorem ord_cmpZ (a : Int) : OrdAt cmpZ (fun _ => True) a := ord_key (fun x => x) (fun _ _ _ _ => rfl) (fun _ _ _ _ h => h) trivial
/-- Rows of what stands in an order. -/
theorem ord_rows {α : Type} {c : α → α → Int} {S : α → Prop} : ∀ l : List α, (∀ x, x ∈ l → OrdAt c S x ∧ c x x = 0) → OrdAt (rowsG c) (fun m => ∀ x, x ∈ m → S x) l
  | [], _ => {
    rng := fun y _ => by cases y <;> simp [rowsG]
    anti := fun y _ => by cases y <;> simp [rowsG]
    zero := fun y _ h => by cases y with | nil => rfl | cons _ _ => simp [rowsG] at h
    trans := fun y z _ _ h1 h2 => by
      cases z with
      | nil => cases y <;> simp [rowsG] at h1 h2
      | cons _ _ => rfl }
  | a :: us, h => by
    have ih := ord_rows us fun x hx => h x (List.mem_cons_of_mem _ hx)
    obtain ⟨ha, h0⟩ := h a (List.mem_cons_self ..)
    have step : ∀ (x y : α) (xs ys : List α), rowsG c (x :: xs) (y :: ys) = if c x y = 0 then rowsG c xs ys else c x y := fun _ _ _ _ => rfl
    refine ⟨fun y hy => ?_, fun y hy => ?_, fun y hy k => ?_, fun y z hy hz h1 h2 => ?_⟩
    · cases y with
      | nil => simp [rowsG]
      | cons b bs =>
        rw [step]
        have := ih.rng bs fun x hx => hy x (List.mem_cons_of_mem _ hx)
        have := ha.rng b (hy b (List.mem_cons_self ..))
        split <;> omega
    · cases y with
      | nil => simp [rowsG]
      | cons b bs =>
        rw [step, step]
        have k1 := ih.anti bs fun x hx => hy x (List.mem_cons_of_mem _ hx)
        have k2 := ha.anti b (hy b (List.mem_cons_self ..))
        split <;> split <;> omega
    · cases y with
      | nil => simp [rowsG] at k
      | cons b bs =>
        rw [step] at k
        split at k
        · rename_i e
          rw [ha.zero b (hy b (List.mem_cons_self ..)) e, ih.zero bs (fun x hx => hy x (List.mem_cons_of_mem _ hx)) k]
        · omega
    · cases y with
      | nil => simp [rowsG] at h1
      | cons b bs =>
        cases z with
        | nil => simp [rowsG] at h2
        | cons d ds =>
          rw [step] at h1 h2 ⊢
          have sb := hy b (List.mem_cons_self ..)
          have sd := hz d (List.mem_cons_self ..)
          have k1 := ih.trans bs ds (fun x hx => hy x (List.mem_cons_of_mem _ hx)) (fun x hx => hz x (List.mem_cons_of_mem _ hx))
          by_cases e1 : c a b = 0
          · rw [if_pos e1] at h1
            obtain rfl := ha.zero b sb e1
            by_cases e2 : c a d = 0
            · rw [if_pos e2] at h2 ⊢; exact k1 h1 h2
            · rw [if_neg e2] at h2 ⊢; have := ha.rng d sd; omega
          · rw [if_neg e1] at h1
            by_cases e2 : c b d = 0
            · have := ha.trans b d sb sd h1 (by omega)
              rw [if_neg (by omega)]; exact this
            · rw [if_neg e2] at h2
              have := ha.trans b d sb sd h1 h2
              rw [if_neg (by omega)]; exact this
theorem OrdAt.less {α : Type} {c : α → α → Int} {S T : α → Prop} {x : α} (h : OrdAt c S x) (hs : ∀ y, T y → S y) : OrdAt c T x where
  rng y hy := h.rng y (hs y hy)
  anti y hy := h.anti y (hs y hy)
  zero y hy := h.zero y (hs y hy)
  trans y z hy hz := h.trans y z (hs y hy) (hs z hz)
theorem ord_pair {c : Val → Val → Int} {S : Val → Prop} {p : ByteArray × Val} (h : OrdAt c S p.2) : OrdAt (pairC c) (fun q => S q.2) p := by
  have hb := ord_cmpS p.1
  refine ⟨fun y hy => ?_, fun y hy => ?_, fun y hy k => ?_, fun y z hy hz h1 h2 => ?_⟩
  · unfold pairC; have := hb.rng y.1 trivial; have := h.rng y.2 hy; split <;> omega
  · unfold pairC; have := hb.anti y.1 trivial; have := h.anti y.2 hy; split <;> split <;> omega
  · unfold pairC at k
    split at k
    · rename_i e
      exact Prod.ext (hb.zero _ trivial e) (h.zero _ hy k)
    · omega
  · unfold pairC at h1 h2 ⊢
    by_cases e1 : cmpS p.1 y.1 = 0
    · rw [if_pos e1] at h1
      have e := hb.zero _ trivial e1
      rw [e]
      by_cases e2 : cmpS y.1 z.1 = 0
      · rw [if_pos e2] at h2 ⊢; exact h.trans _ _ hy hz h1 h2
      · rw [if_neg e2] at h2 ⊢
        have := (ord_cmpS y.1).rng z.1 trivial
        omega
    · rw [if_neg e1] at h1
      have k : cmpS y.1 z.1 ≤ 0 := by
        by_cases e2 : cmpS y.1 z.1 = 0
        · omega
        · rw [if_neg e2] at h2; exact h2
      have := hb.trans y.1 z.1 trivial trivial h1 k
      rw [if_neg (by omega)]; exact this
/-! ### Numbers -/
def dvA : Nat → List UInt8 → Nat
  | acc, [] => acc
  | acc, x :: r => dvA (acc * 10 + (x.toNat - 48)) r
abbrev dv (l : List UInt8) : Nat := dvA 0 l
def Dig (l : List UInt8) : Prop := ∀ x, x ∈ l → 48 ≤ x.toNat ∧ x.toNat ≤ 57
theorem dvA_eq : ∀ (l : List UInt8) (acc : Nat), dvA acc l = acc * 10 ^ l.length + dv l
  | [], acc => by rw [List.length_nil, Nat.pow_zero, Nat.mul_one]; rfl
  | x :: r, acc => by
    show dvA (acc * 10 + (x.toNat - 48)) r = _ + dvA (0 * 10 + (x.toNat - 48)) r
    rw [dvA_eq r (acc * 10 + (x.toNat - 48)), dvA_eq r (0 * 10 + (x.toNat - 48)), List.length_cons, Nat.pow_succ, Nat.zero_mul, Nat.zero_add, Nat.add_mul, Nat.mul_assoc acc 10, Nat.mul_comm 10]
    omega
theorem dv_cons (x : UInt8) (r : List UInt8) : dv (x :: r) = (x.toNat - 48) * 10 ^ r.length + dv r := by
  show dvA (0 * 10 + (x.toNat - 48)) r = _
  rw [dvA_eq, Nat.zero_mul, Nat.zero_add]
theorem dv_append : ∀ (a b : List UInt8), dv (a ++ b) = dv a * 10 ^ b.length + dv b
  | [], b => by show dv b = 0 * _ + dv b; omega
  | x :: r, b => by
    rw [List.cons_append, dv_cons, dv_cons, dv_append r b, List.length_append, Nat.pow_add, Nat.add_mul, Nat.mul_assoc]
    omega
theorem dv_zeros : ∀ k, dv (List.replicate k 48) = 0
  | 0 => rfl
  | k + 1 => by rw [List.replicate_succ, dv_cons, dv_zeros k]; simp
theorem dv_lt : ∀ (l : List UInt8), Dig l → dv l < 10 ^ l.length
  | [], _ => by show 0 < 10 ^ 0; decide
  | x :: r, h => by
    have h1 := h x (List.mem_cons_self ..)
    have h2 := dv_lt r fun y hy => h y (List.mem_cons_of_mem _ hy)
    rw [dv_cons, List.length_cons, Nat.pow_succ]
    have : (x.toNat - 48) * 10 ^ r.length ≤ 9 * 10 ^ r.length := Nat.mul_le_mul_right _ (by omega)
    omega
/-- Digits of one length are held against each other as their numbers are. -/
theorem cmp_dv : ∀ (a b : List UInt8), a.length = b.length → Dig a → Dig b → Lib.compareBytes a b = cmpZ (dv a) (dv b)
  | [], [], _, _, _ => by simp [Lib.compareBytes, cmpZ]
  | [], _ :: _, h, _, _ => by simp at h
  | _ :: _, [], h, _, _ => by simp at h
  | x :: r, y :: t, h, ha, hb => by
    have hl : r.length = t.length := by simpa using h
    have ih := cmp_dv r t hl (fun z hz => ha z (List.mem_cons_of_mem _ hz)) (fun z hz => hb z (List.mem_cons_of_mem _ hz))
    have hx := ha x (List.mem_cons_self ..)
    have hy := hb y (List.mem_cons_self ..)
    have l1 := dv_lt r fun z hz => ha z (List.mem_cons_of_mem _ hz)
    have l2 := dv_lt t fun z hz => hb z (List.mem_cons_of_mem _ hz)
    rw [hl] at l1
    rw [dv_cons, dv_cons, hl]
    show (if x < y then -1 else if y < x then 1 else Lib.compareBytes r t) = _
    simp only [ltb]
    generalize 10 ^ t.length = T at *
    by_cases e1 : x.toNat < y.toNat
    · rw [if_pos e1]
      have : (x.toNat - 48 + 1) * T ≤ (y.toNat - 48) * T := Nat.mul_le_mul_right _ (by omega)
      rw [Nat.add_mul] at this
      exact (cmpZ_lt.2 (by omega)).symm
    · rw [if_neg e1]
      by_cases e2 : y.toNat < x.toNat
      · rw [if_pos e2]
        have : (y.toNat - 48 + 1) * T ≤ (x.toNat - 48) * T := Nat.mul_le_mul_right _ (by omega)
        rw [Nat.add_mul] at this
        have := (cmpZ_lt (a := ((y.toNat - 48) * T + dv t : Nat)) (b := ((x.toNat - 48) * T + dv r : Nat))).2 (by omega)
        have h2 := cmpZ_anti (((y.toNat - 48) * T + dv t : Nat) : Int) (((x.toNat - 48) * T + dv r : Nat) : Int)
        omega
      · rw [if_neg e2, ih]
        have e : x.toNat - 48 = y.toNat - 48 := by omega
        rw [e]
        unfold cmpZ
        split <;> split <;> (try split) <;> (try split) <;> omega
theorem dig_dv_inj {a b : List UInt8} (h : a.length = b.length) (ha : Dig a) (hb : Dig b) (he : dv a = dv b) : a = b :=
  (ord_bytes a).zero b trivial (by rw [cmp_dv a b h ha hb, cmpZ_eq]; omega)
end Go.Proofs.YtaeeblcdggjokaaGreatDoor.Vk
/- The order of values is one: numbers, values; ValueThree. -/
namespace Go.Proofs.YtaeeblcdggjokaaGreatDoor.Vk
open Go Go.Ab Go.RowKit
set_option maxRecDepth 100000
set_option linter.unusedVariables false
set_option linter.unusedSimpArgs false
set_option linter.unusedSectionVars false
set_option linter.constructorNameAsVariable false
theorem all_drop {p : UInt8 → Bool} : ∀ (l : List UInt8), (∀ x, x ∈ l.dropWhile p → p x = true) → ∀ x, x ∈ l → p x = true
  | [], _, x, hx => by cases hx
  | a :: r, h, x, hx => by
    rw [List.dropWhile_cons] at h
    cases ha : p a with
    | true =>
      rw [ha, if_pos rfl] at h
      rcases List.mem_cons.1 hx with rfl | hx
      · exact ha
      · exact all_drop r h x hx
    | false =>
      rw [ha, if_neg (by decide)] at h
      exact h x hx
theorem dig_trim {d : ByteArray} (h : trimV d tenDigits = ByteArray.empty) : Dig d.data.toList := by
  have h1 : Lib.trimS d.data.toList tenDigits.data.toList = [] := by
    unfold trimV at h
    have := congrArg (fun b : ByteArray => b.data.toList) h
    simpa using this
  unfold Lib.trimS Lib.trimLeftS at h1
  have h2 : ∀ x, x ∈ Lib.trimRightS d.data.toList tenDigits.data.toList → tenDigits.data.toList.contains x = true := fun x hx => by
    have := all_drop (p := (tenDigits.data.toList.contains ·)) _ (by rw [h1]; intro x hx; cases hx) x hx
    exact this
  unfold Lib.trimRightS at h2
  intro x hx
  have h3 := all_drop (p := (tenDigits.data.toList.contains ·)) d.data.toList.reverse (fun y hy => h2 y (List.mem_reverse.2 hy)) x (List.mem_reverse.2 hx)
  have h4 : ∀ y, tenDigits.data.toList.contains y = true → 48 ≤ y.toNat ∧ y.toNat ≤ 57 := by
    intro y hy
    have hy : y ∈ tenDigits.data.toList := by simpa using hy
    have hall : tenDigits.data.toList.all (fun y => decide (48 ≤ y.toNat ∧ y.toNat ≤ 57)) = true := by decide
    simpa using List.all_eq_true.1 hall y hy
  exact h4 x h3
/-- A number in its one form: nothing; or digits, the first and the last of them not a zero. -/
theorem canon {ng : Bool} {d : ByteArray} {e : Int} (h : numV ng d e = 0) :
    (ng = false ∧ d = one ∧ e = 0) ∨ (Dig d.data.toList ∧ (∃ x r, d.data.toList = x :: r ∧ x.toNat ≠ 48) ∧ (∃ r x, d.data.toList = r ++ [x] ∧ x.toNat ≠ 48)) := by
  unfold numV at h
  by_cases h0 : ng = false ∧ d = one ∧ e = 0
  · exact .inl h0
  rw [if_neg h0] at h
  by_cases h1 : d = ByteArray.empty
  · rw [if_pos h1] at h; omega
  rw [if_neg h1] at h
  by_cases h2 : trimV d tenDigits = ByteArray.empty
  · rw [if_neg (by simp [h2])] at h
    by_cases h3 : 40 < (d.size : Int)
    · rw [if_pos h3] at h; omega
    rw [if_neg h3] at h
    by_cases h4 : (d.data.toList.getD 0 0).toNat = 48
    · rw [if_pos h4] at h; omega
    rw [if_neg h4] at h
    by_cases h5 : d.extract (d.size - 1) d.size = one
    · rw [if_pos h5] at h; omega
    have hn : d.data.toList ≠ [] := fun hn => h1 (ByteArray.ext (Array.toList_inj.1 (by rw [hn]; rfl)))
    refine .inr ⟨dig_trim h2, ?_, ?_⟩
    · cases hl : d.data.toList with
      | nil => exact absurd hl hn
      | cons x r => rw [hl] at h4; exact ⟨x, r, rfl, h4⟩
    · refine ⟨d.data.toList.dropLast, d.data.toList.getLast hn, (List.dropLast_concat_getLast hn).symm, fun hx => h5 ?_⟩
      refine ByteArray.ext (Array.toList_inj.1 ?_)
      have hd : d.data.toList = d.data.toList.dropLast ++ [d.data.toList.getLast hn] := (List.dropLast_concat_getLast hn).symm
      have hs : d.size = d.data.toList.length := by rw [Array.length_toList]; rfl
      rw [ByteArray.data_extract, Array.toList_extract, hs]
      generalize d.data.toList.getLast hn = x at *
      have hx : x = 48 := UInt8.toNat_inj.1 hx
      subst hx
      rw [hd]
      simp [List.extract]
      rfl
  · rw [if_pos (by simp [h2])] at h; omega
abbrev kN (d : ByteArray) (e : Int) : Nat := dv d.data.toList * 10 ^ (e + 400).toNat
def keyN (t : Bool × ByteArray × Int) : Int := if t.1 then -(kN t.2.1 t.2.2 : Int) else kN t.2.1 t.2.2
def numOk (t : Bool × ByteArray × Int) : Prop := numV t.1 t.2.1 t.2.2 = 0
def numC (t u : Bool × ByteArray × Int) : Int := (numcmpV t.1 t.2.1 t.2.2 u.1 u.2.1 u.2.2).1
theorem pow_pos10 (n : Nat) : 0 < 10 ^ n := Nat.pow_pos (by decide)
theorem dv_pos {l : List UInt8} (h : ∃ x r, l = x :: r ∧ x.toNat ≠ 48) (hd : Dig l) : 10 ^ (l.length - 1) ≤ dv l := by
  obtain ⟨x, r, rfl, hx⟩ := h
  have := hd x (List.mem_cons_self ..)
  rw [dv_cons, List.length_cons, Nat.add_sub_cancel]
  have : 1 * 10 ^ r.length ≤ (x.toNat - 48) * 10 ^ r.length := Nat.mul_le_mul_right _ (by omega)
  omega
theorem dig_one : Dig one.data.toList := by
  intro x hx
  have hall : one.data.toList.all (fun y => decide (48 ≤ y.toNat ∧ y.toNat ≤ 57)) = true := by decide
  simpa using List.all_eq_true.1 hall x hx
theorem numOk_dig {t : Bool × ByteArray × Int} (h : numOk t) : Dig t.2.1.data.toList := by
  rcases canon h with ⟨_, h, _⟩ | ⟨h, _⟩
  · rw [h]; exact dig_one
  · exact h
theorem kN_zero {t : Bool × ByteArray × Int} (h : numOk t) : (kN t.2.1 t.2.2 = 0 → t = (false, one, 0)) ∧ (t.1 = true → 0 < kN t.2.1 t.2.2) := by
  rcases canon h with ⟨h1, h2, h3⟩ | ⟨h1, h2, h3⟩
  · exact ⟨fun _ => Prod.ext h1 (Prod.ext h2 h3), fun h => by rw [h1] at h; cases h⟩
  · have := dv_pos h2 h1
    have p1 := pow_pos10 (t.2.1.data.toList.length - 1)
    have p2 := pow_pos10 (t.2.2 + 400).toNat
    have : 0 < kN t.2.1 t.2.2 := Nat.mul_pos (by omega) p2
    exact ⟨fun h => by omega, fun _ => this⟩
theorem cmpZ_mul {a b T : Nat} (h : 0 < T) : cmpZ ((a * T : Nat) : Int) ((b * T : Nat) : Int) = cmpZ a b := by
  have h1 : a * T < b * T ↔ a < b := Nat.mul_lt_mul_right h
  have h2 : b * T < a * T ↔ b < a := Nat.mul_lt_mul_right h
  unfold cmpZ
  simp only [Int.ofNat_lt, h1, h2]
theorem zer_list (i : Int) : (zer i).data.toList = List.replicate i.toNat 48 := by unfold zer; simp
theorem cat_list (a b : ByteArray) : (a ++ b).data.toList = a.data.toList ++ b.data.toList := by
  rw [ByteArray.data_append, Array.toList_append]
theorem dig_append {a b : List UInt8} (ha : Dig a) (hb : Dig b) : Dig (a ++ b) := fun x hx => by
  rcases List.mem_append.1 hx with h | h
  · exact ha x h
  · exact hb x h
theorem dig_zeros (k : Nat) : Dig (List.replicate k 48) := fun x hx => by
  obtain ⟨_, rfl⟩ := List.mem_replicate.1 hx
  decide
/-- Two numbers' digits, brought to one length. -/
theorem lev_cmp {d d' : ByteArray} {e e' : Int} (g : Dig d.data.toList) (g' : Dig d'.data.toList) (p1 : d.size ≤ 40) (p2 : d'.size ≤ 40) (p3 : -400 ≤ e) (p4 : e ≤ 400) (p5 : -400 ≤ e') (p6 : e' ≤ 400) :
    cmpS (levQ (levP d e (levX e e')) (levP d' e' (levX e e'))) (levQ (levP d' e' (levX e e')) (levQ (levP d e (levX e e')) (levP d' e' (levX e e')))) = cmpZ (kN d e) (kN d' e') := by
  obtain ⟨x1, x2, x3⟩ := levX_le e e'
  have k1 : kN d e = dv d.data.toList * 10 ^ (e - levX e e').toNat * 10 ^ (levX e e' + 400).toNat := by
    rw [Nat.mul_assoc, ← Nat.pow_add]
    show _ * 10 ^ (e + 400).toNat = _
    rw [show (e + 400).toNat = (e - levX e e').toNat + (levX e e' + 400).toNat by omega]
  have k2 : kN d' e' = dv d'.data.toList * 10 ^ (e' - levX e e').toNat * 10 ^ (levX e e' + 400).toNat := by
    rw [Nat.mul_assoc, ← Nat.pow_add]
    show _ * 10 ^ (e' + 400).toNat = _
    rw [show (e' + 400).toNat = (e' - levX e e').toNat + (levX e e' + 400).toNat by omega]
  rw [k1, k2, cmpZ_mul (pow_pos10 _)]
  have f2 : levP d e (levX e e') = d ++ zer (IntKind.i64.wrap (e - levX e e')) := rfl
  have f3 : levP d' e' (levX e e') = d' ++ zer (IntKind.i64.wrap (e' - levX e e')) := rfl
  have w1 : IntKind.i64.wrap (e - levX e e') = e - levX e e' := wrap_id (by omega) (by omega)
  have w2 : IntKind.i64.wrap (e' - levX e e') = e' - levX e e' := wrap_id (by omega) (by omega)
  rw [w1] at f2
  rw [w2] at f3
  have hs : ∀ b : ByteArray, b.size = b.data.toList.length := fun b => by rw [Array.length_toList]; rfl
  have v1 : dv (levP d e (levX e e')).data.toList = dv d.data.toList * 10 ^ (e - levX e e').toNat := by
    rw [f2, cat_list, zer_list, dv_append, dv_zeros, List.length_replicate]; omega
  have v2 : dv (levP d' e' (levX e e')).data.toList = dv d'.data.toList * 10 ^ (e' - levX e e').toNat := by
    rw [f3, cat_list, zer_list, dv_append, dv_zeros, List.length_replicate]; omega
  have s1 : (levP d e (levX e e')).size ≤ 2000 := by rw [f2, cat_size, zer_size]; omega
  have s2 : (levP d' e' (levX e e')).size ≤ 2000 := by rw [f3, cat_size, zer_size]; omega
  have g1 : Dig (levP d e (levX e e')).data.toList := by rw [f2, cat_list, zer_list]; exact dig_append g (dig_zeros _)
  have g2 : Dig (levP d' e' (levX e e')).data.toList := by rw [f3, cat_list, zer_list]; exact dig_append g' (dig_zeros _)
  rw [← v1, ← v2]
  generalize levP d e (levX e e') = P at *
  generalize levP d' e' (levX e e') = Q at *
  have wz : ∀ a b : Nat, a ≤ 10000 → b ≤ 10000 → IntKind.i64.wrap ((a : Int) - b) = (a : Int) - b := fun a b _ _ => wrap_id (by omega) (by omega)
  have lq : ∀ p q : ByteArray, p.size ≤ 10000 → q.size ≤ 10000 → (levQ p q).data.toList = List.replicate (q.size - p.size) 48 ++ p.data.toList := fun p q hp hq => by
    show (zer (if 0 < IntKind.i64.wrap ((q.size : Int) - p.size) then IntKind.i64.wrap ((q.size : Int) - p.size) else 0) ++ p).data.toList = _
    rw [cat_list, zer_list, wz _ _ hq hp]
    have : (if 0 < (q.size : Int) - p.size then (q.size : Int) - p.size else 0).toNat = q.size - p.size := by split <;> omega
    rw [this]
  have e1 := lq P Q (by omega) (by omega)
  have z1 : (levQ P Q).size = (Q.size - P.size) + P.size := by rw [hs, e1, List.length_append, List.length_replicate, ← hs]
  have e2 := lq Q (levQ P Q) (by omega) (by omega)
  unfold cmpS
  rw [cmp_dv _ _ (by rw [e1, e2, List.length_append, List.length_append, List.length_replicate, List.length_replicate, ← hs, ← hs, z1]; omega) (by rw [e1]; exact dig_append (dig_zeros _) g1) (by rw [e2]; exact dig_append (dig_zeros _) g2)]
  rw [e1, e2, dv_append, dv_append, dv_zeros, dv_zeros, Nat.zero_mul, Nat.zero_mul, Nat.zero_add, Nat.zero_add]
theorem numC_key (t u : Bool × ByteArray × Int) (ht : numOk t) (hu : numOk u) : numC t u = cmpZ (keyN t) (keyN u) := by
  obtain ⟨a, d, e⟩ := t
  obtain ⟨a', d', e'⟩ := u
  have zt := kN_zero ht
  have zu := kN_zero hu
  have k1 : numV a d e = 0 := ht
  have k2 : numV a' d' e' = 0 := hu
  obtain ⟨p1, p3, p4⟩ := numV_num k1
  obtain ⟨p2, p5, p6⟩ := numV_num k2
  have hl := lev_cmp (numOk_dig ht) (numOk_dig hu) p1 p2 p3 p4 p5 p6
  unfold numC keyN
  simp only at zt zu hl ⊢
  unfold numcmpV
  rw [if_neg (by simp [k1]), if_neg (by simp [k2])]
  simp only at hl ⊢
  by_cases he : a = a' ∧ d = d' ∧ e = e'
  · obtain ⟨rfl, rfl, rfl⟩ := he
    rw [if_pos ⟨rfl, rfl, rfl⟩]
    exact (cmpZ_eq.2 rfl).symm
  rw [if_neg he]
  cases a with
  | true =>
    cases a' with
    | true =>
      rw [if_neg (by simp), if_neg (by simp), hl]
      simp only [if_true]
      have := cmpZ_anti (kN d e : Int) (kN d' e' : Int)
      have hr := cmpZ_rng (kN d e : Int) (kN d' e' : Int)
      rw [show wrap (-cmpZ (kN d e : Int) (kN d' e' : Int)) = -cmpZ (kN d e : Int) (kN d' e' : Int) from wrap_id (by omega) (by omega)]
      unfold cmpZ
      split <;> split <;> (try split) <;> (try split) <;> omega
    | false =>
      rw [if_pos (by simp)]
      simp only [if_true, Bool.false_eq_true, if_false]
      have := zt.2 rfl
      exact (cmpZ_lt.2 (by omega)).symm
  | false =>
    cases a' with
    | true =>
      rw [if_neg (by simp), if_pos (by simp)]
      simp only [if_true, Bool.false_eq_true, if_false]
      have := zu.2 rfl
      have h := cmpZ_lt (a := -(kN d' e' : Int)) (b := (kN d e : Int))
      have h2 := cmpZ_anti (-(kN d' e' : Int)) (kN d e : Int)
      have := h.2 (by omega)
      omega
    | false =>
      rw [if_neg (by simp), if_neg (by simp), hl]
      simp only [Bool.false_eq_true, if_false]
theorem dv_last {l : List UInt8} (h : ∃ r x, l = r ++ [x] ∧ x.toNat ≠ 48) (hd : Dig l) : dv l % 10 ≠ 0 := by
  obtain ⟨r, x, rfl, hx⟩ := h
  have hx2 := hd x (List.mem_append_right _ (List.mem_singleton.2 rfl))
  rw [dv_append, dv_cons]
  show (dv r * 10 ^ 1 + ((x.toNat - 48) * 10 ^ 0 + 0)) % 10 ≠ 0
  omega
theorem key_inj (t u : Bool × ByteArray × Int) (ht : numOk t) (hu : numOk u) (h : keyN t = keyN u) : t = u := by
  have zt := kN_zero ht
  have zu := kN_zero hu
  obtain ⟨a, d, e⟩ := t
  obtain ⟨a', d', e'⟩ := u
  unfold keyN at h
  simp only at zt zu h
  have hk : kN d e = kN d' e' := by
    split at h <;> split at h <;> omega
  by_cases h0 : kN d e = 0
  · rw [zt.1 h0, zu.1 (by omega)]
  have ha : a = a' := by
    cases a <;> cases a' <;> simp only [Bool.false_eq_true, if_false, if_true] at h <;> first | rfl | omega
  subst ha
  have c1 : (Dig d.data.toList ∧ (∃ x r, d.data.toList = x :: r ∧ x.toNat ≠ 48) ∧ (∃ r x, d.data.toList = r ++ [x] ∧ x.toNat ≠ 48)) := by
    rcases canon ht with ⟨_, h2, _⟩ | h2
    · exfalso
      have h2 : d = one := h2
      rw [h2] at h0
      exact h0 (by show dv one.data.toList * _ = 0; rw [show dv one.data.toList = 0 by decide]; simp)
    · exact h2
  have c2 : (Dig d'.data.toList ∧ (∃ x r, d'.data.toList = x :: r ∧ x.toNat ≠ 48) ∧ (∃ r x, d'.data.toList = r ++ [x] ∧ x.toNat ≠ 48)) := by
    rcases canon hu with ⟨_, h2, _⟩ | h2
    · exfalso
      have h2 : d' = one := h2
      rw [hk, h2] at h0
      exact h0 (by show dv one.data.toList * _ = 0; rw [show dv one.data.toList = 0 by decide]; simp)
    · exact h2
  obtain ⟨_, p3, p4⟩ := numV_num ht
  obtain ⟨_, p5, p6⟩ := numV_num hu
  simp only at p3 p4 p5 p6
  have m1 := dv_last c1.2.2 c1.1
  have m2 := dv_last c2.2.2 c2.1
  have hlt : ∀ (x y : Nat) (i j : Nat), x % 10 ≠ 0 → x * 10 ^ i = y * 10 ^ j → ¬ i < j := fun x y i j hx hxy hij => by
    obtain ⟨k, rfl⟩ : ∃ k, j = i + (k + 1) := ⟨j - i - 1, by omega⟩
    rw [Nat.pow_add, Nat.mul_comm (10 ^ i), ← Nat.mul_assoc] at hxy
    have := Nat.eq_of_mul_eq_mul_right (pow_pos10 i) hxy
    rw [this, Nat.pow_succ, ← Nat.mul_assoc, Nat.mul_mod_left] at hx
    exact hx rfl
  have hE : (e + 400).toNat = (e' + 400).toNat := by
    have l1 := hlt _ _ _ _ m1 hk
    have l2 := hlt _ _ _ _ m2 hk.symm
    omega
  have he : e = e' := by omega
  subst he
  have hd : dv d.data.toList = dv d'.data.toList := Nat.eq_of_mul_eq_mul_right (pow_pos10 _) hk
  have n1 := dv_pos c1.2.1 c1.1
  have n2 := dv_pos c2.2.1 c2.1
  have b1 := dv_lt _ c1.1
  have b2 := dv_lt _ c2.1
  have ne1 : d.data.toList.length ≠ 0 := by obtain ⟨x, r, hr, _⟩ := c1.2.1; rw [hr]; simp
  have ne2 : d'.data.toList.length ≠ 0 := by obtain ⟨x, r, hr, _⟩ := c2.2.1; rw [hr]; simp
  have hlen : d.data.toList.length = d'.data.toList.length := by
    have g1 : ¬ d.data.toList.length ≤ d'.data.toList.length - 1 := fun hh => by
      have := Nat.pow_le_pow_right (n := 10) (by decide) hh
      omega
    have g2 : ¬ d'.data.toList.length ≤ d.data.toList.length - 1 := fun hh => by
      have := Nat.pow_le_pow_right (n := 10) (by decide) hh
      omega
    omega
  have := dig_dv_inj hlen c1.1 c2.1 hd
  rw [show d = d' from ByteArray.ext (Array.toList_inj.1 this)]
theorem ord_num {t : Bool × ByteArray × Int} (h : numOk t) : OrdAt numC numOk t := ord_key keyN numC_key key_inj h
end Go.Proofs.YtaeeblcdggjokaaGreatDoor.Vk
/- Contracts of the reference: what is formed. -/
namespace Go.Proofs.YtaeeblcdggjokaaGreatDoor.Vk
open Go Go.Ab Go.RowKit
set_option maxRecDepth 100000
set_option linter.unusedVariables false
set_option linter.unusedSimpArgs false
set_option linter.unusedSectionVars false
set_option linter.constructorNameAsVariable false
theorem dig_all {l : List UInt8} : l.all isDig = true ↔ Dig l := by
  rw [List.all_eq_true]
  constructor
  · intro h x hx; simpa [isDig] using h x hx
  · intro h x hx; simpa [isDig] using h x hx
theorem drop_all {p : UInt8 → Bool} : ∀ (l : List UInt8), (∀ x, x ∈ l → p x = true) → l.dropWhile p = []
  | [], _ => rfl
  | a :: r, h => by
    rw [List.dropWhile_cons, if_pos (h a (List.mem_cons_self ..))]
    exact drop_all r fun x hx => h x (List.mem_cons_of_mem _ hx)
theorem trim_dig {d : ByteArray} (h : Dig d.data.toList) : trimV d tenDigits = ByteArray.empty := by
  have h4 : ∀ y : UInt8, 48 ≤ y.toNat ∧ y.toNat ≤ 57 → tenDigits.data.toList.contains y = true := by
    intro y hy
    have : ∀ k : Fin 10, tenDigits.data.toList.contains (UInt8.ofNat (48 + k.val)) = true := by decide
    have := this ⟨y.toNat - 48, by omega⟩
    rw [show 48 + (y.toNat - 48) = y.toNat by omega, UInt8.ofNat_toNat] at this
    exact this
  unfold trimV Lib.trimS Lib.trimLeftS Lib.trimRightS
  have e : d.data.toList.reverse.dropWhile (tenDigits.data.toList.contains ·) = [] := drop_all _ fun x hx => h4 x (h x (List.mem_reverse.1 hx))
  rw [e]; rfl
theorem ext_last {d : ByteArray} (h : 0 < d.size) : d.extract (d.size - 1) d.size = one ↔ (d.data.toList.getD (d.size - 1) 0).toNat = 48 := by
  have hl := size_len d
  have e : (d.extract (d.size - 1) d.size).data.toList = [d.data.toList.getD (d.size - 1) 0] := by
    rw [ByteArray.data_extract, Array.toList_extract]
    have hlt : d.size - 1 < d.data.toList.length := by omega
    unfold List.extract
    rw [List.drop_eq_getElem_cons hlt, show d.size - (d.size - 1) = 1 by omega, List.take_succ_cons, List.take_zero, List.getD_eq_getElem?_getD, List.getElem?_eq_getElem hlt]
    rfl
  constructor
  · intro h1
    rw [h1] at e
    have e : [48] = [d.data.toList.getD (d.size - 1) 0] := e
    rw [← (List.cons.inj e).1]; rfl
  · intro h1
    refine ByteArray.ext (Array.toList_inj.1 ?_)
    rw [e, show d.data.toList.getD (d.size - 1) 0 = 48 from UInt8.toNat_inj.1 h1]
    rfl
theorem num_iff (ng : Bool) (d : ByteArray) (e : Int) : numV ng d e = 0 ↔ (if d = one then ng = false ∧ e = 0 else digV d = true ∧ (d.size : Int) ≤ 40 ∧ (d.data.toList.getD 0 0).toNat ≠ 48 ∧ (d.data.toList.getD (d.size - 1) 0).toNat ≠ 48 ∧ -400 ≤ e ∧ e ≤ 400) := by
  have hdig : digV d = true ↔ Dig d.data.toList ∧ d ≠ ByteArray.empty := by
    unfold digV
    rw [Bool.and_eq_true, decide_eq_true_iff]
    have : (d.data.toList.all fun c => decide (48 ≤ c.toNat ∧ c.toNat ≤ 57)) = true ↔ Dig d.data.toList := dig_all
    rw [this]
    have : d.data.toList ≠ [] ↔ d ≠ ByteArray.empty := by
      constructor
      · intro h1 h2; apply h1; rw [h2]; rfl
      · intro h1 h2; exact h1 (ByteArray.ext (Array.toList_inj.1 h2))
    rw [this]
  unfold numV
  by_cases h0 : ng = false ∧ d = one ∧ e = 0
  · rw [if_pos h0, if_pos h0.2.1]; simp [h0.1, h0.2.2]
  rw [if_neg h0]
  by_cases h1 : d = ByteArray.empty
  · rw [if_pos h1, if_neg (by rw [h1]; decide)]
    constructor
    · intro h; omega
    · intro h; exact absurd h1 (hdig.1 h.1).2
  rw [if_neg h1]
  by_cases h2 : trimV d tenDigits = ByteArray.empty
  · have hd := dig_trim h2
    rw [if_neg (by simp [h2])]
    have hpos : 0 < d.size := by
      rcases Nat.eq_zero_or_pos d.size with h | h
      · exact absurd (size_zero.1 h) h1
      · exact h
    have hx := ext_last hpos
    by_cases ho : d = one
    · rw [if_pos ho]
      have f0 : (d.data.toList.getD 0 0).toNat = 48 := by rw [ho]; decide
      by_cases h3 : 40 < (d.size : Int)
      · rw [if_pos h3]
        constructor
        · intro h; omega
        · intro h; exact absurd ⟨h.1, ho, h.2⟩ h0
      · rw [if_neg h3, if_pos f0]
        constructor
        · intro h; omega
        · intro h; exact absurd ⟨h.1, ho, h.2⟩ h0
    · rw [if_neg ho]
      have hdv : digV d = true := hdig.2 ⟨hd, h1⟩
      clear hdig h0
      by_cases h3 : 40 < (d.size : Int)
      · rw [if_pos h3]; exact ⟨fun h => by omega, fun h => by omega⟩
      rw [if_neg h3]
      by_cases h4 : (d.data.toList.getD 0 0).toNat = 48
      · rw [if_pos h4]; exact ⟨fun h => by omega, fun h => absurd h4 h.2.2.1⟩
      rw [if_neg h4]
      by_cases h5 : d.extract (d.size - 1) d.size = one
      · rw [if_pos h5]; exact ⟨fun h => by omega, fun h => absurd (hx.1 h5) h.2.2.2.1⟩
      rw [if_neg h5]
      by_cases h6 : e < -400
      · rw [if_pos h6]; exact ⟨fun h => by omega, fun h => by omega⟩
      rw [if_neg h6]
      by_cases h7 : 400 < e
      · rw [if_pos h7]; exact ⟨fun h => by omega, fun h => by omega⟩
      rw [if_neg h7]
      exact ⟨fun _ => ⟨hdv, by omega, h4, fun h => h5 (hx.2 h), by omega, by omega⟩, fun _ => rfl⟩
  · rw [if_pos h2]
    have hno : ¬ digV d = true := fun h => h2 (trim_dig (hdig.1 h).1)
    by_cases ho : d = one
    · exact absurd (by rw [ho]; exact trim_dig dig_one) h2
    · rw [if_neg ho]; exact ⟨fun h => by omega, fun h => absurd h.1 hno⟩
/-! ### Names -/
abbrev seenD (R : List ByteArray) : List D := R.map fun s => D.row [sD s, bD true]
theorem seen_in {s : ByteArray} : ∀ {R : List ByteArray}, s ∈ R → mfind (sD s) (seenD R) = some (bD true)
  | t :: R, h => by
    show (bif decide (s = t) then some (bD true) else mfind (sD s) (seenD R)) = _
    by_cases e : s = t
    · rw [decide_eq_true e]; rfl
    · rw [decide_eq_false e]
      rcases List.mem_cons.1 h with h | h
      · exact absurd h e
      · exact seen_in h
theorem seen_out {s : ByteArray} : ∀ {R : List ByteArray}, s ∉ R → mfind (sD s) (seenD R) = none
  | [], _ => rfl
  | t :: R, h => by
    show (bif decide (s = t) then some (bD true) else mfind (sD s) (seenD R)) = _
    have e : ¬ s = t := fun e => h (e ▸ List.mem_cons_self ..)
    rw [decide_eq_false e]
    exact seen_out fun hm => h (List.mem_cons_of_mem _ hm)
theorem seen_put (s : ByteArray) : ∀ R : List ByteArray, s ∉ R → mput (sD s) (bD true) (seenD R) = seenD (R ++ [s])
  | [], _ => rfl
  | t :: R, h => by
    have h1 : ¬ s = t := fun e => h (e ▸ List.mem_cons_self ..)
    show (bif decide (s = t) then D.row [sD s, bD true] :: seenD R else D.row [sD t, bD true] :: mput (sD s) (bD true) (seenD R)) = _
    rw [decide_eq_false h1, seen_put s R fun hm => h (List.mem_cons_of_mem _ hm)]
    rfl
theorem namesV_iff : ∀ (l R : List ByteArray), namesV (.lst (seenD R)) l = true ↔ (∀ s, s ∈ l → validV s = true) ∧ l.Nodup ∧ ∀ s, s ∈ l → s ∉ R
  | [], R => by rw [namesV]; simp
  | s :: r, R => by
    rw [namesV]
    show (if ((mfind (sD s) (seenD R)).getD (bD false)).bool = true then false else if validV s = true then namesV (.lst (mput (sD s) (bD true) (seenD R))) r else false) = true ↔ _
    by_cases h : s ∈ R
    · rw [seen_in h]
      show (if true = true then false else _) = true ↔ _
      rw [if_pos rfl]
      constructor
      · intro h'; cases h'
      · intro h'; exact absurd h (h'.2.2 s (List.mem_cons_self ..))
    · rw [seen_out h, seen_put s R h]
      show (if false = true then false else if validV s = true then namesV (.lst (seenD (R ++ [s]))) r else false) = true ↔ _
      rw [if_neg (by decide)]
      by_cases hv : validV s = true
      · rw [if_pos hv, namesV_iff r (R ++ [s])]
        constructor
        · rintro ⟨h1, h2, h3⟩
          refine ⟨fun t ht => ?_, List.nodup_cons.2 ⟨fun hm => h3 s hm (List.mem_append_right _ (List.mem_singleton.2 rfl)), h2⟩, fun t ht => ?_⟩
          · rcases List.mem_cons.1 ht with rfl | ht
            · exact hv
            · exact h1 t ht
          · rcases List.mem_cons.1 ht with rfl | ht
            · exact h
            · exact fun hm => h3 t ht (List.mem_append_left _ hm)
        · rintro ⟨h1, h2, h3⟩
          refine ⟨fun t ht => h1 t (List.mem_cons_of_mem _ ht), (List.nodup_cons.1 h2).2, fun t ht hm => ?_⟩
          rcases List.mem_append.1 hm with hm | hm
          · exact h3 t (List.mem_cons_of_mem _ ht) hm
          · obtain rfl := List.mem_singleton.1 hm
            exact (List.nodup_cons.1 h2).1 ht
      · rw [if_neg hv]
        constructor
        · intro h'; cases h'
        · intro h'; exact absurd (h'.1 s (List.mem_cons_self ..)) hv
theorem namesV_eq (l : List ByteArray) : namesV (.lst []) l = (l.all validV && decide l.Nodup) := by
  have := namesV_iff l []
  rw [Bool.eq_iff_iff, Bool.and_eq_true, List.all_eq_true, decide_eq_true_iff]
  rw [show (D.lst []) = .lst (seenD []) from rfl, this]
  simp
theorem formedL_iff : ∀ (l : List Val) (i : Nat), formedL l i < 0 ↔ l.all formedV = true
  | [], i => by rw [formedL]; simp
  | v :: r, i => by
    rw [formedL, List.all_cons]
    cases formedV v with
    | false => simp
    | true => simp only [if_true, Bool.true_and]; exact formedL_iff r (i + 1)
/-- What is formed, as the reference has it. -/
theorem plainV_iff (v : Val) : plainV v = true ↔ (1 ≤ v.kind ∧ v.kind ≤ 9 ∧ (v.kind ≠ 2 → v.flag = false) ∧ (v.kind ≠ 3 → v.neg = false ∧ v.dig = .empty ∧ v.exp = 0) ∧ (v.kind ≠ 4 → v.bits = 0) ∧ (v.kind ≠ 5 → v.kind ≠ 6 → v.kind ≠ 9 → v.text = .empty) ∧ (v.kind ≠ 8 → v.names.length = 0) ∧ (v.kind < 7 → v.list.length = 0)) := by
  unfold plainV; exact decide_eq_true_iff
theorem ownV_iff (v : Val) : ownV v = true ↔ (v.kind = 3 → numV v.neg v.dig v.exp = 0) ∧ (v.kind = 5 → validV v.text = true) ∧ (v.kind = 9 → validV v.text = true ∧ v.list.length = 1) ∧ (v.kind = 8 → v.names.all validV = true ∧ v.names.length = v.list.length ∧ v.names.Nodup) := by
  unfold ownV
  by_cases e3 : v.kind = 3
  · rw [if_pos e3, decide_eq_true_iff]
    exact ⟨fun h => ⟨fun _ => h, fun h => by omega, fun h => by omega, fun h => by omega⟩, fun h => h.1 e3⟩
  rw [if_neg e3]
  by_cases e5 : v.kind = 5
  · rw [if_pos e5]
    exact ⟨fun h => ⟨fun h => by omega, fun _ => h, fun h => by omega, fun h => by omega⟩, fun h => h.2.1 e5⟩
  rw [if_neg e5]
  by_cases e9 : v.kind = 9
  · rw [if_pos e9, Bool.and_eq_true, decide_eq_true_iff]
    exact ⟨fun h => ⟨fun h => by omega, fun h => by omega, fun _ => h, fun h => by omega⟩, fun h => h.2.2.1 e9⟩
  rw [if_neg e9]
  by_cases e8 : v.kind = 8
  · rw [if_pos e8, Bool.and_eq_true, Bool.and_eq_true, decide_eq_true_iff, decide_eq_true_iff]
    exact ⟨fun h => ⟨fun h => by omega, fun h => by omega, fun h => by omega, fun _ => ⟨h.1.1, h.1.2, h.2⟩⟩, fun h => ⟨⟨(h.2.2.2 e8).1, (h.2.2.2 e8).2.1⟩, (h.2.2.2 e8).2.2⟩⟩
  · rw [if_neg e8]
    exact ⟨fun _ => ⟨fun h => absurd h e3, fun h => absurd h e5, fun h => absurd h e9, fun h => absurd h e8⟩, fun _ => rfl⟩
theorem formed_split (v : Val) : formedV v = (plainV v && (ownV v && v.list.all formedV)) := by
  cases v with
  | mk k f ng d e b t ns l =>
    obtain ⟨k1, k2, k3, k4, k5, k6, k7, k8, k9, k0⟩ := formedV_iff k f ng d e b t ns l
    have hl := formedL_iff l 0
    rw [hl] at k7 k8 k9
    have hn : namesV (.lst []) ns = true ↔ ns.all validV = true ∧ ns.Nodup := by rw [namesV_eq, Bool.and_eq_true, decide_eq_true_iff]
    rw [hn] at k8
    have hz : l.length = 0 → l.all formedV = true := fun h => by rw [List.length_eq_zero_iff.1 h]; rfl
    rw [Bool.eq_iff_iff, Bool.and_eq_true, Bool.and_eq_true, plainV_iff, ownV_iff]
    simp only [Val.list, Val.names, Val.kind, Val.neg, Val.dig, Val.exp, Val.flag, Val.bits, Val.text]
    generalize l.all formedV = L at *
    generalize ns.all validV = NV at *
    generalize validV t = VT at *
    generalize numV ng d e = NN at *
    generalize formedV (.mk k f ng d e b t ns l) = F at *
    clear hl hn
    by_cases e1 : k = 1
    · have := k1 e1; subst e1; clear k1 k2 k3 k4 k5 k6 k7 k8 k9 k0; grind
    by_cases e2 : k = 2
    · have := k2 e2; subst e2; clear k1 k2 k3 k4 k5 k6 k7 k8 k9 k0; grind
    by_cases e3 : k = 3
    · have := k3 e3; subst e3; clear k1 k2 k3 k4 k5 k6 k7 k8 k9 k0; grind
    by_cases e4 : k = 4
    · have := k4 e4; subst e4; clear k1 k2 k3 k4 k5 k6 k7 k8 k9 k0; grind
    by_cases e5 : k = 5
    · have := k5 e5; subst e5; clear k1 k2 k3 k4 k5 k6 k7 k8 k9 k0; grind
    by_cases e6 : k = 6
    · have := k6 e6; subst e6; clear k1 k2 k3 k4 k5 k6 k7 k8 k9 k0; grind
    by_cases e7 : k = 7
    · have := k7 e7; subst e7; clear k1 k2 k3 k4 k5 k6 k7 k8 k9 k0; grind
    by_cases e8 : k = 8
    · have := k8 e8; subst e8; clear k1 k2 k3 k4 k5 k6 k7 k8 k9 k0; grind
    by_cases e9 : k = 9
    · have := k9 e9; subst e9; clear k1 k2 k3 k4 k5 k6 k7 k8 k9 k0; grind
    · rw [k0 e1 e2 e3 e4 e5 e6 e7 e8 e9]
      constructor
      · intro h; cases h
      · intro h; omega
end Go.Proofs.YtaeeblcdggjokaaGreatDoor.Vk
/- Contracts of the reference: plain, own, Formed, Check; given that of Valid. -/
namespace Go.Proofs.YtaeeblcdggjokaaGreatDoor.Vk
open Go Go.Ab Go.RowKit
set_option maxRecDepth 100000
set_option linter.unusedVariables false
set_option linter.unusedSimpArgs false
set_option linter.unusedSectionVars false
set_option linter.constructorNameAsVariable false
/-- calamus/calamusref04.plain: func 74, params [33], ntmps 72. -/
def heads_rplain : List Hd := []
def entry_rplain : Tree :=
 (.ite (.pr (.icmp .lss) [(.pr (.cell 0) [(.var 0)]), (.lit (.int .i64 1))])
 (.leaf (.ret (.lit (.bool false))))
 (.ite (.pr (.icmp .gtr) [(.pr (.cell 0) [(.var 0)]), (.lit (.int .i64 9))])
 (.leaf (.ret (.lit (.bool false))))
 (.ite (.pr (.icmp .neq) [(.pr (.cell 0) [(.var 0)]), (.lit (.int .i64 2))])
 (.ite (.pr (.cell 1) [(.var 0)])
 (.leaf (.ret (.lit (.bool false))))
 (.ite (.pr (.icmp .neq) [(.pr (.cell 0) [(.var 0)]), (.lit (.int .i64 3))])
 (.ite (.pr .and [(.pr (.bcmp .eql) [(.pr (.cell 2) [(.var 0)]), (.lit (.bool false))]), (.pr (.scmp .eql) [(.pr (.cell 3) [(.var 0)]), (.lit (.string .empty))]), (.pr (.icmp .eql) [(.pr (.cell 4) [(.var 0)]), (.lit (.int .i64 0))])])
 (.ite (.pr (.icmp .neq) [(.pr (.cell 0) [(.var 0)]), (.lit (.int .i64 4))])
 (.ite (.pr (.icmp .neq) [(.pr (.cell 5) [(.var 0)]), (.lit (.int .u64 0))])
 (.leaf (.ret (.lit (.bool false))))
 (.ite (.pr (.icmp .neq) [(.pr (.cell 0) [(.var 0)]), (.lit (.int .i64 5))])
 (.ite (.pr (.icmp .neq) [(.pr (.cell 0) [(.var 0)]), (.lit (.int .i64 6))])
 (.ite (.pr (.icmp .neq) [(.pr (.cell 0) [(.var 0)]), (.lit (.int .i64 9))])
 (.ite (.pr (.scmp .neq) [(.pr (.cell 6) [(.var 0)]), (.lit (.string .empty))])
 (.leaf (.ret (.lit (.bool false))))
 (.ite (.pr (.icmp .neq) [(.pr (.cell 0) [(.var 0)]), (.lit (.int .i64 8))])
 (.ite (.pr (.icmp .gtr) [(.pr .len [(.pr (.cell 7) [(.var 0)])]), (.lit (.int .i64 0))])
 (.leaf (.ret (.lit (.bool false))))
 (.ite (.pr (.icmp .geq) [(.pr (.cell 0) [(.var 0)]), (.lit (.int .i64 7))])
 (.leaf (.ret (.lit (.bool true))))
 (.leaf (.ret (.pr (.icmp .eql) [(.pr .len [(.pr (.cell 8) [(.var 0)])]), (.lit (.int .i64 0))])))))
 (.ite (.pr (.icmp .geq) [(.pr (.cell 0) [(.var 0)]), (.lit (.int .i64 7))])
 (.leaf (.ret (.lit (.bool true))))
 (.leaf (.ret (.pr (.icmp .eql) [(.pr .len [(.pr (.cell 8) [(.var 0)])]), (.lit (.int .i64 0))]))))))
 (.ite (.pr (.icmp .neq) [(.pr (.cell 0) [(.var 0)]), (.lit (.int .i64 8))])
 (.ite (.pr (.icmp .gtr) [(.pr .len [(.pr (.cell 7) [(.var 0)])]), (.lit (.int .i64 0))])
 (.leaf (.ret (.lit (.bool false))))
 (.ite (.pr (.icmp .geq) [(.pr (.cell 0) [(.var 0)]), (.lit (.int .i64 7))])
 (.leaf (.ret (.lit (.bool true))))
 (.leaf (.ret (.pr (.icmp .eql) [(.pr .len [(.pr (.cell 8) [(.var 0)])]), (.lit (.int .i64 0))])))))
 (.ite (.pr (.icmp .geq) [(.pr (.cell 0) [(.var 0)]), (.lit (.int .i64 7))])
 (.leaf (.ret (.lit (.bool true))))
 (.leaf (.ret (.pr (.icmp .eql) [(.pr .len [(.pr (.cell 8) [(.var 0)])]), (.lit (.int .i64 0))]))))))
 (.ite (.pr (.icmp .neq) [(.pr (.cell 0) [(.var 0)]), (.lit (.int .i64 8))])
 (.ite (.pr (.icmp .gtr) [(.pr .len [(.pr (.cell 7) [(.var 0)])]), (.lit (.int .i64 0))])
 (.leaf (.ret (.lit (.bool false))))
 (.ite (.pr (.icmp .geq) [(.pr (.cell 0) [(.var 0)]), (.lit (.int .i64 7))])
 (.leaf (.ret (.lit (.bool true))))
 (.leaf (.ret (.pr (.icmp .eql) [(.pr .len [(.pr (.cell 8) [(.var 0)])]), (.lit (.int .i64 0))])))))
 (.ite (.pr (.icmp .geq) [(.pr (.cell 0) [(.var 0)]), (.lit (.int .i64 7))])
 (.leaf (.ret (.lit (.bool true))))
 (.leaf (.ret (.pr (.icmp .eql) [(.pr .len [(.pr (.cell 8) [(.var 0)])]), (.lit (.int .i64 0))]))))))
 (.ite (.pr (.icmp .neq) [(.pr (.cell 0) [(.var 0)]), (.lit (.int .i64 8))])
 (.ite (.pr (.icmp .gtr) [(.pr .len [(.pr (.cell 7) [(.var 0)])]), (.lit (.int .i64 0))])
 (.leaf (.ret (.lit (.bool false))))
 (.ite (.pr (.icmp .geq) [(.pr (.cell 0) [(.var 0)]), (.lit (.int .i64 7))])
 (.leaf (.ret (.lit (.bool true))))
 (.leaf (.ret (.pr (.icmp .eql) [(.pr .len [(.pr (.cell 8) [(.var 0)])]), (.lit (.int .i64 0))])))))
 (.ite (.pr (.icmp .geq) [(.pr (.cell 0) [(.var 0)]), (.lit (.int .i64 7))])
 (.leaf (.ret (.lit (.bool true))))
 (.leaf (.ret (.pr (.icmp .eql) [(.pr .len [(.pr (.cell 8) [(.var 0)])]), (.lit (.int .i64 0))])))))))
 (.ite (.pr (.icmp .neq) [(.pr (.cell 0) [(.var 0)]), (.lit (.int .i64 5))])
 (.ite (.pr (.icmp .neq) [(.pr (.cell 0) [(.var 0)]), (.lit (.int .i64 6))])
 (.ite (.pr (.icmp .neq) [(.pr (.cell 0) [(.var 0)]), (.lit (.int .i64 9))])
 (.ite (.pr (.scmp .neq) [(.pr (.cell 6) [(.var 0)]), (.lit (.string .empty))])
 (.leaf (.ret (.lit (.bool false))))
 (.ite (.pr (.icmp .neq) [(.pr (.cell 0) [(.var 0)]), (.lit (.int .i64 8))])
 (.ite (.pr (.icmp .gtr) [(.pr .len [(.pr (.cell 7) [(.var 0)])]), (.lit (.int .i64 0))])
 (.leaf (.ret (.lit (.bool false))))
 (.ite (.pr (.icmp .geq) [(.pr (.cell 0) [(.var 0)]), (.lit (.int .i64 7))])
 (.leaf (.ret (.lit (.bool true))))
 (.leaf (.ret (.pr (.icmp .eql) [(.pr .len [(.pr (.cell 8) [(.var 0)])]), (.lit (.int .i64 0))])))))
 (.ite (.pr (.icmp .geq) [(.pr (.cell 0) [(.var 0)]), (.lit (.int .i64 7))])
 (.leaf (.ret (.lit (.bool true))))
 (.leaf (.ret (.pr (.icmp .eql) [(.pr .len [(.pr (.cell 8) [(.var 0)])]), (.lit (.int .i64 0))]))))))
 (.ite (.pr (.icmp .neq) [(.pr (.cell 0) [(.var 0)]), (.lit (.int .i64 8))])
 (.ite (.pr (.icmp .gtr) [(.pr .len [(.pr (.cell 7) [(.var 0)])]), (.lit (.int .i64 0))])
 (.leaf (.ret (.lit (.bool false))))
 (.ite (.pr (.icmp .geq) [(.pr (.cell 0) [(.var 0)]), (.lit (.int .i64 7))])
 (.leaf (.ret (.lit (.bool true))))
 (.leaf (.ret (.pr (.icmp .eql) [(.pr .len [(.pr (.cell 8) [(.var 0)])]), (.lit (.int .i64 0))])))))
 (.ite (.pr (.icmp .geq) [(.pr (.cell 0) [(.var 0)]), (.lit (.int .i64 7))])
 (.leaf (.ret (.lit (.bool true))))
 (.leaf (.ret (.pr (.icmp .eql) [(.pr .len [(.pr (.cell 8) [(.var 0)])]), (.lit (.int .i64 0))]))))))
 (.ite (.pr (.icmp .neq) [(.pr (.cell 0) [(.var 0)]), (.lit (.int .i64 8))])
 (.ite (.pr (.icmp .gtr) [(.pr .len [(.pr (.cell 7) [(.var 0)])]), (.lit (.int .i64 0))])
 (.leaf (.ret (.lit (.bool false))))
 (.ite (.pr (.icmp .geq) [(.pr (.cell 0) [(.var 0)]), (.lit (.int .i64 7))])
 (.leaf (.ret (.lit (.bool true))))
 (.leaf (.ret (.pr (.icmp .eql) [(.pr .len [(.pr (.cell 8) [(.var 0)])]), (.lit (.int .i64 0))])))))
 (.ite (.pr (.icmp .geq) [(.pr (.cell 0) [(.var 0)]), (.lit (.int .i64 7))])
 (.leaf (.ret (.lit (.bool true))))
 (.leaf (.ret (.pr (.icmp .eql) [(.pr .len [(.pr (.cell 8) [(.var 0)])]), (.lit (.int .i64 0))]))))))
 (.ite (.pr (.icmp .neq) [(.pr (.cell 0) [(.var 0)]), (.lit (.int .i64 8))])
 (.ite (.pr (.icmp .gtr) [(.pr .len [(.pr (.cell 7) [(.var 0)])]), (.lit (.int .i64 0))])
 (.leaf (.ret (.lit (.bool false))))
 (.ite (.pr (.icmp .geq) [(.pr (.cell 0) [(.var 0)]), (.lit (.int .i64 7))])
 (.leaf (.ret (.lit (.bool true))))
 (.leaf (.ret (.pr (.icmp .eql) [(.pr .len [(.pr (.cell 8) [(.var 0)])]), (.lit (.int .i64 0))])))))
 (.ite (.pr (.icmp .geq) [(.pr (.cell 0) [(.var 0)]), (.lit (.int .i64 7))])
 (.leaf (.ret (.lit (.bool true))))
 (.leaf (.ret (.pr (.icmp .eql) [(.pr .len [(.pr (.cell 8) [(.var 0)])]), (.lit (.int .i64 0))])))))))
 (.leaf (.ret (.lit (.bool false)))))
 (.ite (.pr (.icmp .neq) [(.pr (.cell 0) [(.var 0)]), (.lit (.int .i64 4))])
 (.ite (.pr (.icmp .neq) [(.pr (.cell 5) [(.var 0)]), (.lit (.int .u64 0))])
 (.leaf (.ret (.lit (.bool false))))
 (.ite (.pr (.icmp .neq) [(.pr (.cell 0) [(.var 0)]), (.lit (.int .i64 5))])
 (.ite (.pr (.icmp .neq) [(.pr (.cell 0) [(.var 0)]), (.lit (.int .i64 6))])
 (.ite (.pr (.icmp .neq) [(.pr (.cell 0) [(.var 0)]), (.lit (.int .i64 9))])
 (.ite (.pr (.scmp .neq) [(.pr (.cell 6) [(.var 0)]), (.lit (.string .empty))])
 (.leaf (.ret (.lit (.bool false))))
 (.ite (.pr (.icmp .neq) [(.pr (.cell 0) [(.var 0)]), (.lit (.int .i64 8))])
 (.ite (.pr (.icmp .gtr) [(.pr .len [(.pr (.cell 7) [(.var 0)])]), (.lit (.int .i64 0))])
 (.leaf (.ret (.lit (.bool false))))
 (.ite (.pr (.icmp .geq) [(.pr (.cell 0) [(.var 0)]), (.lit (.int .i64 7))])
 (.leaf (.ret (.lit (.bool true))))
 (.leaf (.ret (.pr (.icmp .eql) [(.pr .len [(.pr (.cell 8) [(.var 0)])]), (.lit (.int .i64 0))])))))
 (.ite (.pr (.icmp .geq) [(.pr (.cell 0) [(.var 0)]), (.lit (.int .i64 7))])
 (.leaf (.ret (.lit (.bool true))))
 (.leaf (.ret (.pr (.icmp .eql) [(.pr .len [(.pr (.cell 8) [(.var 0)])]), (.lit (.int .i64 0))]))))))
 (.ite (.pr (.icmp .neq) [(.pr (.cell 0) [(.var 0)]), (.lit (.int .i64 8))])
 (.ite (.pr (.icmp .gtr) [(.pr .len [(.pr (.cell 7) [(.var 0)])]), (.lit (.int .i64 0))])
 (.leaf (.ret (.lit (.bool false))))
 (.ite (.pr (.icmp .geq) [(.pr (.cell 0) [(.var 0)]), (.lit (.int .i64 7))])
 (.leaf (.ret (.lit (.bool true))))
 (.leaf (.ret (.pr (.icmp .eql) [(.pr .len [(.pr (.cell 8) [(.var 0)])]), (.lit (.int .i64 0))])))))
 (.ite (.pr (.icmp .geq) [(.pr (.cell 0) [(.var 0)]), (.lit (.int .i64 7))])
 (.leaf (.ret (.lit (.bool true))))
 (.leaf (.ret (.pr (.icmp .eql) [(.pr .len [(.pr (.cell 8) [(.var 0)])]), (.lit (.int .i64 0))]))))))
 (.ite (.pr (.icmp .neq) [(.pr (.cell 0) [(.var 0)]), (.lit (.int .i64 8))])
 (.ite (.pr (.icmp .gtr) [(.pr .len [(.pr (.cell 7) [(.var 0)])]), (.lit (.int .i64 0))])
 (.leaf (.ret (.lit (.bool false))))
 (.ite (.pr (.icmp .geq) [(.pr (.cell 0) [(.var 0)]), (.lit (.int .i64 7))])
 (.leaf (.ret (.lit (.bool true))))
 (.leaf (.ret (.pr (.icmp .eql) [(.pr .len [(.pr (.cell 8) [(.var 0)])]), (.lit (.int .i64 0))])))))
 (.ite (.pr (.icmp .geq) [(.pr (.cell 0) [(.var 0)]), (.lit (.int .i64 7))])
 (.leaf (.ret (.lit (.bool true))))
 (.leaf (.ret (.pr (.icmp .eql) [(.pr .len [(.pr (.cell 8) [(.var 0)])]), (.lit (.int .i64 0))]))))))
 (.ite (.pr (.icmp .neq) [(.pr (.cell 0) [(.var 0)]), (.lit (.int .i64 8))])
 (.ite (.pr (.icmp .gtr) [(.pr .len [(.pr (.cell 7) [(.var 0)])]), (.lit (.int .i64 0))])
 (.leaf (.ret (.lit (.bool false))))
 (.ite (.pr (.icmp .geq) [(.pr (.cell 0) [(.var 0)]), (.lit (.int .i64 7))])
 (.leaf (.ret (.lit (.bool true))))
 (.leaf (.ret (.pr (.icmp .eql) [(.pr .len [(.pr (.cell 8) [(.var 0)])]), (.lit (.int .i64 0))])))))
 (.ite (.pr (.icmp .geq) [(.pr (.cell 0) [(.var 0)]), (.lit (.int .i64 7))])
 (.leaf (.ret (.lit (.bool true))))
 (.leaf (.ret (.pr (.icmp .eql) [(.pr .len [(.pr (.cell 8) [(.var 0)])]), (.lit (.int .i64 0))])))))))
 (.ite (.pr (.icmp .neq) [(.pr (.cell 0) [(.var 0)]), (.lit (.int .i64 5))])
 (.ite (.pr (.icmp .neq) [(.pr (.cell 0) [(.var 0)]), (.lit (.int .i64 6))])
 (.ite (.pr (.icmp .neq) [(.pr (.cell 0) [(.var 0)]), (.lit (.int .i64 9))])
 (.ite (.pr (.scmp .neq) [(.pr (.cell 6) [(.var 0)]), (.lit (.string .empty))])
 (.leaf (.ret (.lit (.bool false))))
 (.ite (.pr (.icmp .neq) [(.pr (.cell 0) [(.var 0)]), (.lit (.int .i64 8))])
 (.ite (.pr (.icmp .gtr) [(.pr .len [(.pr (.cell 7) [(.var 0)])]), (.lit (.int .i64 0))])
 (.leaf (.ret (.lit (.bool false))))
 (.ite (.pr (.icmp .geq) [(.pr (.cell 0) [(.var 0)]), (.lit (.int .i64 7))])
 (.leaf (.ret (.lit (.bool true))))
 (.leaf (.ret (.pr (.icmp .eql) [(.pr .len [(.pr (.cell 8) [(.var 0)])]), (.lit (.int .i64 0))])))))
 (.ite (.pr (.icmp .geq) [(.pr (.cell 0) [(.var 0)]), (.lit (.int .i64 7))])
 (.leaf (.ret (.lit (.bool true))))
 (.leaf (.ret (.pr (.icmp .eql) [(.pr .len [(.pr (.cell 8) [(.var 0)])]), (.lit (.int .i64 0))]))))))
 (.ite (.pr (.icmp .neq) [(.pr (.cell 0) [(.var 0)]), (.lit (.int .i64 8))])
 (.ite (.pr (.icmp .gtr) [(.pr .len [(.pr (.cell 7) [(.var 0)])]), (.lit (.int .i64 0))])
 (.leaf (.ret (.lit (.bool false))))
 (.ite (.pr (.icmp .geq) [(.pr (.cell 0) [(.var 0)]), (.lit (.int .i64 7))])
 (.leaf (.ret (.lit (.bool true))))
 (.leaf (.ret (.pr (.icmp .eql) [(.pr .len [(.pr (.cell 8) [(.var 0)])]), (.lit (.int .i64 0))])))))
 (.ite (.pr (.icmp .geq) [(.pr (.cell 0) [(.var 0)]), (.lit (.int .i64 7))])
 (.leaf (.ret (.lit (.bool true))))
 (.leaf (.ret (.pr (.icmp .eql) [(.pr .len [(.pr (.cell 8) [(.var 0)])]), (.lit (.int .i64 0))]))))))
 (.ite (.pr (.icmp .neq) [(.pr (.cell 0) [(.var 0)]), (.lit (.int .i64 8))])
 (.ite (.pr (.icmp .gtr) [(.pr .len [(.pr (.cell 7) [(.var 0)])]), (.lit (.int .i64 0))])
 (.leaf (.ret (.lit (.bool false))))
 (.ite (.pr (.icmp .geq) [(.pr (.cell 0) [(.var 0)]), (.lit (.int .i64 7))])
 (.leaf (.ret (.lit (.bool true))))
 (.leaf (.ret (.pr (.icmp .eql) [(.pr .len [(.pr (.cell 8) [(.var 0)])]), (.lit (.int .i64 0))])))))
 (.ite (.pr (.icmp .geq) [(.pr (.cell 0) [(.var 0)]), (.lit (.int .i64 7))])
 (.leaf (.ret (.lit (.bool true))))
 (.leaf (.ret (.pr (.icmp .eql) [(.pr .len [(.pr (.cell 8) [(.var 0)])]), (.lit (.int .i64 0))]))))))
 (.ite (.pr (.icmp .neq) [(.pr (.cell 0) [(.var 0)]), (.lit (.int .i64 8))])
 (.ite (.pr (.icmp .gtr) [(.pr .len [(.pr (.cell 7) [(.var 0)])]), (.lit (.int .i64 0))])
 (.leaf (.ret (.lit (.bool false))))
 (.ite (.pr (.icmp .geq) [(.pr (.cell 0) [(.var 0)]), (.lit (.int .i64 7))])
 (.leaf (.ret (.lit (.bool true))))
 (.leaf (.ret (.pr (.icmp .eql) [(.pr .len [(.pr (.cell 8) [(.var 0)])]), (.lit (.int .i64 0))])))))
 (.ite (.pr (.icmp .geq) [(.pr (.cell 0) [(.var 0)]), (.lit (.int .i64 7))])
 (.leaf (.ret (.lit (.bool true))))
 (.leaf (.ret (.pr (.icmp .eql) [(.pr .len [(.pr (.cell 8) [(.var 0)])]), (.lit (.int .i64 0))])))))))))
 (.ite (.pr (.icmp .neq) [(.pr (.cell 0) [(.var 0)]), (.lit (.int .i64 3))])
 (.ite (.pr .and [(.pr (.bcmp .eql) [(.pr (.cell 2) [(.var 0)]), (.lit (.bool false))]), (.pr (.scmp .eql) [(.pr (.cell 3) [(.var 0)]), (.lit (.string .empty))]), (.pr (.icmp .eql) [(.pr (.cell 4) [(.var 0)]), (.lit (.int .i64 0))])])
 (.ite (.pr (.icmp .neq) [(.pr (.cell 0) [(.var 0)]), (.lit (.int .i64 4))])
 (.ite (.pr (.icmp .neq) [(.pr (.cell 5) [(.var 0)]), (.lit (.int .u64 0))])
 (.leaf (.ret (.lit (.bool false))))
 (.ite (.pr (.icmp .neq) [(.pr (.cell 0) [(.var 0)]), (.lit (.int .i64 5))])
 (.ite (.pr (.icmp .neq) [(.pr (.cell 0) [(.var 0)]), (.lit (.int .i64 6))])
 (.ite (.pr (.icmp .neq) [(.pr (.cell 0) [(.var 0)]), (.lit (.int .i64 9))])
 (.ite (.pr (.scmp .neq) [(.pr (.cell 6) [(.var 0)]), (.lit (.string .empty))])
 (.leaf (.ret (.lit (.bool false))))
 (.ite (.pr (.icmp .neq) [(.pr (.cell 0) [(.var 0)]), (.lit (.int .i64 8))])
 (.ite (.pr (.icmp .gtr) [(.pr .len [(.pr (.cell 7) [(.var 0)])]), (.lit (.int .i64 0))])
 (.leaf (.ret (.lit (.bool false))))
 (.ite (.pr (.icmp .geq) [(.pr (.cell 0) [(.var 0)]), (.lit (.int .i64 7))])
 (.leaf (.ret (.lit (.bool true))))
 (.leaf (.ret (.pr (.icmp .eql) [(.pr .len [(.pr (.cell 8) [(.var 0)])]), (.lit (.int .i64 0))])))))
 (.ite (.pr (.icmp .geq) [(.pr (.cell 0) [(.var 0)]), (.lit (.int .i64 7))])
 (.leaf (.ret (.lit (.bool true))))
 (.leaf (.ret (.pr (.icmp .eql) [(.pr .len [(.pr (.cell 8) [(.var 0)])]), (.lit (.int .i64 0))]))))))
 (.ite (.pr (.icmp .neq) [(.pr (.cell 0) [(.var 0)]), (.lit (.int .i64 8))])
 (.ite (.pr (.icmp .gtr) [(.pr .len [(.pr (.cell 7) [(.var 0)])]), (.lit (.int .i64 0))])
 (.leaf (.ret (.lit (.bool false))))
 (.ite (.pr (.icmp .geq) [(.pr (.cell 0) [(.var 0)]), (.lit (.int .i64 7))])
 (.leaf (.ret (.lit (.bool true))))
 (.leaf (.ret (.pr (.icmp .eql) [(.pr .len [(.pr (.cell 8) [(.var 0)])]), (.lit (.int .i64 0))])))))
 (.ite (.pr (.icmp .geq) [(.pr (.cell 0) [(.var 0)]), (.lit (.int .i64 7))])
 (.leaf (.ret (.lit (.bool true))))
 (.leaf (.ret (.pr (.icmp .eql) [(.pr .len [(.pr (.cell 8) [(.var 0)])]), (.lit (.int .i64 0))]))))))
 (.ite (.pr (.icmp .neq) [(.pr (.cell 0) [(.var 0)]), (.lit (.int .i64 8))])
 (.ite (.pr (.icmp .gtr) [(.pr .len [(.pr (.cell 7) [(.var 0)])]), (.lit (.int .i64 0))])
 (.leaf (.ret (.lit (.bool false))))
 (.ite (.pr (.icmp .geq) [(.pr (.cell 0) [(.var 0)]), (.lit (.int .i64 7))])
 (.leaf (.ret (.lit (.bool true))))
 (.leaf (.ret (.pr (.icmp .eql) [(.pr .len [(.pr (.cell 8) [(.var 0)])]), (.lit (.int .i64 0))])))))
 (.ite (.pr (.icmp .geq) [(.pr (.cell 0) [(.var 0)]), (.lit (.int .i64 7))])
 (.leaf (.ret (.lit (.bool true))))
 (.leaf (.ret (.pr (.icmp .eql) [(.pr .len [(.pr (.cell 8) [(.var 0)])]), (.lit (.int .i64 0))]))))))
 (.ite (.pr (.icmp .neq) [(.pr (.cell 0) [(.var 0)]), (.lit (.int .i64 8))])
 (.ite (.pr (.icmp .gtr) [(.pr .len [(.pr (.cell 7) [(.var 0)])]), (.lit (.int .i64 0))])
 (.leaf (.ret (.lit (.bool false))))
 (.ite (.pr (.icmp .geq) [(.pr (.cell 0) [(.var 0)]), (.lit (.int .i64 7))])
 (.leaf (.ret (.lit (.bool true))))
 (.leaf (.ret (.pr (.icmp .eql) [(.pr .len [(.pr (.cell 8) [(.var 0)])]), (.lit (.int .i64 0))])))))
 (.ite (.pr (.icmp .geq) [(.pr (.cell 0) [(.var 0)]), (.lit (.int .i64 7))])
 (.leaf (.ret (.lit (.bool true))))
 (.leaf (.ret (.pr (.icmp .eql) [(.pr .len [(.pr (.cell 8) [(.var 0)])]), (.lit (.int .i64 0))])))))))
 (.ite (.pr (.icmp .neq) [(.pr (.cell 0) [(.var 0)]), (.lit (.int .i64 5))])
 (.ite (.pr (.icmp .neq) [(.pr (.cell 0) [(.var 0)]), (.lit (.int .i64 6))])
 (.ite (.pr (.icmp .neq) [(.pr (.cell 0) [(.var 0)]), (.lit (.int .i64 9))])
 (.ite (.pr (.scmp .neq) [(.pr (.cell 6) [(.var 0)]), (.lit (.string .empty))])
 (.leaf (.ret (.lit (.bool false))))
 (.ite (.pr (.icmp .neq) [(.pr (.cell 0) [(.var 0)]), (.lit (.int .i64 8))])
 (.ite (.pr (.icmp .gtr) [(.pr .len [(.pr (.cell 7) [(.var 0)])]), (.lit (.int .i64 0))])
 (.leaf (.ret (.lit (.bool false))))
 (.ite (.pr (.icmp .geq) [(.pr (.cell 0) [(.var 0)]), (.lit (.int .i64 7))])
 (.leaf (.ret (.lit (.bool true))))
 (.leaf (.ret (.pr (.icmp .eql) [(.pr .len [(.pr (.cell 8) [(.var 0)])]), (.lit (.int .i64 0))])))))
 (.ite (.pr (.icmp .geq) [(.pr (.cell 0) [(.var 0)]), (.lit (.int .i64 7))])
 (.leaf (.ret (.lit (.bool true))))
 (.leaf (.ret (.pr (.icmp .eql) [(.pr .len [(.pr (.cell 8) [(.var 0)])]), (.lit (.int .i64 0))]))))))
 (.ite (.pr (.icmp .neq) [(.pr (.cell 0) [(.var 0)]), (.lit (.int .i64 8))])
 (.ite (.pr (.icmp .gtr) [(.pr .len [(.pr (.cell 7) [(.var 0)])]), (.lit (.int .i64 0))])
 (.leaf (.ret (.lit (.bool false))))
 (.ite (.pr (.icmp .geq) [(.pr (.cell 0) [(.var 0)]), (.lit (.int .i64 7))])
 (.leaf (.ret (.lit (.bool true))))
 (.leaf (.ret (.pr (.icmp .eql) [(.pr .len [(.pr (.cell 8) [(.var 0)])]), (.lit (.int .i64 0))])))))
 (.ite (.pr (.icmp .geq) [(.pr (.cell 0) [(.var 0)]), (.lit (.int .i64 7))])
 (.leaf (.ret (.lit (.bool true))))
 (.leaf (.ret (.pr (.icmp .eql) [(.pr .len [(.pr (.cell 8) [(.var 0)])]), (.lit (.int .i64 0))]))))))
 (.ite (.pr (.icmp .neq) [(.pr (.cell 0) [(.var 0)]), (.lit (.int .i64 8))])
 (.ite (.pr (.icmp .gtr) [(.pr .len [(.pr (.cell 7) [(.var 0)])]), (.lit (.int .i64 0))])
 (.leaf (.ret (.lit (.bool false))))
 (.ite (.pr (.icmp .geq) [(.pr (.cell 0) [(.var 0)]), (.lit (.int .i64 7))])
 (.leaf (.ret (.lit (.bool true))))
 (.leaf (.ret (.pr (.icmp .eql) [(.pr .len [(.pr (.cell 8) [(.var 0)])]), (.lit (.int .i64 0))])))))
 (.ite (.pr (.icmp .geq) [(.pr (.cell 0) [(.var 0)]), (.lit (.int .i64 7))])
 (.leaf (.ret (.lit (.bool true))))
 (.leaf (.ret (.pr (.icmp .eql) [(.pr .len [(.pr (.cell 8) [(.var 0)])]), (.lit (.int .i64 0))]))))))
 (.ite (.pr (.icmp .neq) [(.pr (.cell 0) [(.var 0)]), (.lit (.int .i64 8))])
 (.ite (.pr (.icmp .gtr) [(.pr .len [(.pr (.cell 7) [(.var 0)])]), (.lit (.int .i64 0))])
 (.leaf (.ret (.lit (.bool false))))
 (.ite (.pr (.icmp .geq) [(.pr (.cell 0) [(.var 0)]), (.lit (.int .i64 7))])
 (.leaf (.ret (.lit (.bool true))))
 (.leaf (.ret (.pr (.icmp .eql) [(.pr .len [(.pr (.cell 8) [(.var 0)])]), (.lit (.int .i64 0))])))))
 (.ite (.pr (.icmp .geq) [(.pr (.cell 0) [(.var 0)]), (.lit (.int .i64 7))])
 (.leaf (.ret (.lit (.bool true))))
 (.leaf (.ret (.pr (.icmp .eql) [(.pr .len [(.pr (.cell 8) [(.var 0)])]), (.lit (.int .i64 0))])))))))
 (.leaf (.ret (.lit (.bool false)))))
 (.ite (.pr (.icmp .neq) [(.pr (.cell 0) [(.var 0)]), (.lit (.int .i64 4))])
 (.ite (.pr (.icmp .neq) [(.pr (.cell 5) [(.var 0)]), (.lit (.int .u64 0))])
 (.leaf (.ret (.lit (.bool false))))
 (.ite (.pr (.icmp .neq) [(.pr (.cell 0) [(.var 0)]), (.lit (.int .i64 5))])
 (.ite (.pr (.icmp .neq) [(.pr (.cell 0) [(.var 0)]), (.lit (.int .i64 6))])
 (.ite (.pr (.icmp .neq) [(.pr (.cell 0) [(.var 0)]), (.lit (.int .i64 9))])
 (.ite (.pr (.scmp .neq) [(.pr (.cell 6) [(.var 0)]), (.lit (.string .empty))])
 (.leaf (.ret (.lit (.bool false))))
 (.ite (.pr (.icmp .neq) [(.pr (.cell 0) [(.var 0)]), (.lit (.int .i64 8))])
 (.ite (.pr (.icmp .gtr) [(.pr .len [(.pr (.cell 7) [(.var 0)])]), (.lit (.int .i64 0))])
 (.leaf (.ret (.lit (.bool false))))
 (.ite (.pr (.icmp .geq) [(.pr (.cell 0) [(.var 0)]), (.lit (.int .i64 7))])
 (.leaf (.ret (.lit (.bool true))))
 (.leaf (.ret (.pr (.icmp .eql) [(.pr .len [(.pr (.cell 8) [(.var 0)])]), (.lit (.int .i64 0))])))))
 (.ite (.pr (.icmp .geq) [(.pr (.cell 0) [(.var 0)]), (.lit (.int .i64 7))])
 (.leaf (.ret (.lit (.bool true))))
 (.leaf (.ret (.pr (.icmp .eql) [(.pr .len [(.pr (.cell 8) [(.var 0)])]), (.lit (.int .i64 0))]))))))
 (.ite (.pr (.icmp .neq) [(.pr (.cell 0) [(.var 0)]), (.lit (.int .i64 8))])
 (.ite (.pr (.icmp .gtr) [(.pr .len [(.pr (.cell 7) [(.var 0)])]), (.lit (.int .i64 0))])
 (.leaf (.ret (.lit (.bool false))))
 (.ite (.pr (.icmp .geq) [(.pr (.cell 0) [(.var 0)]), (.lit (.int .i64 7))])
 (.leaf (.ret (.lit (.bool true))))
 (.leaf (.ret (.pr (.icmp .eql) [(.pr .len [(.pr (.cell 8) [(.var 0)])]), (.lit (.int .i64 0))])))))
 (.ite (.pr (.icmp .geq) [(.pr (.cell 0) [(.var 0)]), (.lit (.int .i64 7))])
 (.leaf (.ret (.lit (.bool true))))
 (.leaf (.ret (.pr (.icmp .eql) [(.pr .len [(.pr (.cell 8) [(.var 0)])]), (.lit (.int .i64 0))]))))))
 (.ite (.pr (.icmp .neq) [(.pr (.cell 0) [(.var 0)]), (.lit (.int .i64 8))])
 (.ite (.pr (.icmp .gtr) [(.pr .len [(.pr (.cell 7) [(.var 0)])]), (.lit (.int .i64 0))])
 (.leaf (.ret (.lit (.bool false))))
 (.ite (.pr (.icmp .geq) [(.pr (.cell 0) [(.var 0)]), (.lit (.int .i64 7))])
 (.leaf (.ret (.lit (.bool true))))
 (.leaf (.ret (.pr (.icmp .eql) [(.pr .len [(.pr (.cell 8) [(.var 0)])]), (.lit (.int .i64 0))])))))
 (.ite (.pr (.icmp .geq) [(.pr (.cell 0) [(.var 0)]), (.lit (.int .i64 7))])
 (.leaf (.ret (.lit (.bool true))))
 (.leaf (.ret (.pr (.icmp .eql) [(.pr .len [(.pr (.cell 8) [(.var 0)])]), (.lit (.int .i64 0))]))))))
 (.ite (.pr (.icmp .neq) [(.pr (.cell 0) [(.var 0)]), (.lit (.int .i64 8))])
 (.ite (.pr (.icmp .gtr) [(.pr .len [(.pr (.cell 7) [(.var 0)])]), (.lit (.int .i64 0))])
 (.leaf (.ret (.lit (.bool false))))
 (.ite (.pr (.icmp .geq) [(.pr (.cell 0) [(.var 0)]), (.lit (.int .i64 7))])
 (.leaf (.ret (.lit (.bool true))))
 (.leaf (.ret (.pr (.icmp .eql) [(.pr .len [(.pr (.cell 8) [(.var 0)])]), (.lit (.int .i64 0))])))))
 (.ite (.pr (.icmp .geq) [(.pr (.cell 0) [(.var 0)]), (.lit (.int .i64 7))])
 (.leaf (.ret (.lit (.bool true))))
 (.leaf (.ret (.pr (.icmp .eql) [(.pr .len [(.pr (.cell 8) [(.var 0)])]), (.lit (.int .i64 0))])))))))
 (.ite (.pr (.icmp .neq) [(.pr (.cell 0) [(.var 0)]), (.lit (.int .i64 5))])
 (.ite (.pr (.icmp .neq) [(.pr (.cell 0) [(.var 0)]), (.lit (.int .i64 6))])
 (.ite (.pr (.icmp .neq) [(.pr (.cell 0) [(.var 0)]), (.lit (.int .i64 9))])
 (.ite (.pr (.scmp .neq) [(.pr (.cell 6) [(.var 0)]), (.lit (.string .empty))])
 (.leaf (.ret (.lit (.bool false))))
 (.ite (.pr (.icmp .neq) [(.pr (.cell 0) [(.var 0)]), (.lit (.int .i64 8))])
 (.ite (.pr (.icmp .gtr) [(.pr .len [(.pr (.cell 7) [(.var 0)])]), (.lit (.int .i64 0))])
 (.leaf (.ret (.lit (.bool false))))
 (.ite (.pr (.icmp .geq) [(.pr (.cell 0) [(.var 0)]), (.lit (.int .i64 7))])
 (.leaf (.ret (.lit (.bool true))))
 (.leaf (.ret (.pr (.icmp .eql) [(.pr .len [(.pr (.cell 8) [(.var 0)])]), (.lit (.int .i64 0))])))))
 (.ite (.pr (.icmp .geq) [(.pr (.cell 0) [(.var 0)]), (.lit (.int .i64 7))])
 (.leaf (.ret (.lit (.bool true))))
 (.leaf (.ret (.pr (.icmp .eql) [(.pr .len [(.pr (.cell 8) [(.var 0)])]), (.lit (.int .i64 0))]))))))
 (.ite (.pr (.icmp .neq) [(.pr (.cell 0) [(.var 0)]), (.lit (.int .i64 8))])
 (.ite (.pr (.icmp .gtr) [(.pr .len [(.pr (.cell 7) [(.var 0)])]), (.lit (.int .i64 0))])
 (.leaf (.ret (.lit (.bool false))))
 (.ite (.pr (.icmp .geq) [(.pr (.cell 0) [(.var 0)]), (.lit (.int .i64 7))])
 (.leaf (.ret (.lit (.bool true))))
 (.leaf (.ret (.pr (.icmp .eql) [(.pr .len [(.pr (.cell 8) [(.var 0)])]), (.lit (.int .i64 0))])))))
 (.ite (.pr (.icmp .geq) [(.pr (.cell 0) [(.var 0)]), (.lit (.int .i64 7))])
 (.leaf (.ret (.lit (.bool true))))
 (.leaf (.ret (.pr (.icmp .eql) [(.pr .len [(.pr (.cell 8) [(.var 0)])]), (.lit (.int .i64 0))]))))))
 (.ite (.pr (.icmp .neq) [(.pr (.cell 0) [(.var 0)]), (.lit (.int .i64 8))])
 (.ite (.pr (.icmp .gtr) [(.pr .len [(.pr (.cell 7) [(.var 0)])]), (.lit (.int .i64 0))])
 (.leaf (.ret (.lit (.bool false))))
 (.ite (.pr (.icmp .geq) [(.pr (.cell 0) [(.var 0)]), (.lit (.int .i64 7))])
 (.leaf (.ret (.lit (.bool true))))
 (.leaf (.ret (.pr (.icmp .eql) [(.pr .len [(.pr (.cell 8) [(.var 0)])]), (.lit (.int .i64 0))])))))
 (.ite (.pr (.icmp .geq) [(.pr (.cell 0) [(.var 0)]), (.lit (.int .i64 7))])
 (.leaf (.ret (.lit (.bool true))))
 (.leaf (.ret (.pr (.icmp .eql) [(.pr .len [(.pr (.cell 8) [(.var 0)])]), (.lit (.int .i64 0))]))))))
 (.ite (.pr (.icmp .neq) [(.pr (.cell 0) [(.var 0)]), (.lit (.int .i64 8))])
 (.ite (.pr (.icmp .gtr) [(.pr .len [(.pr (.cell 7) [(.var 0)])]), (.lit (.int .i64 0))])
 (.leaf (.ret (.lit (.bool false))))
 (.ite (.pr (.icmp .geq) [(.pr (.cell 0) [(.var 0)]), (.lit (.int .i64 7))])
 (.leaf (.ret (.lit (.bool true))))
 (.leaf (.ret (.pr (.icmp .eql) [(.pr .len [(.pr (.cell 8) [(.var 0)])]), (.lit (.int .i64 0))])))))
 (.ite (.pr (.icmp .geq) [(.pr (.cell 0) [(.var 0)]), (.lit (.int .i64 7))])
 (.leaf (.ret (.lit (.bool true))))
 (.leaf (.ret (.pr (.icmp .eql) [(.pr .len [(.pr (.cell 8) [(.var 0)])]), (.lit (.int .i64 0))])))))))))))
def trees_rplain : List Tree := []
noncomputable def deps_rplain : List Sig := []
theorem ok_rplain : check q_rplain deps_rplain heads_rplain entry_rplain trees_rplain = true := by kernel_rfl
theorem rplain_ok (n : Nat) : @Ok (I n) q_rplain (okD n) := by
  letI := I n
  refine fn_ok (hphi n) ok_rplain (by intro q hq; simp [deps_rplain] at hq) (fun _ _ _ => False) (fun _ _ => 0) ?_ (fun j h t d ds hj => by simp [heads_rplain] at hj)
  intro ds hf hp
  obtain ⟨v, rfl⟩ := one_val hf
  simp only [entry_rplain, q_rplain, Tree.holds, Out.den, E.den, E.denL, den1, den2, den3, den4, den5, den6, den7, den8, Bool.not_eq_true', Bool.not_eq_false', List.getD_cons_zero, List.getD_cons_succ, true_and, and_true, List.length_map, phi_1000, phi_rplain, List.all_cons, List.all_nil, Bool.and_true, Bool.and_eq_true, Bool.and_eq_false_iff, beq_iff_eq, bne_iff_ne, ne_eq, bD_inj]
  have hv := plainV_iff v
  generalize plainV v = F at *
  clear hf hp
  cases v with
  | mk k f ng d e b t ns l =>
    simp only [Val.list, Val.names, Val.kind, Val.neg, Val.dig, Val.exp, Val.flag, Val.bits, Val.text] at *
    generalize ns.length = a at *
    generalize l.length = c at *
    have hl : ∀ a b : Int, ltI a b = decide (a < b) := fun _ _ => rfl
    have he : ∀ a b : Int, eqI a b = decide (a = b) := fun _ _ => rfl
    simp only [hl, he]
    by_cases e1 : k = 1
    · subst e1; grind
    by_cases e2 : k = 2
    · subst e2; grind
    by_cases e3 : k = 3
    · subst e3; grind
    by_cases e4 : k = 4
    · subst e4; grind
    by_cases e5 : k = 5
    · subst e5; grind
    by_cases e6 : k = 6
    · subst e6; grind
    by_cases e7 : k = 7
    · subst e7; grind
    by_cases e8 : k = 8
    · subst e8; grind
    by_cases e9 : k = 9
    · subst e9; grind
    · have : F = false := by
        cases F with
        | false => rfl
        | true => have := hv.1 rfl; omega
      subst this
      refine ⟨fun _ => rfl, fun h => ⟨fun _ => rfl, fun h' => by omega⟩⟩
/-- calamus/calamusref04.own: func 75, params [33], ntmps 55. -/
-- head 0 of loop 0: [t1 .rf 33, t3 .sh (.cell (.sc (.i .i64)))]
def heads_rown : List Hd := [⟨0, [.any, .rf 33, .any, .sh (.cell (.sc (.i .i64))), .any, .any, .any, .any, .any, .any, .any, .any, .any, .any, .any, .any, .any, .any, .any, .any, .any, .any, .any, .any, .any, .any, .any, .any, .any, .any, .any, .any, .any, .any, .any, .any, .any, .any, .any, .any, .any, .any, .any, .any, .any, .any, .any, .any, .any, .any, .any, .any, .any, .any, .any]⟩]
def entry_rown : Tree :=
 (.ite (.pr (.icmp .eql) [(.pr (.cell 0) [(.var 0)]), (.lit (.int .i64 3))])
 (.ite (.pr (.scmp .eql) [(.pr (.cell 3) [(.var 0)]), (.lit (.string (mkS [48])))])
 (.ite (.pr (.cell 2) [(.var 0)])
 (.leaf (.ret (.lit (.bool false))))
 (.leaf (.ret (.pr (.icmp .eql) [(.pr (.cell 4) [(.var 0)]), (.lit (.int .i64 0))]))))
 (.giv (.app 1000 [(.pr (.cell 3) [(.var 0)])])
 (.ite (.app 36 [(.pr (.cell 3) [(.var 0)])])
 (.ite (.pr (.icmp .leq) [(.pr .slen [(.pr (.cell 3) [(.var 0)])]), (.lit (.int .i64 40))])
 (.giv (.pr (.icmp .lss) [(.lit (.int .i64 0)), (.pr .slen [(.pr (.cell 3) [(.var 0)])])])
 (.ite (.pr (.icmp .neq) [(.pr .sat [(.pr (.cell 3) [(.var 0)]), (.lit (.int .i64 0))]), (.lit (.int .u8 48))])
 (.giv (.pr (.icmp .leq) [(.lit (.int .i64 0)), (.pr (.iop .sub .i64) [(.pr .slen [(.pr (.cell 3) [(.var 0)])]), (.lit (.int .i64 1))])])
 (.giv (.pr (.icmp .lss) [(.pr (.iop .sub .i64) [(.pr .slen [(.pr (.cell 3) [(.var 0)])]), (.lit (.int .i64 1))]), (.pr .slen [(.pr (.cell 3) [(.var 0)])])])
 (.ite (.pr (.icmp .neq) [(.pr .sat [(.pr (.cell 3) [(.var 0)]), (.pr (.iop .sub .i64) [(.pr .slen [(.pr (.cell 3) [(.var 0)])]), (.lit (.int .i64 1))])]), (.lit (.int .u8 48))])
 (.ite (.pr (.icmp .geq) [(.pr (.cell 4) [(.var 0)]), (.lit (.int .i64 (-400)))])
 (.leaf (.ret (.pr (.icmp .leq) [(.pr (.cell 4) [(.var 0)]), (.lit (.int .i64 400))])))
 (.leaf (.ret (.lit (.bool false)))))
 (.leaf (.ret (.lit (.bool false)))))))
 (.leaf (.ret (.lit (.bool false))))))
 (.leaf (.ret (.lit (.bool false)))))
 (.leaf (.ret (.lit (.bool false)))))))
 (.ite (.pr (.icmp .eql) [(.pr (.cell 0) [(.var 0)]), (.lit (.int .i64 5))])
 (.giv (.app 1000 [(.pr (.cell 6) [(.var 0)])])
 (.leaf (.ret (.app 30 [(.pr (.cell 6) [(.var 0)])]))))
 (.ite (.pr (.icmp .eql) [(.pr (.cell 0) [(.var 0)]), (.lit (.int .i64 9))])
 (.giv (.app 1000 [(.pr (.cell 6) [(.var 0)])])
 (.ite (.app 30 [(.pr (.cell 6) [(.var 0)])])
 (.leaf (.ret (.pr (.icmp .eql) [(.pr .len [(.pr (.cell 8) [(.var 0)])]), (.lit (.int .i64 1))])))
 (.leaf (.ret (.lit (.bool false))))))
 (.ite (.pr (.icmp .eql) [(.pr (.cell 0) [(.var 0)]), (.lit (.int .i64 8))])
 (.leaf (.go 0 [(.pr .row [(.pr (.cell 0) [(.var 0)]), (.pr (.cell 1) [(.var 0)]), (.pr (.cell 2) [(.var 0)]), (.pr (.cell 3) [(.var 0)]), (.pr (.cell 4) [(.var 0)]), (.pr (.cell 5) [(.var 0)]), (.pr (.cell 6) [(.var 0)]), (.pr (.cell 7) [(.var 0)]), (.pr (.cell 8) [(.var 0)])]), (.lit (.int .i64 0))]))
 (.leaf (.ret (.lit (.bool true))))))))
def head_rown_0 : Tree :=
 (.ite (.pr (.icmp .lss) [(.var 1), (.pr .len [(.pr (.cell 7) [(.var 0)])])])
 (.giv (.pr (.icmp .leq) [(.lit (.int .i64 0)), (.var 1)])
 (.giv (.app 1000 [(.pr (.cell 0) [(.pr .at [(.pr (.cell 7) [(.var 0)]), (.var 1)])])])
 (.ite (.app 30 [(.pr (.cell 0) [(.pr .at [(.pr (.cell 7) [(.var 0)]), (.var 1)])])])
 (.leaf (.go 0 [(.var 0), (.pr (.iop .add .i64) [(.var 1), (.lit (.int .i64 1))])]))
 (.leaf (.ret (.lit (.bool false)))))))
 (.ite (.pr (.icmp .eql) [(.pr .len [(.pr (.cell 7) [(.var 0)])]), (.pr .len [(.pr (.cell 8) [(.var 0)])])])
 (.giv (.app 1000 [(.pr (.cell 7) [(.var 0)])])
 (.leaf (.ret (.app 40 [(.pr (.cell 7) [(.var 0)])]))))
 (.leaf (.ret (.lit (.bool false))))))
def trees_rown : List Tree := [head_rown_0]
noncomputable def deps_rown : List Sig := [q_rvalid, q_runlike, q_rall]
theorem ok_rown : check q_rown deps_rown heads_rown entry_rown trees_rown = true := by kernel_rfl
theorem rown_ok (n : Nat) (hval : @Ok (I n) q_rvalid (okD n)) : @Ok (I n) q_rown (okD n) := by
  letI := I n
  refine fn_ok (hphi n) ok_rown (by
    intro q hq
    simp only [deps_rown, List.mem_cons, List.not_mem_nil, or_false] at hq
    rcases hq with rfl | rfl | rfl
    · exact hval
    · exact runlike_ok n
    · exact rall_ok n)
    (fun _ d ds => ∃ (v : Val) (i : Nat), ds = [v.toD, iD i] ∧ i ≤ v.names.length ∧ v.names.length ≤ lim ∧ (∀ s, s ∈ v.names → okD n [sD s]) ∧ okD n [strsD v.names] ∧ d = bD ((v.names.drop i).all validV && (decide (v.names.length = v.list.length) && decide v.names.Nodup)))
    (fun _ ds => (ds.getD 0 .nil).val1.names.length - (ds.getD 1 .nil).int.toNat) ?_ ?_
  · intro ds hf hp
    obtain ⟨v, rfl⟩ := one_val hf
    obtain ⟨h1, h2⟩ := okD_one.1 hp
    rw [sz_toD] at h1
    obtain ⟨l1, l2, l3, l4⟩ := (lim_toD v).1 h2
    have o1 : okD n [sD v.dig] := okD_one.2 ⟨by rw [sz_sD]; omega, lim_sD.2 l1⟩
    have o2 : okD n [sD v.text] := okD_one.2 ⟨by rw [sz_sD]; omega, lim_sD.2 l2⟩
    have o3 : okD n [strsD v.names] := okD_one.2 ⟨by omega, l3⟩
    obtain ⟨o4, o5⟩ := okD_strs o3
    have hw : digV v.dig = true → 0 < v.dig.size ∧ IntKind.i64.wrap ((v.dig.size : Int) - 1) = ((v.dig.size - 1 : Nat) : Int) := fun h => by
      have h : v.dig.data.toList ≠ [] := by
        unfold digV at h
        rw [Bool.and_eq_true, decide_eq_true_iff] at h
        exact h.2
      have : 0 < v.dig.size := by
        rw [size_len]
        exact List.length_pos_iff.2 h
      have hs : v.dig.size ≤ 140737488355328 := l1
      exact ⟨this, by rw [wrap_id (by omega) (by omega)]; omega⟩
    have hn := num_iff v.neg v.dig v.exp
    have hv := ownV_iff v
    have ho : (mkS [48]) = one := rfl
    simp only [entry_rown, q_rown, Tree.holds, Out.den, E.den, E.denL, den1, den2, den3, den4, den5, den6, den7, den8, Bool.not_eq_true', Bool.not_eq_false', List.getD_cons_zero, List.getD_cons_succ, true_and, and_true, List.length_map, phi_1000, phi_rvalid, phi_rall, phi_rown, o1, o2, ho, Int.toNat_natCast, Int.toNat_zero]
    refine ⟨fun k3 => ?_, fun k3 => ⟨fun k5 => ?_, fun k5 => ⟨fun k9 => ?_, fun k9 => ⟨fun k8 => ?_, fun k8 => ?_⟩⟩⟩⟩
    · have h3 : ownV v = true ↔ _ := hv.trans ⟨fun h => h.1 k3, fun h => ⟨fun _ => h, fun h => by omega, fun h => by omega, fun h => by omega⟩⟩
      rw [hn] at h3
      have hle : ∀ a b : Int, leI a b = decide (a ≤ b) := fun _ _ => rfl
      have he : ∀ a b : Int, eqI a b = decide (a = b) := fun _ _ => rfl
      simp only [hle, he]
      clear hv hn o1 o2 o3 o4 o5 l1 l2 l3 l4 h1 h2 hf hp
      generalize ownV v = F at *
      have no : ∀ (p : Prop), (F = true → p) → ¬ p → D.v (.bool false) = bD F := fun p h1 h2 => by
        cases F with
        | false => rfl
        | true => exact absurd (h1 rfl) h2
      have ye : ∀ (b : Bool), (F = true ↔ b = true) → bD b = bD F := fun b h => by rw [Bool.eq_iff_iff.2 h]
      by_cases e : v.dig = one
      · rw [if_pos e] at h3
        refine ⟨fun _ => ⟨fun hb => no _ (fun h => (h3.1 h).1) (by rw [hb]; decide), fun hb => ye _ ?_⟩, fun h => absurd e h⟩
        rw [h3, decide_eq_true_iff]; exact ⟨fun h => h.2, fun h => ⟨hb, h⟩⟩
      · rw [if_neg e] at h3
        refine ⟨fun h => absurd h e, fun _ => ⟨fun hd => ?_, fun hd => no _ (fun h => (h3.1 h).1) (by rw [hd]; decide)⟩⟩
        obtain ⟨w1, w2⟩ := hw hd
        rw [w2]
        simp only [Int.toNat_natCast]
        refine ⟨fun c1 => ⟨by omega, fun c2 => ⟨by omega, by omega, fun c3 => ⟨fun c4 => ye _ ?_, fun c4 => no _ (fun h => (h3.1 h).2.2.2.2.1) c4⟩, fun c3 => no _ (fun h => (h3.1 h).2.2.2.1) (by omega)⟩, fun c2 => no _ (fun h => (h3.1 h).2.2.1) (by omega)⟩, fun c1 => no _ (fun h => (h3.1 h).2.1) c1⟩
        rw [h3, decide_eq_true_iff]
        exact ⟨fun h => h.2.2.2.2.2, fun h => ⟨hd, c1, by omega, by omega, c4, h⟩⟩
    · have h3 : ownV v = true ↔ validV v.text = true := hv.trans ⟨fun h => h.2.1 k5, fun h => ⟨fun h => by omega, fun _ => h, fun h => by omega, fun h => by omega⟩⟩
      rw [Bool.eq_iff_iff.2 h3]
    · have h3 : ownV v = true ↔ validV v.text = true ∧ v.list.length = 1 := hv.trans ⟨fun h => h.2.2.1 k9, fun h => ⟨fun h => by omega, fun h => by omega, fun _ => h, fun h => by omega⟩⟩
      refine ⟨fun ht => ?_, fun ht => ?_⟩
      · have : eqI v.list.length 1 = ownV v := by
          rw [Bool.eq_iff_iff, eqI_t, h3]; exact ⟨fun h => ⟨ht, by omega⟩, fun h => by omega⟩
        rw [this]
      · have : ownV v = false := by
          cases hF : ownV v with
          | false => rfl
          | true => rw [(h3.1 hF).1] at ht; cases ht
        rw [this]
    · have h3 : ownV v = true ↔ v.names.all validV = true ∧ v.names.length = v.list.length ∧ v.names.Nodup := hv.trans ⟨fun h => h.2.2.2 k8, fun h => ⟨fun h => by omega, fun h => by omega, fun h => by omega, fun _ => h⟩⟩
      refine ⟨v, 0, rfl, Nat.zero_le _, o4, o5, o3, ?_⟩
      have : ownV v = ((v.names.drop 0).all validV && (decide (v.names.length = v.list.length) && decide v.names.Nodup)) := by
        rw [Bool.eq_iff_iff, h3, List.drop_zero, Bool.and_eq_true, Bool.and_eq_true, decide_eq_true_iff, decide_eq_true_iff]
      rw [this]
    · rw [hv.2 ⟨fun h => absurd h k3, fun h => absurd h k5, fun h => absurd h k9, fun h => absurd h k8⟩]
  · rintro j h t d ds hj ht hf ⟨v, i, rfl, hi, hl, hs, ho, rfl⟩
    obtain rfl : t = head_rown_0 := by
      match j, ht with
      | 0, ht => exact (Option.some.inj ht).symm
    by_cases hlt : i < v.names.length
    · obtain ⟨x, hx, hxm, hd⟩ := drop_get hlt
      simp only [head_rown_0, Tree.holds, Out.den, E.den, E.denL, den1, den2, den3, den4, den5, den6, den7, den8, Bool.not_eq_true', Bool.not_eq_false', List.getD_cons_zero, List.getD_cons_succ, true_and, and_true, List.length_map, phi_1000, rowAt_map hx, wrap_succ hlt hl, val1_toD, phi_rvalid]
      rw [hd, List.all_cons]
      refine ⟨fun _ => ⟨by omega, hs x hxm, fun hb => ⟨⟨v, i + 1, rfl, hlt, hl, hs, ho, ?_⟩, by omega⟩, fun hb => ?_⟩, fun h => by omega⟩
      · rw [hb]; rfl
      · rw [hb]; rfl
    · simp only [head_rown_0, Tree.holds, Out.den, E.den, E.denL, den1, den2, den3, den4, den5, den6, den7, den8, Bool.not_eq_true', Bool.not_eq_false', List.getD_cons_zero, List.getD_cons_succ, true_and, and_true, List.length_map, phi_1000, phi_runlike, ho]
      rw [List.drop_eq_nil_of_le (by omega)]
      refine ⟨fun h => by omega, fun _ => ⟨fun he => ?_, fun he => ?_⟩⟩
      · rw [decide_eq_true (show v.names.length = v.list.length by omega)]; rfl
      · rw [decide_eq_false (show ¬ v.names.length = v.list.length by omega)]; rfl
/-- calamus/calamusref04.Formed: func 47, params [33], ntmps 26. -/
-- head 0 of loop 0: [t1 .rf 33, t3 .sh (.cell (.sc (.i .i64)))]
def heads_rformed : List Hd := [⟨0, [.any, .rf 33, .any, .sh (.cell (.sc (.i .i64))), .any, .any, .any, .any, .any, .any, .any, .any, .any, .any, .any, .any, .any, .any, .any, .any, .any, .any, .any, .any, .any, .any]⟩]
def entry_rformed : Tree :=
 (.giv (.app 1000 [(.pr .row [(.pr (.cell 0) [(.var 0)]), (.pr (.cell 1) [(.var 0)]), (.pr (.cell 2) [(.var 0)]), (.pr (.cell 3) [(.var 0)]), (.pr (.cell 4) [(.var 0)]), (.pr (.cell 5) [(.var 0)]), (.pr (.cell 6) [(.var 0)]), (.pr (.cell 7) [(.var 0)]), (.pr (.cell 8) [(.var 0)])])])
 (.ite (.app 41 [(.pr .row [(.pr (.cell 0) [(.var 0)]), (.pr (.cell 1) [(.var 0)]), (.pr (.cell 2) [(.var 0)]), (.pr (.cell 3) [(.var 0)]), (.pr (.cell 4) [(.var 0)]), (.pr (.cell 5) [(.var 0)]), (.pr (.cell 6) [(.var 0)]), (.pr (.cell 7) [(.var 0)]), (.pr (.cell 8) [(.var 0)])])])
 (.ite (.app 42 [(.pr .row [(.pr (.cell 0) [(.var 0)]), (.pr (.cell 1) [(.var 0)]), (.pr (.cell 2) [(.var 0)]), (.pr (.cell 3) [(.var 0)]), (.pr (.cell 4) [(.var 0)]), (.pr (.cell 5) [(.var 0)]), (.pr (.cell 6) [(.var 0)]), (.pr (.cell 7) [(.var 0)]), (.pr (.cell 8) [(.var 0)])])])
 (.leaf (.go 0 [(.pr .row [(.pr (.cell 0) [(.var 0)]), (.pr (.cell 1) [(.var 0)]), (.pr (.cell 2) [(.var 0)]), (.pr (.cell 3) [(.var 0)]), (.pr (.cell 4) [(.var 0)]), (.pr (.cell 5) [(.var 0)]), (.pr (.cell 6) [(.var 0)]), (.pr (.cell 7) [(.var 0)]), (.pr (.cell 8) [(.var 0)])]), (.lit (.int .i64 0))]))
 (.leaf (.ret (.lit (.bool false)))))
 (.leaf (.ret (.lit (.bool false))))))
def head_rformed_0 : Tree :=
 (.ite (.pr (.icmp .lss) [(.var 1), (.pr .len [(.pr (.cell 8) [(.var 0)])])])
 (.giv (.pr (.icmp .leq) [(.lit (.int .i64 0)), (.var 1)])
 (.giv (.app 1000 [(.pr .row [(.pr (.cell 0) [(.pr .at [(.pr (.cell 8) [(.var 0)]), (.var 1)])]), (.pr (.cell 1) [(.pr .at [(.pr (.cell 8) [(.var 0)]), (.var 1)])]), (.pr (.cell 2) [(.pr .at [(.pr (.cell 8) [(.var 0)]), (.var 1)])]), (.pr (.cell 3) [(.pr .at [(.pr (.cell 8) [(.var 0)]), (.var 1)])]), (.pr (.cell 4) [(.pr .at [(.pr (.cell 8) [(.var 0)]), (.var 1)])]), (.pr (.cell 5) [(.pr .at [(.pr (.cell 8) [(.var 0)]), (.var 1)])]), (.pr (.cell 6) [(.pr .at [(.pr (.cell 8) [(.var 0)]), (.var 1)])]), (.pr (.cell 7) [(.pr .at [(.pr (.cell 8) [(.var 0)]), (.var 1)])]), (.pr (.cell 8) [(.pr .at [(.pr (.cell 8) [(.var 0)]), (.var 1)])])])])
 (.giv (.app 2043 [(.pr .row [(.pr (.cell 0) [(.pr .at [(.pr (.cell 8) [(.var 0)]), (.var 1)])]), (.pr (.cell 1) [(.pr .at [(.pr (.cell 8) [(.var 0)]), (.var 1)])]), (.pr (.cell 2) [(.pr .at [(.pr (.cell 8) [(.var 0)]), (.var 1)])]), (.pr (.cell 3) [(.pr .at [(.pr (.cell 8) [(.var 0)]), (.var 1)])]), (.pr (.cell 4) [(.pr .at [(.pr (.cell 8) [(.var 0)]), (.var 1)])]), (.pr (.cell 5) [(.pr .at [(.pr (.cell 8) [(.var 0)]), (.var 1)])]), (.pr (.cell 6) [(.pr .at [(.pr (.cell 8) [(.var 0)]), (.var 1)])]), (.pr (.cell 7) [(.pr .at [(.pr (.cell 8) [(.var 0)]), (.var 1)])]), (.pr (.cell 8) [(.pr .at [(.pr (.cell 8) [(.var 0)]), (.var 1)])])])])
 (.ite (.app 43 [(.pr .row [(.pr (.cell 0) [(.pr .at [(.pr (.cell 8) [(.var 0)]), (.var 1)])]), (.pr (.cell 1) [(.pr .at [(.pr (.cell 8) [(.var 0)]), (.var 1)])]), (.pr (.cell 2) [(.pr .at [(.pr (.cell 8) [(.var 0)]), (.var 1)])]), (.pr (.cell 3) [(.pr .at [(.pr (.cell 8) [(.var 0)]), (.var 1)])]), (.pr (.cell 4) [(.pr .at [(.pr (.cell 8) [(.var 0)]), (.var 1)])]), (.pr (.cell 5) [(.pr .at [(.pr (.cell 8) [(.var 0)]), (.var 1)])]), (.pr (.cell 6) [(.pr .at [(.pr (.cell 8) [(.var 0)]), (.var 1)])]), (.pr (.cell 7) [(.pr .at [(.pr (.cell 8) [(.var 0)]), (.var 1)])]), (.pr (.cell 8) [(.pr .at [(.pr (.cell 8) [(.var 0)]), (.var 1)])])])])
 (.leaf (.go 0 [(.var 0), (.pr (.iop .add .i64) [(.var 1), (.lit (.int .i64 1))])]))
 (.leaf (.ret (.lit (.bool false))))))))
 (.leaf (.ret (.lit (.bool true)))))
def trees_rformed : List Tree := [head_rformed_0]
noncomputable def deps_rformed : List Sig := [q_rplain, q_rown, q_rformed]
theorem ok_rformed : check q_rformed deps_rformed heads_rformed entry_rformed trees_rformed = true := by kernel_rfl
theorem rformed_step (n : Nat) (hval : @Ok (I n) q_rvalid (okD n)) (ih : @Ok (I n) q_rformed (@okS (I n) n q_rformed.g)) : @Ok (I n) q_rformed (@okS (I (n + 2)) (n + 2) q_rformed.g) := by
  have hpre := fun ds => pre_rformed (n + 2) ds
  letI := I n
  refine fn_okS (hphi n) ok_rformed (by
    intro q hq
    simp only [deps_rformed, List.mem_cons, List.not_mem_nil, or_false] at hq
    rcases hq with rfl | rfl | rfl
    · exact okS_of (rplain_ok n)
    · exact okS_of (rown_ok n hval)
    · exact ih)
    (fun _ d ds => ∃ (v : Val) (i : Nat), ds = [v.toD, iD i] ∧ i ≤ v.list.length ∧ v.list.length ≤ lim ∧ (∀ x, x ∈ v.list → okD n [x.toD] ∧ D.szL [x.toD] + 2 < n) ∧ d = bD ((v.list.drop i).all formedV))
    (fun _ ds => (ds.getD 0 .nil).val1.list.length - (ds.getD 1 .nil).int.toNat) ?_ ?_
  · intro ds hf hp
    obtain ⟨v, rfl⟩ := one_val hf
    have hz := (hpre _).1 (hp.2 rfl)
    simp only [D.szL] at hz
    have hlim := (okD_one.1 hp.1).2
    have o1 : okD n [v.toD] := okD_one.2 ⟨by omega, hlim⟩
    have hl := lim_vals.1 ((lim_toD v).1 hlim).2.2.2
    have hs := sz_toD v
    have hf := formed_split v
    simp only [entry_rformed, q_rformed, Tree.holds, Out.den, E.den, E.denL, den1, den2, den3, den4, den5, den6, den7, den8, Bool.not_eq_true', Bool.not_eq_false', List.getD_cons_zero, List.getD_cons_succ, true_and, and_true, List.length_map, phi_1000, phi_rplain, phi_rown, phi_rformed, o1]
    rw [hf]
    refine ⟨fun h1 => ⟨fun h2 => ⟨v, 0, rfl, Nat.zero_le _, hl.1, fun x hx => ?_, ?_⟩, fun h2 => ?_⟩, fun h1 => ?_⟩
    · have := sz_vals_mem hx
      refine ⟨okD_one.2 ⟨by omega, hl.2 x hx⟩, ?_⟩
      simp only [D.szL]; omega
    · rw [h1, h2, List.drop_zero]; rfl
    · rw [h1, h2]; rfl
    · rw [h1]; rfl
  · rintro j h t d ds hj ht hf ⟨v, i, rfl, hi, hl, hs, rfl⟩
    obtain rfl : t = head_rformed_0 := by
      match j, ht with
      | 0, ht => exact (Option.some.inj ht).symm
    by_cases hlt : i < v.list.length
    · obtain ⟨x, hx, hxm, hd⟩ := drop_get hlt
      simp only [head_rformed_0, Tree.holds, Out.den, E.den, E.denL, den1, den2, den3, den4, den5, den6, den7, den8, Bool.not_eq_true', Bool.not_eq_false', List.getD_cons_zero, List.getD_cons_succ, true_and, and_true, List.length_map, phi_1000, rowAt_map hx, wrap_succ hlt hl, val1_toD, phi_rformed, pre_rformed]
      rw [hd, List.all_cons]
      refine ⟨fun _ => ⟨by omega, (hs x hxm).1, (hs x hxm).2, fun hb => ⟨⟨v, i + 1, rfl, hlt, hl, hs, ?_⟩, by omega⟩, fun hb => ?_⟩, fun h => by omega⟩
      · rw [hb]; rfl
      · rw [hb]; rfl
    · simp only [head_rformed_0, Tree.holds, Out.den, E.den, E.denL, den1, den2, den3, den4, den5, den6, den7, den8, Bool.not_eq_true', Bool.not_eq_false', List.getD_cons_zero, List.getD_cons_succ, true_and, and_true, List.length_map, phi_1000]
      refine ⟨fun h => by omega, fun _ => ?_⟩
      rw [List.drop_eq_nil_of_le (by omega)]; rfl
theorem rformed_ok (hval : ∀ n, @Ok (I n) q_rvalid (okD n)) : ∀ (n : Nat), @Ok (I n) q_rformed (@okS (I n) n q_rformed.g)
  | 0 => fun W J vs ds hL hI ha hp => absurd ((pre_rformed 0 ds).1 (hp.2 rfl)) (by omega)
  | 1 => fun W J vs ds hL hI ha hp => absurd ((pre_rformed 1 ds).1 (hp.2 rfl)) (by omega)
  | n + 2 => ok_irrel (by decide) (rformed_step n (hval n) (rformed_ok hval n))
/-- calamus/calamusref04.Check: func 18, params [33], ntmps 11. -/
def heads_rcheck : List Hd := []
def entry_rcheck : Tree :=
 (.giv (.app 1000 [(.pr .row [(.pr (.cell 0) [(.var 0)]), (.pr (.cell 1) [(.var 0)]), (.pr (.cell 2) [(.var 0)]), (.pr (.cell 3) [(.var 0)]), (.pr (.cell 4) [(.var 0)]), (.pr (.cell 5) [(.var 0)]), (.pr (.cell 6) [(.var 0)]), (.pr (.cell 7) [(.var 0)]), (.pr (.cell 8) [(.var 0)])])])
 (.giv (.app 2043 [(.pr .row [(.pr (.cell 0) [(.var 0)]), (.pr (.cell 1) [(.var 0)]), (.pr (.cell 2) [(.var 0)]), (.pr (.cell 3) [(.var 0)]), (.pr (.cell 4) [(.var 0)]), (.pr (.cell 5) [(.var 0)]), (.pr (.cell 6) [(.var 0)]), (.pr (.cell 7) [(.var 0)]), (.pr (.cell 8) [(.var 0)])])])
 (.ite (.app 43 [(.pr .row [(.pr (.cell 0) [(.var 0)]), (.pr (.cell 1) [(.var 0)]), (.pr (.cell 2) [(.var 0)]), (.pr (.cell 3) [(.var 0)]), (.pr (.cell 4) [(.var 0)]), (.pr (.cell 5) [(.var 0)]), (.pr (.cell 6) [(.var 0)]), (.pr (.cell 7) [(.var 0)]), (.pr (.cell 8) [(.var 0)])])])
 (.ite (.app 46 [(.pr .row [(.pr (.cell 0) [(.var 0)]), (.pr (.cell 1) [(.var 0)]), (.pr (.cell 2) [(.var 0)]), (.pr (.cell 3) [(.var 0)]), (.pr (.cell 4) [(.var 0)]), (.pr (.cell 5) [(.var 0)]), (.pr (.cell 6) [(.var 0)]), (.pr (.cell 7) [(.var 0)]), (.pr (.cell 8) [(.var 0)])])])
 (.ite (.pr (.icmp .leq) [(.app 44 [(.pr .row [(.pr (.cell 0) [(.var 0)]), (.pr (.cell 1) [(.var 0)]), (.pr (.cell 2) [(.var 0)]), (.pr (.cell 3) [(.var 0)]), (.pr (.cell 4) [(.var 0)]), (.pr (.cell 5) [(.var 0)]), (.pr (.cell 6) [(.var 0)]), (.pr (.cell 7) [(.var 0)]), (.pr (.cell 8) [(.var 0)])])]), (.lit (.int .i64 16))])
 (.ite (.pr (.icmp .leq) [(.app 45 [(.pr .row [(.pr (.cell 0) [(.var 0)]), (.pr (.cell 1) [(.var 0)]), (.pr (.cell 2) [(.var 0)]), (.pr (.cell 3) [(.var 0)]), (.pr (.cell 4) [(.var 0)]), (.pr (.cell 5) [(.var 0)]), (.pr (.cell 6) [(.var 0)]), (.pr (.cell 7) [(.var 0)]), (.pr (.cell 8) [(.var 0)])])]), (.lit (.int .i64 4096))])
 (.leaf (.ret (.lit (.int .i64 0))))
 (.leaf (.ret (.lit (.int .i64 2)))))
 (.leaf (.ret (.lit (.int .i64 2)))))
 (.leaf (.ret (.lit (.int .i64 2)))))
 (.leaf (.ret (.lit (.int .i64 40)))))))
def trees_rcheck : List Tree := []
noncomputable def deps_rcheck : List Sig := [q_rformed, q_rshort, q_rdepth, q_rsize]
theorem ok_rcheck : check q_rcheck deps_rcheck heads_rcheck entry_rcheck trees_rcheck = true := by kernel_rfl
theorem rcheck_ok (hval : ∀ n, @Ok (I n) q_rvalid (okD n)) (n : Nat) : @Ok (I n) q_rcheck (@okS (I n) n q_rcheck.g) := by
  letI := I n
  refine fn_okS (hphi n) ok_rcheck (by
    intro q hq
    simp only [deps_rcheck, List.mem_cons, List.not_mem_nil, or_false] at hq
    rcases hq with rfl | rfl | rfl | rfl
    · exact rformed_ok hval n
    · exact okS_of (rshort_ok n)
    · exact okS_of (rdepth_ok n)
    · exact okS_of (rsize_ok n)) (fun _ _ _ => False) (fun _ _ => 0) ?_ (fun j h t d ds hj => by simp [heads_rcheck] at hj)
  intro ds hf hp
  obtain ⟨v, rfl⟩ := one_val hf
  have hz := (pre_rcheck n _).1 (hp.2 rfl)
  have o1 := hp.1
  have o2 : D.szL [v.toD] + 2 < n := by omega
  simp only [entry_rcheck, q_rcheck, Tree.holds, Out.den, E.den, E.denL, den1, den2, den3, den4, den5, den6, den7, den8, Bool.not_eq_true', Bool.not_eq_false', List.getD_cons_zero, List.getD_cons_succ, true_and, and_true, List.length_map, phi_1000, phi_rformed, phi_rshort, phi_rdepth, phi_rsize, phi_rcheck, pre_rformed, o1, o2]
  unfold checkV
  generalize formedV v = F
  generalize shortV v = S
  generalize depV v = d
  generalize sizV v = s
  clear hf hp hz o1 o2
  cases F <;> cases S <;> simp
  grind
end Go.Proofs.YtaeeblcdggjokaaGreatDoor.Vk
/- Contracts of the reference: UTF-8, bytes and numbers. -/
namespace Go.Proofs.YtaeeblcdggjokaaGreatDoor.Vk
open Go Go.Ab Go.RowKit
set_option maxRecDepth 100000
set_option linter.unusedVariables false
set_option linter.unusedSimpArgs false
set_option linter.unusedSectionVars false
set_option linter.constructorNameAsVariable false
theorem one_int {d : List D} (h : FitL tb [.cell (.sc (.i .i64))] d) : ∃ i, d = [iD i] := by
  match d, h with
  | [a], ⟨h1, _⟩ =>
    obtain ⟨l, rfl⟩ := fits_int h1
    exact ⟨l, rfl⟩
theorem str_int {d : List D} (h : FitL tb [.cell (.sc .s), .cell (.sc (.i .i64))] d) : ∃ s i, d = [sD s, iD i] := by
  match d, h with
  | [a, b], ⟨h1, h2, _⟩ =>
    obtain ⟨l, rfl⟩ := fits_str h1
    obtain ⟨i, rfl⟩ := fits_int h2
    exact ⟨l, i, rfl⟩
theorem den_sofb (l : List D) : Prim.den .sofb l = sD (l.foldl (fun r d => r.push (UInt8.ofNat d.int.toNat)) .empty) := by cases l <;> rfl
/-- calamus/calamusref03.bytes: func 132, params [3], ntmps 61. -/
def heads_rbytes : List Hd := []
def entry_rbytes : Tree :=
 (.ite (.pr (.icmp .lss) [(.var 0), (.lit (.int .i64 128))])
 (.leaf (.ret (.pr .sofb [(.pr (.conv .u8) [(.var 0)])])))
 (.ite (.pr (.icmp .lss) [(.var 0), (.lit (.int .i64 2048))])
 (.leaf (.ret (.pr .sofb [(.pr (.conv .u8) [(.pr (.iop .add .i64) [(.lit (.int .i64 192)), (.pr (.iop .quo .i64) [(.var 0), (.lit (.int .i64 64))])])]), (.pr (.conv .u8) [(.pr (.iop .add .i64) [(.lit (.int .i64 128)), (.pr (.iop .rem .i64) [(.var 0), (.lit (.int .i64 64))])])])])))
 (.ite (.pr (.icmp .lss) [(.var 0), (.lit (.int .i64 65536))])
 (.leaf (.ret (.pr .sofb [(.pr (.conv .u8) [(.pr (.iop .add .i64) [(.lit (.int .i64 224)), (.pr (.iop .quo .i64) [(.var 0), (.lit (.int .i64 4096))])])]), (.pr (.conv .u8) [(.pr (.iop .add .i64) [(.lit (.int .i64 128)), (.pr (.iop .rem .i64) [(.pr (.iop .quo .i64) [(.var 0), (.lit (.int .i64 64))]), (.lit (.int .i64 64))])])]), (.pr (.conv .u8) [(.pr (.iop .add .i64) [(.lit (.int .i64 128)), (.pr (.iop .rem .i64) [(.var 0), (.lit (.int .i64 64))])])])])))
 (.leaf (.ret (.pr .sofb [(.pr (.conv .u8) [(.pr (.iop .add .i64) [(.lit (.int .i64 240)), (.pr (.iop .quo .i64) [(.var 0), (.lit (.int .i64 262144))])])]), (.pr (.conv .u8) [(.pr (.iop .add .i64) [(.lit (.int .i64 128)), (.pr (.iop .rem .i64) [(.pr (.iop .quo .i64) [(.var 0), (.lit (.int .i64 4096))]), (.lit (.int .i64 64))])])]), (.pr (.conv .u8) [(.pr (.iop .add .i64) [(.lit (.int .i64 128)), (.pr (.iop .rem .i64) [(.pr (.iop .quo .i64) [(.var 0), (.lit (.int .i64 64))]), (.lit (.int .i64 64))])])]), (.pr (.conv .u8) [(.pr (.iop .add .i64) [(.lit (.int .i64 128)), (.pr (.iop .rem .i64) [(.var 0), (.lit (.int .i64 64))])])])]))))))
def trees_rbytes : List Tree := []
noncomputable def deps_rbytes : List Sig := []
theorem ok_rbytes : check q_rbytes deps_rbytes heads_rbytes entry_rbytes trees_rbytes = true := by kernel_rfl
theorem rbytes_ok (n : Nat) : @Ok (I n) q_rbytes (okD n) := by
  letI := I n
  refine fn_ok (hphi n) ok_rbytes (by intro q hq; simp [deps_rbytes] at hq) (fun _ _ _ => False) (fun _ _ => 0) ?_ (fun j h t d ds hj => by simp [heads_rbytes] at hj)
  intro ds hf hp
  obtain ⟨i, rfl⟩ := one_int hf
  simp only [entry_rbytes, q_rbytes, Tree.holds, Out.den, E.den, E.denL, den1, den2, den3, den4, den5, den6, den7, den8, Bool.not_eq_true', Bool.not_eq_false', List.getD_cons_zero, List.getD_cons_succ, true_and, and_true, List.length_map, phi_1000, phi_rbytes, den_sofb]
  unfold encV
  refine ⟨fun h1 => ?_, fun h1 => ⟨fun h2 => ?_, fun h2 => ⟨fun h3 => ?_, fun h3 => ?_⟩⟩⟩
  · rw [if_pos h1]; rfl
  · rw [if_neg h1, if_pos h2]; rfl
  · rw [if_neg h1, if_neg h2, if_pos h3]; rfl
  · rw [if_neg h1, if_neg h2, if_neg h3]; rfl
/-- calamus/calamusref03.number: func 130, params [9, 3], ntmps 32. -/
-- head 0 of loop 0: [t0 .sh (.cell (.sc .s)), t1 .sh (.cell (.sc (.i .i64))), t5 .sh (.cell (.sc (.i .i64))), t6 .sh (.cell (.sc (.i .i64)))]
def heads_rnumber : List Hd := [⟨0, [.sh (.cell (.sc .s)), .sh (.cell (.sc (.i .i64))), .any, .any, .any, .sh (.cell (.sc (.i .i64))), .sh (.cell (.sc (.i .i64))), .any, .any, .any, .any, .any, .any, .any, .any, .any, .any, .any, .any, .any, .any, .any, .any, .any, .any, .any, .any, .any, .any, .any, .any, .any]⟩]
def entry_rnumber : Tree :=
 (.ite (.pr (.icmp .eql) [(.var 1), (.lit (.int .i64 1))])
 (.giv (.pr (.icmp .lss) [(.lit (.int .i64 0)), (.pr .slen [(.var 0)])])
 (.leaf (.ret (.pr (.conv .i64) [(.pr .sat [(.var 0), (.lit (.int .i64 0))])]))))
 (.giv (.pr (.icmp .lss) [(.lit (.int .i64 0)), (.pr .slen [(.var 0)])])
 (.giv (.pr (.icmp .leq) [(.lit (.int .i64 0)), (.var 1)])
 (.giv (.pr (.icmp .neq) [(.pr (.iop .shr .i64) [(.lit (.int .i64 128)), (.var 1)]), (.lit (.int .i64 0))])
 (.leaf (.go 0 [(.var 0), (.var 1), (.pr (.iop .rem .i64) [(.pr (.conv .i64) [(.pr .sat [(.var 0), (.lit (.int .i64 0))])]), (.pr (.iop .shr .i64) [(.lit (.int .i64 128)), (.var 1)])]), (.lit (.int .i64 1))]))))))
def head_rnumber_0 : Tree :=
 (.ite (.pr (.icmp .lss) [(.var 3), (.var 1)])
 (.giv (.pr (.icmp .leq) [(.lit (.int .i64 0)), (.var 3)])
 (.giv (.pr (.icmp .lss) [(.var 3), (.pr .slen [(.var 0)])])
 (.leaf (.go 0 [(.var 0), (.var 1), (.pr (.iop .add .i64) [(.pr (.iop .mul .i64) [(.lit (.int .i64 64)), (.var 2)]), (.pr (.iop .rem .i64) [(.pr (.conv .i64) [(.pr .sat [(.var 0), (.var 3)])]), (.lit (.int .i64 64))])]), (.pr (.iop .add .i64) [(.var 3), (.lit (.int .i64 1))])]))))
 (.leaf (.ret (.var 2))))
def trees_rnumber : List Tree := [head_rnumber_0]
noncomputable def deps_rnumber : List Sig := []
theorem ok_rnumber : check q_rnumber deps_rnumber heads_rnumber entry_rnumber trees_rnumber = true := by kernel_rfl
theorem rnumber_ok (n : Nat) : @Ok (I n) q_rnumber (@okS (I n) n q_rnumber.g) := by
  letI := I n
  refine fn_okS (hphi n) ok_rnumber (by intro q hq; simp [deps_rnumber] at hq)
    (fun _ d ds => ∃ (s : ByteArray) (m i : Nat) (acc : Int), ds = [sD s, iD m, iD acc, iD i] ∧ i ≤ m ∧ m ≤ 4 ∧ m ≤ s.size ∧ d = iD (((s.data.toList.take m).drop i).foldl (fun a c => wrap (wrap (64 * a) + (c.toNat : Int).tmod 64)) acc))
    (fun _ ds => (ds.getD 1 .nil).int.toNat - (ds.getD 3 .nil).int.toNat) ?_ ?_
  · intro ds hf hp
    obtain ⟨s, i, rfl⟩ := str_int hf
    obtain ⟨p1, p2, p3⟩ := (pre_rnumber n s i).1 (hp.2 rfl)
    obtain ⟨m, rfl⟩ : ∃ m : Nat, i = m := ⟨i.toNat, by omega⟩
    have hd : iopV .shr .i64 128 m = 64 ∨ iopV .shr .i64 128 m = 32 ∨ iopV .shr .i64 128 m = 16 ∨ iopV .shr .i64 128 m = 8 := by
      have : m = 1 ∨ m = 2 ∨ m = 3 ∨ m = 4 := by omega
      rcases this with rfl | rfl | rfl | rfl <;> decide
    have hw : ∀ c : UInt8, IntKind.i64.wrap (c.toNat : Int) = c.toNat := fun c => wrap_id (by omega) (by have := c.toNat_lt; omega)
    have hsh : (Prim.iop .shr .i64).den [D.v (.int .i64 128), iD m] = iD (iopV .shr .i64 128 m) := rfl
    simp only [entry_rnumber, q_rnumber, Tree.holds, Out.den, E.den, E.denL, den1, den2, den3, den4, den5, den6, den7, den8, Bool.not_eq_true', Bool.not_eq_false', List.getD_cons_zero, List.getD_cons_succ, true_and, and_true, List.length_map, phi_1000, phi_rnumber, hsh, hw, Int.toNat_zero]
    refine ⟨fun h1 => ⟨by omega, ?_⟩, fun h1 => ⟨by omega, by omega, by omega, s, m, 1, _, rfl, by omega, by omega, by omega, ?_⟩⟩
    · unfold numbV; rw [if_pos h1]
    · unfold numbV; rw [if_neg h1]; rfl
  · rintro j h t d ds hj ht hf ⟨s, m, i, acc, rfl, hi, hm, hs, rfl⟩
    obtain rfl : t = head_rnumber_0 := by
      match j, ht with
      | 0, ht => exact (Option.some.inj ht).symm
    by_cases hlt : i < m
    · obtain ⟨x, hx, _, hd⟩ := drop_get (show i < (s.data.toList.take m).length by rw [List.length_take, ← size_len]; omega)
      have hx' : s.data.toList.getD i 0 = x := by
        rw [List.getElem?_take, if_pos hlt] at hx
        rw [List.getD_eq_getElem?_getD, hx]; rfl
      simp only [head_rnumber_0, Tree.holds, Out.den, E.den, E.denL, den1, den2, den3, den4, den5, den6, den7, den8, Bool.not_eq_true', Bool.not_eq_false', List.getD_cons_zero, List.getD_cons_succ, true_and, and_true, List.length_map, phi_1000, wrap_succ hlt (show m ≤ lim by have : 4 ≤ lim := (by decide); omega), Int.toNat_natCast, hx']
      have hw : IntKind.i64.wrap (x.toNat : Int) = x.toNat := wrap_id (by omega) (by have := x.toNat_lt; omega)
      rw [hd, List.foldl_cons, hw]
      exact ⟨fun _ => ⟨by omega, by omega, ⟨s, m, i + 1, _, rfl, hlt, hm, hs, rfl⟩, by omega⟩, fun h => by omega⟩
    · simp only [head_rnumber_0, Tree.holds, Out.den, E.den, E.denL, den1, den2, den3, den4, den5, den6, den7, den8, Bool.not_eq_true', Bool.not_eq_false', List.getD_cons_zero, List.getD_cons_succ, true_and, and_true, List.length_map, phi_1000]
      refine ⟨fun h => by omega, fun _ => ?_⟩
      rw [List.drop_eq_nil_of_le (by rw [List.length_take]; omega)]; rfl
end Go.Proofs.YtaeeblcdggjokaaGreatDoor.Vk
/- The order of values is one; ValueThree. -/
namespace Go.Proofs.YtaeeblcdggjokaaGreatDoor.Vk
open Go Go.Ab Go.RowKit
set_option maxRecDepth 100000
set_option linter.unusedVariables false
set_option linter.unusedSimpArgs false
set_option linter.unusedSectionVars false
set_option linter.constructorNameAsVariable false
theorem ord_map {α β : Type} {c : β → β → Int} {S : β → Prop} {T : α → Prop} (f : α → β) {x : α} (h : OrdAt c S (f x)) (hs : ∀ y, T y → S (f y)) (hi : ∀ y, T y → f x = f y → x = y) : OrdAt (fun a b => c (f a) (f b)) T x where
  rng y hy := h.rng _ (hs y hy)
  anti y hy := h.anti _ (hs y hy)
  zero y hy k := hi y hy (h.zero _ (hs y hy) k)
  trans y z hy hz := h.trans _ _ (hs y hy) (hs z hz)
theorem ord_congr {α : Type} {c c' : α → α → Int} {T : α → Prop} {x : α} (h : OrdAt c T x) (hx : T x) (he : ∀ a b, T a → T b → c' a b = c a b) : OrdAt c' T x where
  rng y hy := by rw [he x y hx hy]; exact h.rng y hy
  anti y hy := by rw [he x y hx hy, he y x hy hx]; exact h.anti y hy
  zero y hy k := by rw [he x y hx hy] at k; exact h.zero y hy k
  trans y z hy hz k1 k2 := by
    rw [he x y hx hy] at k1
    rw [he y z hy hz] at k2
    rw [he x z hx hz]
    exact h.trans y z hy hz k1 k2
def lexC {β : Type} (c : β → β → Int) (p q : ByteArray × β) : Int := if cmpS p.1 q.1 = 0 then c p.2 q.2 else cmpS p.1 q.1
theorem ord_lex {β : Type} {c : β → β → Int} {S : β → Prop} {p : ByteArray × β} (h : OrdAt c S p.2) : OrdAt (lexC c) (fun q => S q.2) p := by
  have hb := ord_cmpS p.1
  refine ⟨fun y hy => ?_, fun y hy => ?_, fun y hy k => ?_, fun y z hy hz h1 h2 => ?_⟩
  · unfold lexC; have := hb.rng y.1 trivial; have := h.rng y.2 hy; split <;> omega
  · unfold lexC; have := hb.anti y.1 trivial; have := h.anti y.2 hy; split <;> split <;> omega
  · unfold lexC at k
    split at k
    · rename_i e
      exact Prod.ext (hb.zero _ trivial e) (h.zero _ hy k)
    · omega
  · unfold lexC at h1 h2 ⊢
    by_cases e1 : cmpS p.1 y.1 = 0
    · rw [if_pos e1] at h1
      have e := hb.zero _ trivial e1
      rw [e]
      by_cases e2 : cmpS y.1 z.1 = 0
      · rw [if_pos e2] at h2 ⊢; exact h.trans _ _ hy hz h1 h2
      · rw [if_neg e2] at h2 ⊢
        have := (ord_cmpS y.1).rng z.1 trivial
        omega
    · rw [if_neg e1] at h1
      have k : cmpS y.1 z.1 ≤ 0 := by
        by_cases e2 : cmpS y.1 z.1 = 0
        · omega
        · rw [if_neg e2] at h2; exact h2
      have := hb.trans y.1 z.1 trivial trivial h1 k
      rw [if_neg (by omega)]; exact this
/-- What a formed value of a kind does not use is nothing. -/
theorem formed_plain {v : Val} (h : formedV v = true) : (v.kind ≠ 2 → v.flag = false) ∧ (v.kind ≠ 3 → v.neg = false ∧ v.dig = .empty ∧ v.exp = 0) ∧ (v.kind ≠ 4 → v.bits = 0) ∧ (v.kind ≠ 5 → v.kind ≠ 6 → v.kind ≠ 9 → v.text = .empty) ∧ (v.kind ≠ 8 → v.names = []) ∧ (v.kind ≠ 7 → v.kind ≠ 8 → v.kind ≠ 9 → v.list = []) := by
  cases v with
  | mk k f ng d e b t ns l =>
    obtain ⟨k1, k2, k3, k4, k5, k6, k7, k8, k9, k0⟩ := formedV_iff k f ng d e b t ns l
    simp only [Val.list, Val.names, Val.kind, Val.neg, Val.dig, Val.exp, Val.flag, Val.bits, Val.text]
    have n1 : ns.length = 0 ↔ ns = [] := List.length_eq_zero_iff
    have n2 : l.length = 0 ↔ l = [] := List.length_eq_zero_iff
    rw [n1, n2] at k1 k2 k3 k4 k5 k6
    rw [n1] at k7 k9
    by_cases e1 : k = 1
    · have := (k1 e1).1 h; subst e1; clear k1 k2 k3 k4 k5 k6 k7 k8 k9 k0 h; grind
    by_cases e2 : k = 2
    · have := (k2 e2).1 h; subst e2; clear k1 k2 k3 k4 k5 k6 k7 k8 k9 k0 h; grind
    by_cases e3 : k = 3
    · have := (k3 e3).1 h; subst e3; clear k1 k2 k3 k4 k5 k6 k7 k8 k9 k0 h; grind
    by_cases e4 : k = 4
    · have := (k4 e4).1 h; subst e4; clear k1 k2 k3 k4 k5 k6 k7 k8 k9 k0 h; grind
    by_cases e5 : k = 5
    · have := (k5 e5).1 h; subst e5; clear k1 k2 k3 k4 k5 k6 k7 k8 k9 k0 h; grind
    by_cases e6 : k = 6
    · have := (k6 e6).1 h; subst e6; clear k1 k2 k3 k4 k5 k6 k7 k8 k9 k0 h; grind
    by_cases e7 : k = 7
    · have := (k7 e7).1 h; subst e7; clear k1 k2 k3 k4 k5 k6 k7 k8 k9 k0 h; grind
    by_cases e8 : k = 8
    · have := (k8 e8).1 h; subst e8; clear k1 k2 k3 k4 k5 k6 k7 k8 k9 k0 h; grind
    by_cases e9 : k = 9
    · have := (k9 e9).1 h; subst e9; clear k1 k2 k3 k4 k5 k6 k7 k8 k9 k0 h; grind
    · rw [k0 e1 e2 e3 e4 e5 e6 e7 e8 e9] at h; cases h
theorem val_ext {a b : Val} (h1 : a.kind = b.kind) (h2 : a.flag = b.flag) (h3 : a.neg = b.neg) (h4 : a.dig = b.dig) (h5 : a.exp = b.exp) (h6 : a.bits = b.bits) (h7 : a.text = b.text) (h8 : a.names = b.names) (h9 : a.list = b.list) : a = b := by
  cases a; cases b
  simp only [Val.kind, Val.flag, Val.neg, Val.dig, Val.exp, Val.bits, Val.text, Val.names, Val.list] at *
  subst h1 h2 h3 h4 h5 h6 h7 h8 h9
  rfl
/-- Values of one kind. -/
def Same (k : Int) (v : Val) : Prop := good v = true ∧ v.kind = k
theorem same_eq {k : Int} {a b : Val} (ha : Same k a) (hb : Same k b) (h2 : k = 2 → a.flag = b.flag) (h3 : k = 3 → a.neg = b.neg ∧ a.dig = b.dig ∧ a.exp = b.exp) (h4 : k = 4 → a.bits = b.bits) (h5 : k = 5 ∨ k = 6 ∨ k = 9 → a.text = b.text) (h8 : k = 8 → a.names = b.names) (h9 : k = 7 ∨ k = 8 ∨ k = 9 → a.list = b.list) : a = b := by
  obtain ⟨a2, a3, a4, a5, a8, a9⟩ := formed_plain (good_iff.1 ha.1).1
  obtain ⟨b2, b3, b4, b5, b8, b9⟩ := formed_plain (good_iff.1 hb.1).1
  rw [ha.2] at a2 a3 a4 a5 a8 a9
  rw [hb.2] at b2 b3 b4 b5 b8 b9
  refine val_ext (ha.2.trans hb.2.symm) ?_ ?_ ?_ ?_ ?_ ?_ ?_ ?_
  · by_cases e : k = 2
    · exact h2 e
    · rw [a2 e, b2 e]
  · by_cases e : k = 3
    · exact (h3 e).1
    · rw [(a3 e).1, (b3 e).1]
  · by_cases e : k = 3
    · exact (h3 e).2.1
    · rw [(a3 e).2.1, (b3 e).2.1]
  · by_cases e : k = 3
    · exact (h3 e).2.2
    · rw [(a3 e).2.2, (b3 e).2.2]
  · by_cases e : k = 4
    · exact h4 e
    · rw [a4 e, b4 e]
  · by_cases e : k = 5 ∨ k = 6 ∨ k = 9
    · exact h5 e
    · rw [a5 (by omega) (by omega) (by omega), b5 (by omega) (by omega) (by omega)]
  · by_cases e : k = 8
    · exact h8 e
    · rw [a8 e, b8 e]
  · by_cases e : k = 7 ∨ k = 8 ∨ k = 9
    · exact h9 e
    · rw [a9 (by omega) (by omega) (by omega), b9 (by omega) (by omega) (by omega)]
theorem zip_inj : ∀ {a a' : List ByteArray} {b b' : List Val}, a.length = b.length → a'.length = b'.length → a.zip b = a'.zip b' → a = a' ∧ b = b'
  | [], [], [], [], _, _, _ => ⟨rfl, rfl⟩
  | [], x :: r, [], y :: t, _, _, h => by simp at h
  | x :: r, [], y :: t, [], _, _, h => by simp at h
  | x :: r, x' :: r', y :: t, y' :: t', h1, h2, h => by
    simp only [List.zip_cons_cons, List.cons.injEq, Prod.mk.injEq] at h
    obtain ⟨⟨rfl, rfl⟩, h⟩ := h
    obtain ⟨rfl, rfl⟩ := zip_inj (by simpa using h1) (by simpa using h2) h
    exact ⟨rfl, rfl⟩
  | [], _, _ :: _, _, h, _, _ => by simp at h
  | _ :: _, _, [], _, h, _, _ => by simp at h
  | _, [], _, _ :: _, _, h, _ => by simp at h
  | _, _ :: _, _, [], _, h, _ => by simp at h
def flagN (v : Val) : Int := if v.flag then 1 else 0
/-- The order of values is one. -/
theorem ord_val : ∀ v, good v = true → OrdAt orderV (fun w => good w = true) v := by
  apply val_ind
  intro v ih hv
  have hl : ∀ x, x ∈ v.list → OrdAt orderV (fun w => good w = true) x ∧ orderV x x = 0 := fun x hx => ⟨ih x hx (good_mem hv hx), order_self x (good_mem hv hx)⟩
  have sv : Same v.kind v := ⟨hv, rfl⟩
  have key : OrdAt orderV (Same v.kind) v := by
    by_cases e2 : v.kind = 2
    · refine ord_congr (c := fun a b => cmpZ (flagN a) (flagN b)) (ord_map flagN (ord_cmpZ _) (fun _ _ => trivial) fun y hy h => ?_) sv fun a b ha hb => ?_
      · refine same_eq sv hy (fun _ => ?_) (fun h => by omega) (fun h => by omega) (fun h => by omega) (fun h => by omega) (fun h => by omega)
        unfold flagN at h
        cases hf : v.flag <;> cases hg : y.flag <;> simp [hf, hg] at h <;> rfl
      · rw [orderV_eq, ha.2, hb.2, if_neg (by omega), if_neg (by omega), if_pos e2]
        unfold flagN cmpZ
        cases a.flag <;> cases b.flag <;> simp
    by_cases e3 : v.kind = 3
    · have hn : ∀ y, Same v.kind y → numOk (y.neg, y.dig, y.exp) := fun y hy => (formed_parts (good_iff.1 hy.1).1).2.2 (hy.2.trans e3)
      refine ord_congr (c := fun a b => numC (a.neg, a.dig, a.exp) (b.neg, b.dig, b.exp)) (ord_map (fun a : Val => (a.neg, a.dig, a.exp)) (ord_num (hn v sv)) hn fun y hy h => ?_) sv fun a b ha hb => ?_
      · simp only [Prod.mk.injEq] at h
        exact same_eq sv hy (fun h => by omega) (fun _ => h) (fun h => by omega) (fun h => by omega) (fun h => by omega) (fun h => by omega)
      · rw [orderV_eq, ha.2, hb.2, if_neg (by omega), if_neg (by omega), if_neg e2, if_pos e3]
        rfl
    by_cases e4 : v.kind = 4
    · refine ord_congr (c := fun a b => cmpZ a.bits b.bits) (ord_map Val.bits (ord_cmpZ _) (fun _ _ => trivial) fun y hy h => ?_) sv fun a b ha hb => ?_
      · exact same_eq sv hy (fun h => by omega) (fun h => by omega) (fun _ => h) (fun h => by omega) (fun h => by omega) (fun h => by omega)
      · rw [orderV_eq, ha.2, hb.2, if_neg (by omega), if_neg (by omega), if_neg e2, if_neg e3, if_pos e4]
    by_cases e5 : v.kind = 5 ∨ v.kind = 6
    · refine ord_congr (c := fun a b => cmpS a.text b.text) (ord_map Val.text (ord_cmpS _) (fun _ _ => trivial) fun y hy h => ?_) sv fun a b ha hb => ?_
      · exact same_eq sv hy (fun h => by omega) (fun h => by omega) (fun h => by omega) (fun _ => h) (fun h => by omega) (fun h => by omega)
      · rw [orderV_eq, ha.2, hb.2, if_neg (by omega), if_neg (by omega), if_neg e2, if_neg e3, if_neg e4]
        rcases e5 with e5 | e5
        · rw [if_pos e5]
        · rw [if_neg (by omega), if_pos e5]
    by_cases e8 : v.kind = 8
    · have hp : ∀ p, p ∈ v.names.zip v.list → OrdAt (pairC orderV) (fun q => good q.2 = true) p ∧ pairC orderV p p = 0 := fun p hp => ⟨ord_pair (hl p.2 (zip_mem hp).2).1, by unfold pairC; rw [if_pos (cmpS_self _), (hl _ (zip_mem hp).2).2]⟩
      have hln : ∀ y, Same v.kind y → y.names.length = y.list.length := fun y hy => (formed_parts (good_iff.1 hy.1).1).2.1 (hy.2.trans e8)
      refine ord_congr (c := fun a b => rowsG (pairC orderV) (a.names.zip a.list) (b.names.zip b.list)) (ord_map (fun a : Val => a.names.zip a.list) (ord_rows _ hp) (fun y hy p hp => good_mem hy.1 (zip_mem hp).2) fun y hy h => ?_) sv fun a b ha hb => ?_
      · obtain ⟨h1, h2⟩ := zip_inj (hln v sv) (hln y hy) h
        exact same_eq sv hy (fun h => by omega) (fun h => by omega) (fun h => by omega) (fun h => by omega) (fun _ => h1) (fun _ => h2)
      · rw [orderV_eq, ha.2, hb.2, if_neg (by omega), if_neg (by omega), if_neg e2, if_neg e3, if_neg e4, if_neg (by omega), if_neg (by omega), if_pos e8]
    by_cases e9 : v.kind = 9
    · refine ord_congr (c := fun a b => lexC (rowsG orderV) (a.text, a.list) (b.text, b.list)) (ord_map (fun a : Val => (a.text, a.list)) (ord_lex (ord_rows _ hl)) (fun y hy x hx => good_mem hy.1 hx) fun y hy h => ?_) sv fun a b ha hb => ?_
      · simp only [Prod.mk.injEq] at h
        exact same_eq sv hy (fun h => by omega) (fun h => by omega) (fun h => by omega) (fun _ => h.1) (fun h => by omega) (fun _ => h.2)
      · rw [orderV_eq, ha.2, hb.2, if_neg (by omega), if_neg (by omega), if_neg e2, if_neg e3, if_neg e4, if_neg (by omega), if_neg (by omega), if_neg e8, if_pos e9]
        rfl
    · refine ord_congr (c := fun a b => rowsG orderV a.list b.list) (ord_map Val.list (ord_rows _ hl) (fun y hy x hx => good_mem hy.1 hx) fun y hy h => ?_) sv fun a b ha hb => ?_
      · exact same_eq sv hy (fun h => by omega) (fun h => by omega) (fun h => by omega) (fun h => by omega) (fun h => by omega) (fun _ => h)
      · rw [orderV_eq, ha.2, hb.2, if_neg (by omega), if_neg (by omega), if_neg e2, if_neg e3, if_neg e4, if_neg (by omega), if_neg (by omega), if_neg e8, if_neg e9]
  have lt : ∀ a b : Val, a.kind < b.kind → orderV a b = -1 := fun a b h => by rw [orderV_eq, if_pos h]
  have gt : ∀ a b : Val, b.kind < a.kind → orderV a b = 1 := fun a b h => by rw [orderV_eq, if_neg (by omega), if_pos h]
  refine ⟨fun y hy => ?_, fun y hy => ?_, fun y hy h => ?_, fun y z hy hz h1 h2 => ?_⟩
  · rcases Int.lt_trichotomy v.kind y.kind with h | h | h
    · exact .inl (lt _ _ h)
    · exact key.rng y ⟨hy, h.symm⟩
    · exact .inr (.inr (gt _ _ h))
  · rcases Int.lt_trichotomy v.kind y.kind with h | h | h
    · rw [lt _ _ h, gt _ _ h]; rfl
    · exact key.anti y ⟨hy, h.symm⟩
    · rw [lt _ _ h, gt _ _ h]
  · rcases Int.lt_trichotomy v.kind y.kind with k | k | k
    · rw [lt _ _ k] at h; omega
    · exact key.zero y ⟨hy, k.symm⟩ h
    · rw [gt _ _ k] at h; omega
  · have a1 : v.kind ≤ y.kind := by
      apply Int.not_lt.1; intro k; rw [gt _ _ k] at h1; omega
    have a2 : y.kind ≤ z.kind := by
      apply Int.not_lt.1; intro k; rw [gt _ _ k] at h2; omega
    by_cases k1 : v.kind < z.kind
    · exact lt _ _ k1
    · exact key.trans y z ⟨hy, by omega⟩ ⟨hz, by omega⟩ h1 h2
end Go.Proofs.YtaeeblcdggjokaaGreatDoor.Vk
/- Contracts of the reference: zeros, texts of one length. -/
namespace Go.Proofs.YtaeeblcdggjokaaGreatDoor.Vk
open Go Go.Ab Go.RowKit
set_option maxRecDepth 100000
set_option linter.unusedVariables false
set_option linter.unusedSimpArgs false
set_option linter.unusedSectionVars false
set_option linter.constructorNameAsVariable false
theorem zer_succ (i : Nat) : zer (i : Int) ++ mkS [48] = zer ((i + 1 : Nat) : Int) := by
  refine ByteArray.ext (Array.toList_inj.1 ?_)
  rw [cat_list, zer_list, zer_list, Int.toNat_natCast, Int.toNat_natCast, List.replicate_succ']
  rfl
/-- calamus/calamusref01.Zeros: func 128, params [3], ntmps 13. -/
-- head 0 of loop 0: [t0 .sh (.cell (.sc (.i .i64))), t3 .sh (.cell (.sc .s)), t4 .sh (.cell (.sc (.i .i64)))]
def heads_rzeros : List Hd := [⟨0, [.sh (.cell (.sc (.i .i64))), .any, .any, .sh (.cell (.sc .s)), .sh (.cell (.sc (.i .i64))), .any, .any, .any, .any, .any, .any, .any, .any]⟩]
def entry_rzeros : Tree :=
 (.leaf (.go 0 [(.var 0), (.lit (.string .empty)), (.lit (.int .i64 0))]))
def head_rzeros_0 : Tree :=
 (.ite (.pr (.icmp .lss) [(.var 2), (.var 0)])
 (.giv (.pr (.icmp .leq) [(.pr .slen [(.var 1)]), (.lit (.int .i64 1099511627776))])
 (.leaf (.go 0 [(.var 0), (.pr .scat [(.var 1), (.lit (.string (mkS [48])))]), (.pr (.iop .add .i64) [(.var 2), (.lit (.int .i64 1))])])))
 (.leaf (.ret (.var 1))))
def trees_rzeros : List Tree := [head_rzeros_0]
noncomputable def deps_rzeros : List Sig := []
theorem ok_rzeros : check q_rzeros deps_rzeros heads_rzeros entry_rzeros trees_rzeros = true := by kernel_rfl
theorem rzeros_ok (n : Nat) : @Ok (I n) q_rzeros (@okS (I n) n q_rzeros.g) := by
  letI := I n
  refine fn_okS (hphi n) ok_rzeros (by intro q hq; simp [deps_rzeros] at hq)
    (fun _ d ds => ∃ (m i : Nat), ds = [iD m, sD (zer i), iD i] ∧ i ≤ m ∧ m ≤ 1000000 ∧ d = sD (zer m))
    (fun _ ds => (ds.getD 0 .nil).int.toNat - (ds.getD 2 .nil).int.toNat) ?_ ?_
  · intro ds hf hp
    obtain ⟨i, rfl⟩ := one_int hf
    obtain ⟨p1, p2⟩ := (pre_rzeros n i).1 (hp.2 rfl)
    obtain ⟨m, rfl⟩ : ∃ m : Nat, i = m := ⟨i.toNat, by omega⟩
    simp only [entry_rzeros, q_rzeros, Tree.holds, Out.den, E.den, E.denL, den1, den2, den3, den4, den5, den6, den7, den8, Bool.not_eq_true', Bool.not_eq_false', List.getD_cons_zero, List.getD_cons_succ, true_and, and_true, List.length_map, phi_1000, phi_rzeros]
    exact ⟨m, 0, rfl, Nat.zero_le _, by omega, rfl⟩
  · rintro j h t d ds hj ht hf ⟨m, i, rfl, hi, hm, rfl⟩
    obtain rfl : t = head_rzeros_0 := by
      match j, ht with
      | 0, ht => exact (Option.some.inj ht).symm
    by_cases hlt : i < m
    · simp only [head_rzeros_0, Tree.holds, Out.den, E.den, E.denL, den1, den2, den3, den4, den5, den6, den7, den8, Bool.not_eq_true', Bool.not_eq_false', List.getD_cons_zero, List.getD_cons_succ, true_and, and_true, List.length_map, phi_1000, wrap_succ hlt (show m ≤ lim by have : 1000000 ≤ lim := (by decide); omega), zer_succ, zer_size]
      exact ⟨fun _ => ⟨by omega, ⟨m, i + 1, rfl, hlt, hm, rfl⟩, by omega⟩, fun h => by omega⟩
    · obtain rfl : i = m := by omega
      simp only [head_rzeros_0, Tree.holds, Out.den, E.den, E.denL, den1, den2, den3, den4, den5, den6, den7, den8, Bool.not_eq_true', Bool.not_eq_false', List.getD_cons_zero, List.getD_cons_succ, true_and, and_true, List.length_map, phi_1000]
      exact ⟨fun h => by omega, fun _ => trivial⟩
/-- calamus/calamusref01.less: func 113, params [9, 9], ntmps 26. -/
-- head 0 of loop 0: [t0 .sh (.cell (.sc .s)), t1 .sh (.cell (.sc .s)), t5 .sh (.cell (.sc (.i .i64)))]
def heads_rless : List Hd := [⟨0, [.sh (.cell (.sc .s)), .sh (.cell (.sc .s)), .any, .any, .any, .sh (.cell (.sc (.i .i64))), .any, .any, .any, .any, .any, .any, .any, .any, .any, .any, .any, .any, .any, .any, .any, .any, .any, .any, .any, .any]⟩]
def entry_rless : Tree :=
 (.leaf (.go 0 [(.var 0), (.var 1), (.lit (.int .i64 0))]))
def head_rless_0 : Tree :=
 (.ite (.pr (.icmp .lss) [(.var 2), (.pr .slen [(.var 0)])])
 (.giv (.pr (.icmp .leq) [(.lit (.int .i64 0)), (.var 2)])
 (.giv (.pr (.icmp .lss) [(.var 2), (.pr .slen [(.var 1)])])
 (.ite (.pr (.icmp .neq) [(.pr .sat [(.var 0), (.var 2)]), (.pr .sat [(.var 1), (.var 2)])])
 (.leaf (.ret (.pr (.icmp .lss) [(.pr .sat [(.var 0), (.var 2)]), (.pr .sat [(.var 1), (.var 2)])])))
 (.leaf (.go 0 [(.var 0), (.var 1), (.pr (.iop .add .i64) [(.var 2), (.lit (.int .i64 1))])])))))
 (.leaf (.ret (.lit (.bool false)))))
def trees_rless : List Tree := [head_rless_0]
noncomputable def deps_rless : List Sig := []
theorem ok_rless : check q_rless deps_rless heads_rless entry_rless trees_rless = true := by kernel_rfl
theorem rless_ok (n : Nat) : @Ok (I n) q_rless (@okS (I n) n q_rless.g) := by
  letI := I n
  refine fn_okS (hphi n) ok_rless (by intro q hq; simp [deps_rless] at hq)
    (fun _ d ds => ∃ (a b : ByteArray) (i : Nat), ds = [sD a, sD b, iD i] ∧ i ≤ a.size ∧ a.size = b.size ∧ a.size ≤ lim ∧ d = bD (decide (Lib.compareBytes (a.data.toList.drop i) (b.data.toList.drop i) = -1)))
    (fun _ ds => (ds.getD 0 .nil).str.size - (ds.getD 2 .nil).int.toNat) ?_ ?_
  · intro ds hf hp
    obtain ⟨a, b, rfl⟩ : ∃ a b, ds = [sD a, sD b] := by
      match ds, hf with
      | [x, y], ⟨h1, h2, _⟩ =>
        obtain ⟨a, rfl⟩ := fits_str h1
        obtain ⟨b, rfl⟩ := fits_str h2
        exact ⟨a, b, rfl⟩
    have hs := (pre_rless n a b).1 (hp.2 rfl)
    have hl := lim_sD.1 (okD_two.1 hp.1).2.1
    simp only [entry_rless, q_rless, Tree.holds, Out.den, E.den, E.denL, den1, den2, den3, den4, den5, den6, den7, den8, Bool.not_eq_true', Bool.not_eq_false', List.getD_cons_zero, List.getD_cons_succ, true_and, and_true, List.length_map, phi_1000, phi_rless]
    exact ⟨a, b, 0, rfl, Nat.zero_le _, hs, hl, rfl⟩
  · rintro j h t d ds hj ht hf ⟨a, b, i, rfl, hi, hab, hl, rfl⟩
    obtain rfl : t = head_rless_0 := by
      match j, ht with
      | 0, ht => exact (Option.some.inj ht).symm
    by_cases hlt : i < a.size
    · obtain ⟨x, hx, _, hd⟩ := drop_get (show i < a.data.toList.length by rw [← size_len]; exact hlt)
      obtain ⟨y, hy, _, hd'⟩ := drop_get (show i < b.data.toList.length by rw [← size_len]; omega)
      have hx' : a.data.toList.getD i 0 = x := by rw [List.getD_eq_getElem?_getD, hx]; rfl
      have hy' : b.data.toList.getD i 0 = y := by rw [List.getD_eq_getElem?_getD, hy]; rfl
      simp only [head_rless_0, Tree.holds, Out.den, E.den, E.denL, den1, den2, den3, den4, den5, den6, den7, den8, Bool.not_eq_true', Bool.not_eq_false', List.getD_cons_zero, List.getD_cons_succ, true_and, and_true, List.length_map, phi_1000, wrap_succ hlt hl, Int.toNat_natCast, hx', hy']
      rw [hd, hd']
      have step : Lib.compareBytes (x :: a.data.toList.drop (i + 1)) (y :: b.data.toList.drop (i + 1)) = if x < y then -1 else if y < x then 1 else Lib.compareBytes (a.data.toList.drop (i + 1)) (b.data.toList.drop (i + 1)) := rfl
      rw [step]
      simp only [ltb]
      refine ⟨fun _ => ⟨by omega, by omega, fun hb => ?_, fun hb => ⟨⟨a, b, i + 1, rfl, hlt, hab, hl, ?_⟩, by omega⟩⟩, fun h => by omega⟩
      · have : ltI x.toNat y.toNat = decide ((if x.toNat < y.toNat then (-1 : Int) else if y.toNat < x.toNat then 1 else Lib.compareBytes (a.data.toList.drop (i + 1)) (b.data.toList.drop (i + 1))) = -1) := by
          rw [Bool.eq_iff_iff, ltI_t, decide_eq_true_iff]
          split
          · exact ⟨fun _ => rfl, fun _ => by omega⟩
          · split
            · exact ⟨fun h => by omega, fun h => by omega⟩
            · omega
        rw [this]
      · rw [if_neg (by omega), if_neg (by omega)]
    · simp only [head_rless_0, Tree.holds, Out.den, E.den, E.denL, den1, den2, den3, den4, den5, den6, den7, den8, Bool.not_eq_true', Bool.not_eq_false', List.getD_cons_zero, List.getD_cons_succ, true_and, and_true, List.length_map, phi_1000]
      refine ⟨fun h => by omega, fun _ => ?_⟩
      rw [List.drop_eq_nil_of_le (by rw [← size_len]; omega), List.drop_eq_nil_of_le (by rw [← size_len]; omega)]
      rfl
end Go.Proofs.YtaeeblcdggjokaaGreatDoor.Vk
/- Contracts of the reference: Count, Valid; given that of Decode. -/
namespace Go.Proofs.YtaeeblcdggjokaaGreatDoor.Vk
open Go Go.Ab Go.RowKit
set_option maxRecDepth 100000
set_option linter.unusedVariables false
set_option linter.unusedSimpArgs false
set_option linter.unusedSectionVars false
set_option linter.constructorNameAsVariable false
theorem ext_size (s : ByteArray) (i : Nat) (h : i ≤ s.size) : (s.extract i s.size).size = s.size - i := by
  rw [ByteArray.size_extract]; omega
theorem decV_next {s : ByteArray} {i : Nat} (h : (decV s i).2.2 = 0) : ∃ m : Nat, (decV s i).2.1 = m ∧ 1 ≤ m ∧ i + m ≤ s.size := by
  unfold decV at h ⊢
  by_cases h1 : (i : Int) < 0
  · rw [if_pos h1] at h; cases h
  rw [if_neg h1] at h ⊢
  by_cases h2 : (s.size : Int) ≤ i
  · rw [if_pos h2] at h; cases h
  rw [if_neg h2] at h ⊢
  have hs := ext_size s i (by omega)
  simp only [Int.toNat_natCast] at h ⊢
  split at h
  · rename_i h3
    rw [if_pos h3]
    have h4 := h3.2.1
    rw [hs] at h4
    have h5 := h3.1
    refine ⟨(longV ((s.extract i s.size).data.toList.getD 0 0).toNat).toNat, ?_, by omega, by omega⟩
    show longV ((s.extract i s.size).data.toList.getD 0 0).toNat = _
    omega
  · split at h <;> cases h
/-- calamus/calamusref03.Count: func 105, params [9], ntmps 29. -/
-- head 0 of loop 0: [t0 .sh (.cell (.sc .s)), t4 .sh (.cell (.sc (.i .i64))), t5 .sh (.cell (.sc (.i .i64)))]
def heads_rcount : List Hd := [⟨0, [.sh (.cell (.sc .s)), .any, .any, .any, .sh (.cell (.sc (.i .i64))), .sh (.cell (.sc (.i .i64))), .any, .any, .any, .any, .any, .any, .any, .any, .any, .any, .any, .any, .any, .any, .any, .any, .any, .any, .any, .any, .any, .any, .any]⟩]
def entry_rcount : Tree :=
 (.leaf (.go 0 [(.var 0), (.lit (.int .i64 0)), (.lit (.int .i64 0))]))
def head_rcount_0 : Tree :=
 (.ite (.pr (.icmp .lss) [(.var 2), (.pr .slen [(.var 0)])])
 (.giv (.app 1000 [(.var 0), (.var 2)])
 (.ite (.pr (.icmp .neq) [(.pr (.cell 2) [(.app 32 [(.var 0), (.var 2)])]), (.lit (.int .i64 0))])
 (.leaf (.ret (.pr .row [(.lit (.int .i64 0)), (.pr (.cell 2) [(.app 32 [(.var 0), (.var 2)])])])))
 (.leaf (.go 0 [(.var 0), (.pr (.iop .add .i64) [(.var 1), (.lit (.int .i64 1))]), (.pr (.iop .add .i64) [(.var 2), (.pr (.cell 1) [(.app 32 [(.var 0), (.var 2)])])])]))))
 (.leaf (.ret (.pr .row [(.var 1), (.lit (.int .i64 0))]))))
def trees_rcount : List Tree := [head_rcount_0]
noncomputable def deps_rcount : List Sig := [q_rdecode]
theorem ok_rcount : check q_rcount deps_rcount heads_rcount entry_rcount trees_rcount = true := by kernel_rfl
theorem rcount_at (n : Nat) (hdec : @Ok (I n) q_rdecode (okD n)) : @Ok (I n) q_rcount (fun ds => D.szL ds + 4 < n ∧ D.LimL ds) := by
  letI := I n
  refine fn_ok (hphi n) ok_rcount (by intro q hq; simp only [deps_rcount, List.mem_singleton] at hq; subst hq; exact hdec)
    (fun _ d ds => ∃ (s : ByteArray) (c : Int) (i k : Nat), ds = [sD s, iD c, iD i] ∧ i ≤ s.size ∧ s.size < k + i ∧ s.size ≤ lim ∧ okD n [sD s, iD 0] ∧ d = .row [iD (countF k s c i).1, iD (countF k s c i).2])
    (fun _ ds => (ds.getD 0 .nil).str.size - (ds.getD 2 .nil).int.toNat) ?_ ?_
  · intro ds hf hp
    obtain ⟨s, rfl⟩ := one_str hf
    obtain ⟨p1, p2⟩ := hp
    simp only [D.szL, D.sz, D.LimL, and_true] at p1 p2
    have hl := lim_sD.1 p2
    simp only [entry_rcount, q_rcount, Tree.holds, Out.den, E.den, E.denL, den1, den2, den3, den4, den5, den6, den7, den8, Bool.not_eq_true', Bool.not_eq_false', List.getD_cons_zero, List.getD_cons_succ, true_and, and_true, List.length_map, phi_1000, phi_rcount]
    exact ⟨s, 0, 0, s.size + 1, rfl, Nat.zero_le _, by omega, hl, okD_two.2 ⟨by simp only [D.sz]; omega, p2, trivial⟩, rfl⟩
  · rintro j h t d ds hj ht hf ⟨s, c, i, k, rfl, hi, hk, hl, ho, rfl⟩
    obtain rfl : t = head_rcount_0 := by
      match j, ht with
      | 0, ht => exact (Option.some.inj ht).symm
    have ho' : okD n [sD s, iD i] := okD_two.2 ⟨by have := (okD_two.1 ho).1; simp only [D.sz] at this ⊢; omega, (okD_two.1 ho).2.1, trivial⟩
    obtain ⟨k, rfl⟩ : ∃ k', k = k' + 1 := ⟨k - 1, by omega⟩
    have hc : countF (k + 1) s c i = if (i : Int) < s.size then (if (decV s i).2.2 = 0 then countF k s (wrap (c + 1)) (wrap (i + (decV s i).2.1)) else (0, (decV s i).2.2)) else (c, 0) := rfl
    by_cases hlt : i < s.size
    · simp only [head_rcount_0, Tree.holds, Out.den, E.den, E.denL, den1, den2, den3, den4, den5, den6, den7, den8, Bool.not_eq_true', Bool.not_eq_false', List.getD_cons_zero, List.getD_cons_succ, true_and, and_true, List.length_map, phi_1000, phi_rdecode, row_at0, row_at1, row_at2, ho']
      rw [hc, if_pos (by omega)]
      refine ⟨fun _ => ⟨fun he => ?_, fun he => ?_⟩, fun h => by omega⟩
      · rw [if_neg he]
      · rw [if_pos he]
        obtain ⟨m, hm, h1, h2⟩ := decV_next he
        have hs : s.size ≤ 140737488355328 := hl
        have hw : IntKind.i64.wrap ((i : Int) + (decV s i).2.1) = ((i + m : Nat) : Int) := by rw [hm, wrap_id (by omega) (by omega)]; omega
        rw [hw]
        refine ⟨⟨s, wrap (c + 1), i + m, k, rfl, h2, by omega, hl, ho, ?_⟩, ?_⟩
        · show _ = D.row [iD (countF k s (wrap (c + 1)) ((i + m : Nat) : Int)).1, _]
          rw [show wrap ((i : Int) + (decV s i).2.1) = ((i + m : Nat) : Int) from hw]
        · simp only [Int.toNat_natCast]; omega
    · simp only [head_rcount_0, Tree.holds, Out.den, E.den, E.denL, den1, den2, den3, den4, den5, den6, den7, den8, Bool.not_eq_true', Bool.not_eq_false', List.getD_cons_zero, List.getD_cons_succ, true_and, and_true, List.length_map, phi_1000]
      rw [hc, if_neg (by omega)]
      exact ⟨fun h => by omega, fun _ => rfl⟩
theorem rcount_ok (hdec : ∀ n, @Ok (I n) q_rdecode (okD n)) (n : Nat) : @Ok (I n) q_rcount (okD n) := by
  have h : @Ok (I n) q_rcount (fun ds => D.szL ds + 4 < n + 10 ∧ D.LimL ds) := ok_irrel (by decide) (rcount_at (n + 10) (hdec (n + 10)))
  letI := I n
  exact h.less fun ds k => ⟨by have := k.1; omega, k.2⟩
end Go.Proofs.YtaeeblcdggjokaaGreatDoor.Vk
/- What is a text: the reference's decoder answers as the library's. Plain Lean. -/
namespace Go.Proofs.YtaeeblcdggjokaaGreatDoor.Vk
open Go Go.Ab Go.RowKit
set_option maxRecDepth 100000
set_option linter.unusedVariables false
set_option linter.unusedSimpArgs false
set_option linter.unusedSectionVars false
set_option linter.constructorNameAsVariable false
theorem ofNat_eq (k : Nat) (b : UInt8) : UInt8.ofNat k = b ↔ k % 256 = b.toNat := by
  constructor
  · intro h; rw [← h, UInt8.toNat_ofNat']
  · intro h; apply UInt8.toNat_inj.1; rw [UInt8.toNat_ofNat']; exact h
theorem c8_nat (k : Nat) (h : k < 4194304) : c8 (k : Int) = UInt8.ofNat k := by
  unfold c8
  have e : IntKind.u8.wrap (k : Int) = ((k % 256 : Nat) : Int) := by
    unfold IntKind.wrap
    have e : (2 ^ IntKind.u8.bits : Int) = 256 := rfl
    have e3 : IntKind.u8.signed = false := rfl
    simp only [e, e3, Bool.false_and, Bool.false_eq_true, if_false]
    omega
  rw [e, Int.toNat_natCast]
  apply UInt8.toNat_inj.1
  rw [UInt8.toNat_ofNat', UInt8.toNat_ofNat']
  omega
/-- A character's bytes, over natural numbers. -/
def encN (r : Nat) : List UInt8 :=
  if r < 128 then [UInt8.ofNat r] else
  if r < 2048 then [UInt8.ofNat (192 + r / 64), UInt8.ofNat (128 + r % 64)] else
  if r < 65536 then [UInt8.ofNat (224 + r / 4096), UInt8.ofNat (128 + r / 64 % 64), UInt8.ofNat (128 + r % 64)] else
  [UInt8.ofNat (240 + r / 262144), UInt8.ofNat (128 + r / 4096 % 64), UInt8.ofNat (128 + r / 64 % 64), UInt8.ofNat (128 + r % 64)]
theorem wrap_nat {k : Nat} (h : k < 4194304) : wrap (k : Int) = (k : Int) := wrap_id (by omega) (by omega)
theorem enc_nat (r : Nat) (h : r < 4194304) : (encV (r : Int)).data.toList = encN r := by
  have q : ∀ m : Nat, 0 < m → ((r : Int).tdiv (m : Int)) = ((r / m : Nat) : Int) := fun m _ => (Int.ofNat_tdiv r m).symm
  have q64 : (r : Int).tdiv 64 = ((r / 64 : Nat) : Int) := q 64 (by decide)
  have q4096 : (r : Int).tdiv 4096 = ((r / 4096 : Nat) : Int) := q 4096 (by decide)
  have q262144 : (r : Int).tdiv 262144 = ((r / 262144 : Nat) : Int) := q 262144 (by decide)
  have m64 : ∀ k : Nat, (k : Int).tmod 64 = ((k % 64 : Nat) : Int) := fun k => (Int.ofNat_tmod k 64).symm
  have a : ∀ (c k : Nat), c + k < 4194304 → c8 (wrap ((c : Int) + (k : Int))) = UInt8.ofNat (c + k) := fun c k hk => by
    rw [show (c : Int) + (k : Int) = ((c + k : Nat) : Int) from rfl, wrap_nat hk, c8_nat _ hk]
  unfold encV encN
  rw [q64, q4096, q262144, wrap_nat (show r / 64 < _ by omega), wrap_nat (show r / 4096 < _ by omega), wrap_nat (show r / 262144 < _ by omega), m64, m64, m64]
  by_cases h1 : r < 128
  · rw [if_pos h1, if_pos (by omega)]
    show [c8 r] = _
    rw [c8_nat _ h]
  rw [if_neg h1, if_neg (show ¬ (r : Int) < 128 by omega)]
  by_cases h2 : r < 2048
  · rw [if_pos h2, if_pos (by omega)]
    show [c8 (wrap (((192 : Nat) : Int) + _)), c8 (wrap (((128 : Nat) : Int) + _))] = _
    rw [a _ _ (by omega), a _ _ (by omega)]
  rw [if_neg h2, if_neg (show ¬ (r : Int) < 2048 by omega)]
  by_cases h3 : r < 65536
  · rw [if_pos h3, if_pos (by omega)]
    show [c8 (wrap (((224 : Nat) : Int) + _)), c8 (wrap (((128 : Nat) : Int) + _)), c8 (wrap (((128 : Nat) : Int) + _))] = _
    rw [a _ _ (by omega), a _ _ (by omega), a _ _ (by omega)]
  rw [if_neg h3, if_neg (show ¬ (r : Int) < 65536 by omega)]
  show [c8 (wrap (((240 : Nat) : Int) + _)), c8 (wrap (((128 : Nat) : Int) + _)), c8 (wrap (((128 : Nat) : Int) + _)), c8 (wrap (((128 : Nat) : Int) + _))] = _
  rw [a _ _ (by omega), a _ _ (by omega), a _ _ (by omega), a _ _ (by omega)]
theorem enc_is {t : ByteArray} {r n : Nat} (h : r < 4194304) : encV (r : Int) = t.extract 0 n ↔ encN r = t.data.toList.take n := by
  have e : (t.extract 0 n).data.toList = t.data.toList.take n := by
    rw [ByteArray.data_extract, Array.toList_extract]
    unfold List.extract
    rw [List.drop_zero, Nat.sub_zero]
  rw [← enc_nat r h, ← e]
  exact ⟨fun h => by rw [h], fun h => ByteArray.ext (Array.toList_inj.1 h)⟩
theorem isR_nat (r : Nat) : isR (r : Int) = true ↔ r ≤ 1114111 ∧ (r < 55296 ∨ 57343 < r) := by
  unfold isR
  rw [decide_eq_true_iff]
  omega
/-- What a character's further bytes come to. -/
theorem step_nat (a : Nat) (c : UInt8) (h : a < 65536) : wrap (wrap (64 * (a : Int)) + (c.toNat : Int).tmod 64) = ((a * 64 + c.toNat % 64 : Nat) : Int) := by
  have m64 : (c.toNat : Int).tmod 64 = ((c.toNat % 64 : Nat) : Int) := (Int.ofNat_tmod _ 64).symm
  rw [m64, show (64 : Int) * (a : Int) = ((a * 64 : Nat) : Int) by omega, wrap_nat (by omega), show ((a * 64 : Nat) : Int) + ((c.toNat % 64 : Nat) : Int) = ((a * 64 + c.toNat % 64 : Nat) : Int) from rfl, wrap_nat (by omega)]
theorem numb_two {t : ByteArray} {b0 b1 : UInt8} {r : List UInt8} (h : t.data.toList = b0 :: b1 :: r) : numbV t 2 = ((b0.toNat % 32 * 64 + b1.toNat % 64 : Nat) : Int) := by
  have e : (b0.toNat : Int).tmod ((128 : Int).fdiv (2 ^ (min (2 : Int).toNat 64))) = ((b0.toNat % 32 : Nat) : Int) := (Int.ofNat_tmod _ 32).symm
  unfold numbV
  rw [if_neg (by decide), h]
  show List.foldl _ ((b0.toNat : Int).tmod _) [b1] = _
  rw [e, List.foldl_cons, List.foldl_nil, step_nat _ _ (by omega)]
theorem numb_three {t : ByteArray} {b0 b1 b2 : UInt8} {r : List UInt8} (h : t.data.toList = b0 :: b1 :: b2 :: r) : numbV t 3 = (((b0.toNat % 16 * 64 + b1.toNat % 64) * 64 + b2.toNat % 64 : Nat) : Int) := by
  have e : (b0.toNat : Int).tmod ((128 : Int).fdiv (2 ^ (min (3 : Int).toNat 64))) = ((b0.toNat % 16 : Nat) : Int) := (Int.ofNat_tmod _ 16).symm
  unfold numbV
  rw [if_neg (by decide), h]
  show List.foldl _ ((b0.toNat : Int).tmod _) [b1, b2] = _
  rw [e, List.foldl_cons, List.foldl_cons, List.foldl_nil, step_nat _ _ (by omega), step_nat _ _ (by omega)]
theorem numb_four {t : ByteArray} {b0 b1 b2 b3 : UInt8} {r : List UInt8} (h : t.data.toList = b0 :: b1 :: b2 :: b3 :: r) : numbV t 4 = ((((b0.toNat % 8 * 64 + b1.toNat % 64) * 64 + b2.toNat % 64) * 64 + b3.toNat % 64 : Nat) : Int) := by
  have e : (b0.toNat : Int).tmod ((128 : Int).fdiv (2 ^ (min (4 : Int).toNat 64))) = ((b0.toNat % 8 : Nat) : Int) := (Int.ofNat_tmod _ 8).symm
  unfold numbV
  rw [if_neg (by decide), h]
  show List.foldl _ ((b0.toNat : Int).tmod _) [b1, b2, b3] = _
  rw [e, List.foldl_cons, List.foldl_cons, List.foldl_cons, List.foldl_nil, step_nat _ _ (by omega), step_nat _ _ (by omega), step_nat _ _ (by omega)]
theorem headOk_iff {t : ByteArray} {n : Int} {r : Nat} (hn : numbV t n = (r : Int)) (h : r < 4194304) : headOk t n = true ↔ (r ≤ 1114111 ∧ (r < 55296 ∨ 57343 < r)) ∧ encN r = t.data.toList.take n.toNat := by
  unfold headOk
  rw [hn, Bool.and_eq_true, isR_nat, decide_eq_true_iff, enc_is h]
theorem head_one {t : ByteArray} {b0 : UInt8} {r : List UInt8} (h : t.data.toList = b0 :: r) (hb : b0.toNat < 128) : headOk t 1 = true := by
  have hn : numbV t 1 = (b0.toNat : Int) := by unfold numbV; rw [if_pos rfl, h]; rfl
  rw [headOk_iff hn (by omega)]
  refine ⟨by omega, ?_⟩
  rw [h]
  unfold encN
  rw [if_pos hb]
  show [UInt8.ofNat b0.toNat] = [b0]
  rw [UInt8.ofNat_toNat]
theorem head_two {t : ByteArray} {b0 b1 : UInt8} {r : List UInt8} (h : t.data.toList = b0 :: b1 :: r) (hb : 192 ≤ b0.toNat ∧ b0.toNat < 224) : headOk t 2 = true ↔ b1.toNat / 64 = 2 ∧ 128 ≤ b0.toNat % 32 * 64 + b1.toNat % 64 := by
  have h1 := b1.toNat_lt
  rw [headOk_iff (numb_two h) (by omega), h]
  show _ ∧ _ = [b0, b1] ↔ _
  generalize hr : b0.toNat % 32 * 64 + b1.toNat % 64 = r
  unfold encN
  by_cases c : r < 128
  · rw [if_pos c]; simp; omega
  · rw [if_neg c, if_pos (by omega)]
    simp only [List.cons.injEq, ofNat_eq, and_true]
    omega
theorem head_three {t : ByteArray} {b0 b1 b2 : UInt8} {r : List UInt8} (h : t.data.toList = b0 :: b1 :: b2 :: r) (hb : 224 ≤ b0.toNat ∧ b0.toNat < 240) : headOk t 3 = true ↔ b1.toNat / 64 = 2 ∧ b2.toNat / 64 = 2 ∧ 2048 ≤ b0.toNat % 16 * 4096 + b1.toNat % 64 * 64 + b2.toNat % 64 ∧ (b0.toNat % 16 * 4096 + b1.toNat % 64 * 64 + b2.toNat % 64 < 55296 ∨ 57343 < b0.toNat % 16 * 4096 + b1.toNat % 64 * 64 + b2.toNat % 64) := by
  have h1 := b1.toNat_lt
  have h2 := b2.toNat_lt
  rw [headOk_iff (numb_three h) (by omega), h]
  show _ ∧ _ = [b0, b1, b2] ↔ _
  rw [show b0.toNat % 16 * 4096 + b1.toNat % 64 * 64 + b2.toNat % 64 = (b0.toNat % 16 * 64 + b1.toNat % 64) * 64 + b2.toNat % 64 by omega]
  generalize hr : (b0.toNat % 16 * 64 + b1.toNat % 64) * 64 + b2.toNat % 64 = r
  unfold encN
  by_cases c : r < 128
  · rw [if_pos c]; simp; omega
  rw [if_neg c]
  by_cases c' : r < 2048
  · rw [if_pos c']; simp; omega
  · rw [if_neg c', if_pos (by omega)]
    simp only [List.cons.injEq, ofNat_eq, and_true]
    omega
theorem head_four {t : ByteArray} {b0 b1 b2 b3 : UInt8} {r : List UInt8} (h : t.data.toList = b0 :: b1 :: b2 :: b3 :: r) (hb : 240 ≤ b0.toNat ∧ b0.toNat < 248) : headOk t 4 = true ↔ b1.toNat / 64 = 2 ∧ b2.toNat / 64 = 2 ∧ b3.toNat / 64 = 2 ∧ 65536 ≤ b0.toNat % 8 * 262144 + b1.toNat % 64 * 4096 + b2.toNat % 64 * 64 + b3.toNat % 64 ∧ b0.toNat % 8 * 262144 + b1.toNat % 64 * 4096 + b2.toNat % 64 * 64 + b3.toNat % 64 ≤ 1114111 := by
  have h1 := b1.toNat_lt
  have h2 := b2.toNat_lt
  have h3 := b3.toNat_lt
  rw [headOk_iff (numb_four h) (by omega), h]
  show _ ∧ _ = [b0, b1, b2, b3] ↔ _
  rw [show b0.toNat % 8 * 262144 + b1.toNat % 64 * 4096 + b2.toNat % 64 * 64 + b3.toNat % 64 = ((b0.toNat % 8 * 64 + b1.toNat % 64) * 64 + b2.toNat % 64) * 64 + b3.toNat % 64 by omega]
  generalize hr : ((b0.toNat % 8 * 64 + b1.toNat % 64) * 64 + b2.toNat % 64) * 64 + b3.toNat % 64 = r
  unfold encN
  by_cases c : r < 128
  · rw [if_pos c]; simp; omega
  rw [if_neg c]
  by_cases c' : r < 2048
  · rw [if_pos c']; simp; omega
  rw [if_neg c']
  by_cases c'' : r < 65536
  · rw [if_pos c'']; simp; omega
  · rw [if_neg c'']
    simp only [List.cons.injEq, ofNat_eq, and_true]
    omega
/-- What the library's decoder tells of bytes: an error, or how many they are. -/
def badN (x : Nat × Nat) : Prop := x.1 = 65533 ∧ x.2 = 1
theorem dec_no {P : Prop} {n : Int} {x : Nat × Nat} (hP : ¬ P) (hx : x = (65533, 1)) : (P ↔ ¬ badN x) ∧ (P → n = (x.2 : Int)) :=
  ⟨⟨fun h => absurd h hP, fun h => absurd (by rw [hx]; exact ⟨rfl, rfl⟩) h⟩, fun h => absurd h hP⟩
theorem dec_yes {P : Prop} {n v : Nat} {x : Nat × Nat} (hP : P) (hx : x = (v, n)) (hn : n ≠ 1 ∨ v ≠ 65533) : (P ↔ ¬ badN x) ∧ (P → (n : Int) = (x.2 : Int)) := by
  subst hx
  refine ⟨⟨fun _ h => ?_, fun _ => hP⟩, fun _ => rfl⟩
  have h1 : v = 65533 := h.1
  have h2 : n = 1 := h.2
  omega
theorem head_dec (t : ByteArray) (ht : 0 < t.size) :
    ((0 < longV (t.data.toList.getD 0 0).toNat ∧ longV (t.data.toList.getD 0 0).toNat ≤ t.size ∧ headOk t (longV (t.data.toList.getD 0 0).toNat) = true) ↔ ¬ badN (Lib.decodeL t.data.toList)) ∧
    ((0 < longV (t.data.toList.getD 0 0).toNat ∧ longV (t.data.toList.getD 0 0).toNat ≤ t.size ∧ headOk t (longV (t.data.toList.getD 0 0).toNat) = true) → longV (t.data.toList.getD 0 0).toNat = ((Lib.decodeL t.data.toList).2 : Int)) := by
  rw [Lib.decodeL_N]
  have hsz := size_len t
  match hl : t.data.toList with
  | [] => rw [hl, List.length_nil] at hsz; omega
  | b0 :: r =>
    rw [hl] at hsz
    have hb := b0.toNat_lt
    show ((0 < longV b0.toNat ∧ longV b0.toNat ≤ t.size ∧ headOk t (longV b0.toNat) = true) ↔ ¬ badN (Lib.decodeN (r.length + 1) b0.toNat (r.getD 0 0).toNat (r.getD 1 0).toNat (r.getD 2 0).toNat)) ∧ ((0 < longV b0.toNat ∧ longV b0.toNat ≤ t.size ∧ headOk t (longV b0.toNat) = true) → longV b0.toNat = ((Lib.decodeN (r.length + 1) b0.toNat (r.getD 0 0).toNat (r.getD 1 0).toNat (r.getD 2 0).toNat).2 : Int))
    rw [List.length_cons] at hsz
    by_cases c1 : b0.toNat < 128
    · have e : longV b0.toNat = ((1 : Nat) : Int) := by unfold longV; rw [if_pos c1]; rfl
      rw [e]
      exact dec_yes ⟨by omega, by omega, head_one hl c1⟩ (by unfold Lib.decodeN; rw [if_pos c1]) (by omega)
    by_cases c2 : b0.toNat < 192
    · have e : longV b0.toNat = 0 := by unfold longV; rw [if_neg c1, if_neg (by omega), if_neg (by omega), if_neg (by omega)]
      rw [e]
      exact dec_no (fun h => by omega) (by unfold Lib.decodeN; rw [if_neg c1, if_neg (by omega), if_neg (by omega), if_neg (by omega)])
    by_cases c3 : b0.toNat < 224
    · have e : longV b0.toNat = ((2 : Nat) : Int) := by unfold longV; rw [if_neg c1, if_pos (by omega)]; rfl
      rw [e]
      by_cases hlen : r.length < 1
      · exact dec_no (fun h => by omega) (by unfold Lib.decodeN; rw [if_neg c1, if_neg (by omega), if_neg (by omega), if_neg (by omega)])
      obtain ⟨b1, r', rfl⟩ : ∃ b1 r', r = b1 :: r' := by
        match r, hlen with
        | [], h => exact absurd (Nat.zero_lt_one) h
        | b1 :: r', _ => exact ⟨b1, r', rfl⟩
      have h2 := head_two hl (by omega)
      rw [List.length_cons] at hsz ⊢
      simp only [List.getD_cons_zero]
      by_cases k : b1.toNat / 64 = 2
      · by_cases k2 : b0.toNat % 32 * 64 + b1.toNat % 64 ≥ 128
        · exact dec_yes ⟨by omega, by omega, h2.2 ⟨k, k2⟩⟩ (by unfold Lib.decodeN; rw [if_neg c1, if_pos (by omega), if_pos k2]) (by omega)
        · exact dec_no (fun h => k2 (h2.1 h.2.2).2) (by unfold Lib.decodeN; rw [if_neg c1, if_pos (by omega), if_neg k2])
      · exact dec_no (fun h => k (h2.1 h.2.2).1) (by unfold Lib.decodeN; rw [if_neg c1, if_neg (by omega), if_neg (by omega), if_neg (by omega)])
    by_cases c4 : b0.toNat < 240
    · have e : longV b0.toNat = ((3 : Nat) : Int) := by unfold longV; rw [if_neg c1, if_neg (by omega), if_pos (by omega)]; rfl
      rw [e]
      by_cases hlen : r.length < 2
      · exact dec_no (fun h => by omega) (by unfold Lib.decodeN; rw [if_neg c1, if_neg (by omega), if_neg (by omega), if_neg (by omega)])
      obtain ⟨b1, b2, r', rfl⟩ : ∃ b1 b2 r', r = b1 :: b2 :: r' := by
        match r, hlen with
        | [], h => exact absurd (by simp) h
        | [_], h => exact absurd (by simp) h
        | b1 :: b2 :: r', _ => exact ⟨b1, b2, r', rfl⟩
      have h2 := head_three hl (by omega)
      rw [List.length_cons, List.length_cons] at hsz ⊢
      simp only [List.getD_cons_zero, List.getD_cons_succ]
      by_cases k : b1.toNat / 64 = 2 ∧ b2.toNat / 64 = 2
      · by_cases k2 : 2048 ≤ b0.toNat % 16 * 4096 + b1.toNat % 64 * 64 + b2.toNat % 64 ∧ (b0.toNat % 16 * 4096 + b1.toNat % 64 * 64 + b2.toNat % 64 < 55296 ∨ 57343 < b0.toNat % 16 * 4096 + b1.toNat % 64 * 64 + b2.toNat % 64)
        · exact dec_yes ⟨by omega, by omega, h2.2 ⟨k.1, k.2, k2⟩⟩ (by unfold Lib.decodeN; rw [if_neg c1, if_neg (by omega), if_pos (by omega), if_pos (by omega)]) (by omega)
        · exact dec_no (fun h => k2 (h2.1 h.2.2).2.2) (by unfold Lib.decodeN; rw [if_neg c1, if_neg (by omega), if_pos (by omega), if_neg (by omega)])
      · exact dec_no (fun h => k ⟨(h2.1 h.2.2).1, (h2.1 h.2.2).2.1⟩) (by unfold Lib.decodeN; rw [if_neg c1, if_neg (by omega), if_neg (by omega), if_neg (by omega)])
    by_cases c5 : b0.toNat < 248
    · have e : longV b0.toNat = ((4 : Nat) : Int) := by unfold longV; rw [if_neg c1, if_neg (by omega), if_neg (by omega), if_pos (by omega)]; rfl
      rw [e]
      by_cases hlen : r.length < 3
      · exact dec_no (fun h => by omega) (by unfold Lib.decodeN; rw [if_neg c1, if_neg (by omega), if_neg (by omega), if_neg (by omega)])
      obtain ⟨b1, b2, b3, r', rfl⟩ : ∃ b1 b2 b3 r', r = b1 :: b2 :: b3 :: r' := by
        match r, hlen with
        | [], h => exact absurd (by simp) h
        | [_], h => exact absurd (by simp) h
        | [_, _], h => exact absurd (by simp) h
        | b1 :: b2 :: b3 :: r', _ => exact ⟨b1, b2, b3, r', rfl⟩
      have h2 := head_four hl (by omega)
      rw [List.length_cons, List.length_cons, List.length_cons] at hsz ⊢
      simp only [List.getD_cons_zero, List.getD_cons_succ]
      by_cases k : b1.toNat / 64 = 2 ∧ b2.toNat / 64 = 2 ∧ b3.toNat / 64 = 2
      · by_cases k2 : 65536 ≤ b0.toNat % 8 * 262144 + b1.toNat % 64 * 4096 + b2.toNat % 64 * 64 + b3.toNat % 64 ∧ b0.toNat % 8 * 262144 + b1.toNat % 64 * 4096 + b2.toNat % 64 * 64 + b3.toNat % 64 ≤ 1114111
        · exact dec_yes ⟨by omega, by omega, h2.2 ⟨k.1, k.2.1, k.2.2, k2⟩⟩ (by unfold Lib.decodeN; rw [if_neg c1, if_neg (by omega), if_neg (by omega), if_pos (by omega), if_pos (by omega)]) (by omega)
        · exact dec_no (fun h => k2 (h2.1 h.2.2).2.2.2) (by unfold Lib.decodeN; rw [if_neg c1, if_neg (by omega), if_neg (by omega), if_pos (by omega), if_neg (by omega)])
      · exact dec_no (fun h => k ⟨(h2.1 h.2.2).1, (h2.1 h.2.2).2.1, (h2.1 h.2.2).2.2.1⟩) (by unfold Lib.decodeN; rw [if_neg c1, if_neg (by omega), if_neg (by omega), if_neg (by omega)])
    · have e : longV b0.toNat = 0 := by unfold longV; rw [if_neg c1, if_neg (by omega), if_neg (by omega), if_neg (by omega)]
      rw [e]
      exact dec_no (fun h => by omega) (by unfold Lib.decodeN; rw [if_neg c1, if_neg (by omega), if_neg (by omega), if_neg (by omega)])
theorem drop_list (s : ByteArray) (i : Nat) : (s.extract i s.size).data.toList = s.data.toList.drop i := by
  rw [ByteArray.data_extract, Array.toList_extract]
  unfold List.extract
  rw [List.take_of_length_le]
  rw [List.length_drop, ← size_len]
  exact Nat.le_refl _
theorem decV_lib {s : ByteArray} {i : Nat} (h : i < s.size) : ((decV s i).2.2 = 0 ↔ ¬ badN (Lib.decodeL (s.data.toList.drop i))) ∧ ((decV s i).2.2 = 0 → (decV s i).2.1 = ((Lib.decodeL (s.data.toList.drop i)).2 : Int)) := by
  have hs := ext_size s i (by omega)
  have hd := head_dec (s.extract i s.size) (by omega)
  rw [drop_list] at hd
  unfold decV
  rw [if_neg (show ¬ (i : Int) < 0 by omega), if_neg (show ¬ (s.size : Int) ≤ i by omega)]
  simp only [Int.toNat_natCast, drop_list]
  split
  · rename_i c
    exact ⟨⟨fun _ => hd.1.1 c, fun _ => rfl⟩, fun _ => hd.2 c⟩
  · rename_i c
    have nb : ¬ ¬ badN (Lib.decodeL (s.data.toList.drop i)) := fun k => c (hd.1.2 k)
    split
    · exact ⟨⟨fun h => (by cases h), fun h => absurd h nb⟩, fun h => (by cases h)⟩
    · exact ⟨⟨fun h => (by cases h), fun h => absurd h nb⟩, fun h => (by cases h)⟩
theorem count_valid {s : ByteArray} (hl : s.size ≤ lim) : ∀ (k : Nat) (c : Int) (i : Nat), i ≤ s.size → s.size < k + i → ((countF k s c i).2 = 0 ↔ Lib.validD (s.data.toList.drop i) = true)
  | 0, c, i, hi, hk => by omega
  | k + 1, c, i, hi, hk => by
    have hc : countF (k + 1) s c i = if (i : Int) < s.size then (if (decV s i).2.2 = 0 then countF k s (wrap (c + 1)) (wrap (i + (decV s i).2.1)) else (0, (decV s i).2.2)) else (c, 0) := rfl
    have hsz := size_len s
    rw [hc]
    by_cases hlt : i < s.size
    · rw [if_pos (by omega), Lib.validD_step _ (by intro e; have := congrArg List.length e; rw [List.length_drop, List.length_nil] at this; omega)]
      obtain ⟨d1, d2⟩ := decV_lib hlt
      by_cases he : (decV s i).2.2 = 0
      · obtain ⟨m, hm, h1, h2⟩ := decV_next he
        have hm' := d2 he
        have hs : s.size ≤ 140737488355328 := hl
        have hw : wrap ((i : Int) + (decV s i).2.1) = ((i + m : Nat) : Int) := by show IntKind.i64.wrap _ = _; rw [hm, wrap_id (by omega) (by omega)]; omega
        rw [if_pos he, if_neg (show ¬ ((Lib.decodeL (s.data.toList.drop i)).1 = 65533 ∧ (Lib.decodeL (s.data.toList.drop i)).2 = 1) from d1.1 he), hw, count_valid hl k _ (i + m) h2 (by omega), List.drop_drop]
        have : m = (Lib.decodeL (s.data.toList.drop i)).2 := by omega
        rw [← this]
      · have : badN (Lib.decodeL (s.data.toList.drop i)) := Classical.byContradiction fun k => he (d1.2 k)
        rw [if_neg he, if_pos (show (Lib.decodeL (s.data.toList.drop i)).1 = 65533 ∧ (Lib.decodeL (s.data.toList.drop i)).2 = 1 from this)]
        exact ⟨fun h => absurd h he, fun h => by cases h⟩
    · rw [if_neg (by omega), List.drop_eq_nil_of_le (by omega)]
      exact ⟨fun _ => rfl, fun _ => rfl⟩
theorem valid_count {s : ByteArray} (hl : s.size ≤ lim) : validV s = decide ((countF (s.size + 1) s 0 0).2 = 0) := by
  rw [Bool.eq_iff_iff, decide_eq_true_iff]
  have := count_valid hl (s.size + 1) 0 0 (Nat.zero_le _) (by omega)
  rw [show ((0 : Nat) : Int) = 0 from rfl, List.drop_zero] at this
  exact this.symm
end Go.Proofs.YtaeeblcdggjokaaGreatDoor.Vk
