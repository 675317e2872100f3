/- Contracts: what is looked at of a value. -/
import Derived.Test.YtaeeblcdggjokaaDoorVkC3
namespace Go.Proofs.YtaeeblcdggjokaaDoor.Vk
open Go Go.Ab Go.RowKit
set_option maxRecDepth 100000
set_option linter.unusedVariables false
set_option linter.unusedSimpArgs false
set_option linter.unusedSectionVars false
set_option linter.constructorNameAsVariable false
theorem sz_int {k : IntKind} (i : Int) : (D.v (.int k i)).sz = 1 := by simp only [D.sz]
theorem lim_int {k : IntKind} (i : Int) : (D.v (.int k i)).Lim := by simp only [D.Lim]
theorem fit_val {d : D} (h : FitS tb (.row 41) d) : ∃ v : Val, d = v.toD := by
  obtain ⟨cs, rfl, hf⟩ := h
  exact fits_val shV shS (.row cs) (by unfold fitsW; exact hf)
theorem val_int3 {d : List D} (h : FitL tb [.row 41, .cell (.sc (.i .i64)), .cell (.sc (.i .i64)), .cell (.sc (.i .i64))] d) : ∃ (v : Val) (a b c : Int), d = [v.toD, iD a, iD b, iD c] := by
  match d, h with
  | [x, y, z, u], ⟨h1, h2, h3, h4, _⟩ =>
    obtain ⟨v, rfl⟩ := fit_val h1
    obtain ⟨a, rfl⟩ := fits_int h2
    obtain ⟨b, rfl⟩ := fits_int h3
    obtain ⟨c, rfl⟩ := fits_int h4
    exact ⟨v, a, b, c, rfl⟩
/-- calamus/calamuskeep.many: func 39, params [41], ntmps 21. -/
-- head 0 of loop 0: [t1 .rf 41, t3 .sh (.cell (.sc (.i .i64)))]
def heads_many : List Hd := [⟨0, [.any, .rf 41, .any, .sh (.cell (.sc (.i .i64))), .any, .any, .any, .any, .any, .any, .any, .any, .any, .any, .any, .any, .any, .any, .any, .any, .any]⟩]
def entry_many : Tree :=
  (.ite (.pr (.icmp .gtr) [(.pr .len [(.pr (.cell 7) [(.var 0)])]), (.lit (.int .i64 2000))])
    (.leaf (.ret (.lit (.bool true))))
    (.leaf (.go 0 [(.pr .row [(.pr (.cell 0) [(.var 0)]), (.pr (.cell 1) [(.var 0)]), (.pr (.cell 2) [(.var 0)]), (.pr (.cell 3) [(.var 0)]), (.pr (.cell 4) [(.var 0)]), (.pr (.cell 5) [(.var 0)]), (.pr (.cell 6) [(.var 0)]), (.pr (.cell 7) [(.var 0)]), (.pr (.cell 8) [(.var 0)])]), (.lit (.int .i64 0))])))
def head_many_0 : Tree :=
  (.ite (.pr (.icmp .lss) [(.var 1), (.pr .len [(.pr (.cell 8) [(.var 0)])])])
    (.giv (.pr (.icmp .leq) [(.lit (.int .i64 0)), (.var 1)])
      (.giv (.app 1000 [(.pr .row [(.pr (.cell 0) [(.pr .at [(.pr (.cell 8) [(.var 0)]), (.var 1)])]), (.pr (.cell 1) [(.pr .at [(.pr (.cell 8) [(.var 0)]), (.var 1)])]), (.pr (.cell 2) [(.pr .at [(.pr (.cell 8) [(.var 0)]), (.var 1)])]), (.pr (.cell 3) [(.pr .at [(.pr (.cell 8) [(.var 0)]), (.var 1)])]), (.pr (.cell 4) [(.pr .at [(.pr (.cell 8) [(.var 0)]), (.var 1)])]), (.pr (.cell 5) [(.pr .at [(.pr (.cell 8) [(.var 0)]), (.var 1)])]), (.pr (.cell 6) [(.pr .at [(.pr (.cell 8) [(.var 0)]), (.var 1)])]), (.pr (.cell 7) [(.pr .at [(.pr (.cell 8) [(.var 0)]), (.var 1)])]), (.pr (.cell 8) [(.pr .at [(.pr (.cell 8) [(.var 0)]), (.var 1)])])])])
        (.ite (.app 12 [(.pr .row [(.pr (.cell 0) [(.pr .at [(.pr (.cell 8) [(.var 0)]), (.var 1)])]), (.pr (.cell 1) [(.pr .at [(.pr (.cell 8) [(.var 0)]), (.var 1)])]), (.pr (.cell 2) [(.pr .at [(.pr (.cell 8) [(.var 0)]), (.var 1)])]), (.pr (.cell 3) [(.pr .at [(.pr (.cell 8) [(.var 0)]), (.var 1)])]), (.pr (.cell 4) [(.pr .at [(.pr (.cell 8) [(.var 0)]), (.var 1)])]), (.pr (.cell 5) [(.pr .at [(.pr (.cell 8) [(.var 0)]), (.var 1)])]), (.pr (.cell 6) [(.pr .at [(.pr (.cell 8) [(.var 0)]), (.var 1)])]), (.pr (.cell 7) [(.pr .at [(.pr (.cell 8) [(.var 0)]), (.var 1)])]), (.pr (.cell 8) [(.pr .at [(.pr (.cell 8) [(.var 0)]), (.var 1)])])])])
          (.leaf (.ret (.lit (.bool true))))
          (.leaf (.go 0 [(.var 0), (.pr (.iop .add .i64) [(.var 1), (.lit (.int .i64 1))])])))))
    (.leaf (.ret (.lit (.bool false)))))
def trees_many : List Tree := [head_many_0]
noncomputable def deps_many : List Sig := [q_many]
theorem ok_many : check q_many deps_many heads_many entry_many trees_many = true := by kernel_rfl
theorem many_step (n : Nat) (ih : @Ok (I n) q_many (okD n)) : @Ok (I n) q_many (okD (n + 1)) := by
  letI := I n
  refine fn_ok (hphi n) ok_many (by intro q hq; simp only [deps_many, List.mem_singleton] at hq; subst hq; exact ih)
    (fun _ d ds => ∃ (v : Val) (i : Nat), ds = [v.toD, iD i] ∧ i ≤ v.list.length ∧ v.list.length ≤ lim ∧ (∀ x, x ∈ v.list → okD n [x.toD]) ∧ d = bD (manyL (v.list.drop i)))
    (fun _ ds => (cellAt (ds.getD 0 .nil) 8).rows.length - (ds.getD 1 .nil).int.toNat) ?_ ?_
  · intro ds hf hp
    obtain ⟨v, rfl⟩ := one_val hf
    obtain ⟨h1, h2, h3⟩ := okD_list hp
    simp only [entry_many, q_many, Tree.holds, Out.den, E.den, E.denL, den1, den2, den3, den4, den5, den6, den7, den8, Bool.not_eq_true', Bool.not_eq_false', List.getD_cons_zero, List.getD_cons_succ, true_and, and_true, List.length_map, phi_1000, phi_many]
    refine ⟨fun h => ?_, fun h => ⟨v, 0, rfl, Nat.zero_le _, h2, h3, ?_⟩⟩
    · cases v with
      | mk k f ng d e b t ns l => rw [manyV, if_pos (show (ns.length : Int) > 2000 from h)]
    · cases v with
      | mk k f ng d e b t ns l => rw [manyV, if_neg (show ¬ (ns.length : Int) > 2000 from h)]; rfl
  · rintro j h t d ds hj ht hf ⟨v, i, rfl, hi, hl, hs, rfl⟩
    obtain rfl : t = head_many_0 := by
      match j, ht with
      | 0, ht => exact (Option.some.inj ht).symm
    by_cases hlt : i < v.list.length
    · obtain ⟨x, hx, hxm, hd⟩ := drop_get hlt
      simp only [head_many_0, Tree.holds, Out.den, E.den, E.denL, den1, den2, den3, den4, den5, den6, den7, den8, Bool.not_eq_true', Bool.not_eq_false', List.getD_cons_zero, List.getD_cons_succ, true_and, and_true, List.length_map, phi_1000, rowAt_map hx, phi_many, wrap_succ hlt hl]
      refine ⟨fun _ => ⟨by omega, hs x hxm, fun hb => ?_, fun hb => ⟨⟨v, i + 1, rfl, hlt, hl, hs, ?_⟩, by omega⟩⟩, fun h => by omega⟩
      · rw [hd, manyL, if_pos hb]
      · rw [hd, manyL, hb, if_neg (by simp)]
    · simp only [head_many_0, Tree.holds, Out.den, E.den, E.denL, den1, den2, den3, den4, den5, den6, den7, den8, Bool.not_eq_true', Bool.not_eq_false', List.getD_cons_zero, List.getD_cons_succ, true_and, and_true, List.length_map, phi_1000]
      refine ⟨fun h => by omega, fun _ => ?_⟩
      rw [List.drop_eq_nil_of_le (by omega), manyL]
theorem many_ok : ∀ (n : Nat), @Ok (I n) q_many (okD n)
  | 0 => ok_zero
  | n + 1 => ok_irrel (by decide) (many_step n (many_ok n))
/-- calamus/calamuskeep.Parts: func 38, params [41, 3, 3, 3], ntmps 73. -/
-- head 0 of loop 0: [t1 .sh (.cell (.sc (.i .i64))), t2 .sh (.cell (.sc (.i .i64))), t3 .sh (.cell (.sc (.i .i64))), t4 .rf 41, t9 .sh (.cell (.sc (.i .i64)))]
-- head 1 of loop 1: [t1 .sh (.cell (.sc (.i .i64))), t2 .sh (.cell (.sc (.i .i64))), t3 .sh (.cell (.sc (.i .i64))), t4 .rf 41, t10 .sh (.cell (.sc (.i .i64)))]
def heads_parts : List Hd := [⟨0, [.any, .sh (.cell (.sc (.i .i64))), .sh (.cell (.sc (.i .i64))), .sh (.cell (.sc (.i .i64))), .rf 41, .any, .any, .any, .any, .sh (.cell (.sc (.i .i64))), .any, .any, .any, .any, .any, .any, .any, .any, .any, .any, .any, .any, .any, .any, .any, .any, .any, .any, .any, .any, .any, .any, .any, .any, .any, .any, .any, .any, .any, .any, .any, .any, .any, .any, .any, .any, .any, .any, .any, .any, .any, .any, .any, .any, .any, .any, .any, .any, .any, .any, .any, .any, .any, .any, .any, .any, .any, .any, .any, .any, .any, .any, .any]⟩, ⟨1, [.any, .sh (.cell (.sc (.i .i64))), .sh (.cell (.sc (.i .i64))), .sh (.cell (.sc (.i .i64))), .rf 41, .any, .any, .any, .any, .any, .sh (.cell (.sc (.i .i64))), .any, .any, .any, .any, .any, .any, .any, .any, .any, .any, .any, .any, .any, .any, .any, .any, .any, .any, .any, .any, .any, .any, .any, .any, .any, .any, .any, .any, .any, .any, .any, .any, .any, .any, .any, .any, .any, .any, .any, .any, .any, .any, .any, .any, .any, .any, .any, .any, .any, .any, .any, .any, .any, .any, .any, .any, .any, .any, .any, .any, .any, .any]⟩]
def entry_parts : Tree :=
  (.ite (.pr (.icmp .gtr) [(.var 3), (.lit (.int .i64 300))])
    (.leaf (.ret (.pr (.iop .add .i64) [(.var 2), (.lit (.int .i64 1))])))
    (.leaf (.go 0 [(.pr (.iop .add .i64) [(.pr (.iop .add .i64) [(.pr (.iop .add .i64) [(.pr (.iop .add .i64) [(.var 1), (.lit (.int .i64 1))]), (.pr .slen [(.pr (.cell 6) [(.var 0)])])]), (.pr .slen [(.pr (.cell 3) [(.var 0)])])]), (.pr .len [(.pr (.cell 7) [(.var 0)])])]), (.var 2), (.var 3), (.pr .row [(.pr (.cell 0) [(.var 0)]), (.pr (.cell 1) [(.var 0)]), (.pr (.cell 2) [(.var 0)]), (.pr (.cell 3) [(.var 0)]), (.pr (.cell 4) [(.var 0)]), (.pr (.cell 5) [(.var 0)]), (.pr (.cell 6) [(.var 0)]), (.pr (.cell 7) [(.var 0)]), (.pr (.cell 8) [(.var 0)])]), (.lit (.int .i64 0))])))
def head_parts_0 : Tree :=
  (.ite (.pr (.icmp .lss) [(.var 4), (.pr .len [(.pr (.cell 7) [(.var 3)])])])
    (.ite (.pr (.icmp .leq) [(.var 0), (.var 1)])
      (.giv (.pr (.icmp .leq) [(.lit (.int .i64 0)), (.var 4)])
        (.leaf (.go 0 [(.pr (.iop .add .i64) [(.var 0), (.pr .slen [(.pr (.cell 0) [(.pr .at [(.pr (.cell 7) [(.var 3)]), (.var 4)])])])]), (.var 1), (.var 2), (.var 3), (.pr (.iop .add .i64) [(.var 4), (.lit (.int .i64 1))])])))
      (.leaf (.go 1 [(.var 0), (.var 1), (.var 2), (.var 3), (.lit (.int .i64 0))])))
    (.leaf (.go 1 [(.var 0), (.var 1), (.var 2), (.var 3), (.lit (.int .i64 0))])))
def head_parts_1 : Tree :=
  (.ite (.pr (.icmp .lss) [(.var 4), (.pr .len [(.pr (.cell 8) [(.var 3)])])])
    (.ite (.pr (.icmp .leq) [(.var 0), (.var 1)])
      (.giv (.pr (.icmp .leq) [(.lit (.int .i64 0)), (.var 4)])
        (.giv (.app 1000 [(.pr .row [(.pr (.cell 0) [(.pr .at [(.pr (.cell 8) [(.var 3)]), (.var 4)])]), (.pr (.cell 1) [(.pr .at [(.pr (.cell 8) [(.var 3)]), (.var 4)])]), (.pr (.cell 2) [(.pr .at [(.pr (.cell 8) [(.var 3)]), (.var 4)])]), (.pr (.cell 3) [(.pr .at [(.pr (.cell 8) [(.var 3)]), (.var 4)])]), (.pr (.cell 4) [(.pr .at [(.pr (.cell 8) [(.var 3)]), (.var 4)])]), (.pr (.cell 5) [(.pr .at [(.pr (.cell 8) [(.var 3)]), (.var 4)])]), (.pr (.cell 6) [(.pr .at [(.pr (.cell 8) [(.var 3)]), (.var 4)])]), (.pr (.cell 7) [(.pr .at [(.pr (.cell 8) [(.var 3)]), (.var 4)])]), (.pr (.cell 8) [(.pr .at [(.pr (.cell 8) [(.var 3)]), (.var 4)])])]), (.var 0), (.var 1), (.pr (.iop .add .i64) [(.var 2), (.lit (.int .i64 1))])])
          (.leaf (.go 1 [(.app 11 [(.pr .row [(.pr (.cell 0) [(.pr .at [(.pr (.cell 8) [(.var 3)]), (.var 4)])]), (.pr (.cell 1) [(.pr .at [(.pr (.cell 8) [(.var 3)]), (.var 4)])]), (.pr (.cell 2) [(.pr .at [(.pr (.cell 8) [(.var 3)]), (.var 4)])]), (.pr (.cell 3) [(.pr .at [(.pr (.cell 8) [(.var 3)]), (.var 4)])]), (.pr (.cell 4) [(.pr .at [(.pr (.cell 8) [(.var 3)]), (.var 4)])]), (.pr (.cell 5) [(.pr .at [(.pr (.cell 8) [(.var 3)]), (.var 4)])]), (.pr (.cell 6) [(.pr .at [(.pr (.cell 8) [(.var 3)]), (.var 4)])]), (.pr (.cell 7) [(.pr .at [(.pr (.cell 8) [(.var 3)]), (.var 4)])]), (.pr (.cell 8) [(.pr .at [(.pr (.cell 8) [(.var 3)]), (.var 4)])])]), (.var 0), (.var 1), (.pr (.iop .add .i64) [(.var 2), (.lit (.int .i64 1))])]), (.var 1), (.var 2), (.var 3), (.pr (.iop .add .i64) [(.var 4), (.lit (.int .i64 1))])]))))
      (.leaf (.ret (.var 0))))
    (.leaf (.ret (.var 0))))
def trees_parts : List Tree := [head_parts_0, head_parts_1]
noncomputable def deps_parts : List Sig := [q_parts]
theorem ok_parts : check q_parts deps_parts heads_parts entry_parts trees_parts = true := by kernel_rfl
theorem okD_val3 {n : Nat} {v : Val} {a b c : Int} : okD n [v.toD, iD a, iD b, iD c] ↔ v.toD.sz + 3 < n ∧ v.toD.Lim := by
  unfold okD
  simp only [D.szL, D.LimL, sz_int, lim_int, and_true, true_and]
theorem parts_step (n : Nat) (ih : @Ok (I n) q_parts (okD n)) : @Ok (I n) q_parts (okD (n + 1)) := by
  letI := I n
  refine fn_ok (hphi n) ok_parts (by intro q hq; simp only [deps_parts, List.mem_singleton] at hq; subst hq; exact ih)
    (fun j d ds => ∃ (m most w : Int) (v : Val) (i : Nat), ds = [iD m, iD most, iD w, v.toD, iD i] ∧ v.names.length ≤ lim ∧ v.list.length ≤ lim ∧ (∀ x, x ∈ v.list → ∀ a b c, okD n [x.toD, iD a, iD b, iD c]) ∧
      (j = 0 → i ≤ v.names.length ∧ d = iD (partsL most w (partsN most m (v.names.drop i)) v.list)) ∧ (j ≠ 0 → i ≤ v.list.length ∧ d = iD (partsL most w m (v.list.drop i))))
    (fun j ds => if j = 0 then (cellAt (ds.getD 3 .nil) 7).rows.length - (ds.getD 4 .nil).int.toNat + (cellAt (ds.getD 3 .nil) 8).rows.length + 1 else (cellAt (ds.getD 3 .nil) 8).rows.length - (ds.getD 4 .nil).int.toNat) ?_ ?_
  · intro ds hf hp
    obtain ⟨v, a, b, c, rfl⟩ := val_int3 hf
    rw [okD_val3, sz_toD, lim_toD] at hp
    obtain ⟨p1, _, _, p2, p3⟩ := hp
    have p2 := (lim_strs.1 p2).1
    obtain ⟨p3, p4⟩ := lim_vals.1 p3
    have hs : ∀ x, x ∈ v.list → ∀ a b c, okD n [x.toD, iD a, iD b, iD c] := fun x hx a b c => okD_val3.2 ⟨by have := sz_vals_mem hx; omega, p4 x hx⟩
    simp only [entry_parts, q_parts, Tree.holds, Out.den, E.den, E.denL, den1, den2, den3, den4, den5, den6, den7, den8, Bool.not_eq_true', Bool.not_eq_false', List.getD_cons_zero, List.getD_cons_succ, true_and, and_true, List.length_map, phi_1000, phi_parts]
    refine ⟨fun h => ?_, fun h => ⟨_, b, c, v, 0, rfl, p2, p3, hs, fun _ => ⟨Nat.zero_le _, ?_⟩, fun h => absurd rfl h⟩⟩
    · cases v with
      | mk k f ng d e b' t ns l => rw [partsV, if_pos h]
    · cases v with
      | mk k f ng d e b' t ns l => rw [partsV, if_neg (by omega)]; rfl
  · rintro j h t d ds hj ht hf ⟨m, most, w, v, i, rfl, p2, p3, hs, h0, h1⟩
    match j, ht with
    | 0, ht =>
      obtain rfl : t = head_parts_0 := (Option.some.inj ht).symm
      obtain ⟨hi, rfl⟩ := h0 rfl
      by_cases hlt : i < v.names.length
      · obtain ⟨x, hx, hxm, hd⟩ := drop_get hlt
        simp only [head_parts_0, Tree.holds, Out.den, E.den, E.denL, den1, den2, den3, den4, den5, den6, den7, den8, Bool.not_eq_true', Bool.not_eq_false', List.getD_cons_zero, List.getD_cons_succ, true_and, and_true, List.length_map, phi_1000, rowAt_map hx, wrap_succ hlt p2]
        refine ⟨fun _ => ⟨fun hm => ⟨by omega, ⟨_, most, w, v, i + 1, rfl, p2, p3, hs, fun _ => ⟨hlt, ?_⟩, fun h => absurd rfl h⟩, ?_⟩, fun hm => ⟨⟨_, most, w, v, 0, rfl, p2, p3, hs, fun h => absurd h (by decide), fun _ => ⟨Nat.zero_le _, ?_⟩⟩, ?_⟩⟩, fun h => by omega⟩
        · rw [hd, partsN, if_pos hm]
        · simp only [if_true]; omega
        · rw [hd, partsN, if_neg hm]; rfl
        · simp only [if_true]; simp only [Nat.one_ne_zero, if_false]; omega
      · simp only [head_parts_0, Tree.holds, Out.den, E.den, E.denL, den1, den2, den3, den4, den5, den6, den7, den8, Bool.not_eq_true', Bool.not_eq_false', List.getD_cons_zero, List.getD_cons_succ, true_and, and_true, List.length_map, phi_1000]
        refine ⟨fun h => by omega, fun _ => ⟨⟨_, most, w, v, 0, rfl, p2, p3, hs, fun h => absurd h (by decide), fun _ => ⟨Nat.zero_le _, ?_⟩⟩, ?_⟩⟩
        · rw [List.drop_eq_nil_of_le (by omega), partsN]; rfl
        · simp only [if_true]; simp only [Nat.one_ne_zero, if_false]; omega
    | 1, ht =>
      obtain rfl : t = head_parts_1 := (Option.some.inj ht).symm
      obtain ⟨hi, rfl⟩ := h1 (by decide)
      by_cases hlt : i < v.list.length
      · obtain ⟨x, hx, hxm, hd⟩ := drop_get hlt
        simp only [head_parts_1, Tree.holds, Out.den, E.den, E.denL, den1, den2, den3, den4, den5, den6, den7, den8, Bool.not_eq_true', Bool.not_eq_false', List.getD_cons_zero, List.getD_cons_succ, true_and, and_true, List.length_map, phi_1000, rowAt_map hx, wrap_succ hlt p3, phi_parts]
        refine ⟨fun _ => ⟨fun hm => ⟨by omega, hs x hxm _ _ _, ⟨_, most, w, v, i + 1, rfl, p2, p3, hs, fun h => absurd h (by decide), fun _ => ⟨hlt, ?_⟩⟩, ?_⟩, fun hm => ?_⟩, fun h => by omega⟩
        · rw [hd, partsL, if_pos hm]
        · simp only [Nat.one_ne_zero, if_false]; omega
        · rw [hd, partsL, if_neg hm]
      · simp only [head_parts_1, Tree.holds, Out.den, E.den, E.denL, den1, den2, den3, den4, den5, den6, den7, den8, Bool.not_eq_true', Bool.not_eq_false', List.getD_cons_zero, List.getD_cons_succ, true_and, and_true, List.length_map, phi_1000]
        refine ⟨fun h => by omega, fun _ => ?_⟩
        rw [List.drop_eq_nil_of_le (by omega), partsL]
theorem parts_ok : ∀ (n : Nat), @Ok (I n) q_parts (okD n)
  | 0 => ok_zero
  | n + 1 => ok_irrel (by decide) (parts_step n (parts_ok n))
end Go.Proofs.YtaeeblcdggjokaaDoor.Vk
