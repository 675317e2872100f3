/- Contracts: value.Depth, Size, formed. -/
import Derived.Test.YtaeeblcdggjokaaDoorVkSpec
namespace Go.Proofs.YtaeeblcdggjokaaDoor.Vk
open Go Go.Ab Go.RowKit
set_option maxRecDepth 100000
set_option linter.unusedVariables false
set_option linter.unusedSimpArgs false
set_option linter.unusedSectionVars false
set_option linter.constructorNameAsVariable false
theorem one_val {d : List D} (h : FitL tb [.row 41] d) : ∃ v : Val, d = [v.toD] := by
  match d, h with
  | [d], ⟨⟨cs, e, hf⟩, _⟩ =>
    subst e
    obtain ⟨v, hv⟩ := fits_val shV shS (.row cs) (by unfold fitsW; exact hf)
    exact ⟨v, by rw [hv]⟩
theorem fit_fn {f : Nat} {d : D} (h : FitS tb (.fn f []) d) : d = .row [] := by
  obtain ⟨ds, rfl, h⟩ := h
  match ds, h with
  | [], _ => rfl
theorem vals_fn {f : Nat} {d : List D} (h : FitL tb [.cell (.sl 41), .fn f []] d) : ∃ l : List Val, d = [valsD l, .row []] := by
  match d, h with
  | [a, b], ⟨h1, h2, _⟩ =>
    obtain ⟨l, rfl⟩ := fits_vals shV shS h1
    rw [fit_fn h2]
    exact ⟨l, rfl⟩
/-- calamus/value.Depth: func 21, params [41], ntmps 20. -/
-- head 0 of loop 0: [t3 .sh (.cell (.sc (.i .i64))), t7 .sh (.cell (.sl 41)), t8 .sh (.cell (.sc (.i .i64))), t9 .sh (.cell (.sc (.i .i64)))]
def heads_depth : List Hd := [⟨0, [.any, .any, .any, .sh (.cell (.sc (.i .i64))), .any, .any, .any, .sh (.cell (.sl 41)), .sh (.cell (.sc (.i .i64))), .sh (.cell (.sc (.i .i64))), .any, .any, .any, .any, .any, .any, .any, .any, .any, .any]⟩]
def entry_depth : Tree :=
  (.leaf (.go 0 [(.lit (.int .i64 0)), (.pr (.cell 8) [(.var 0)]), (.pr .len [(.pr (.cell 8) [(.var 0)])]), (.lit (.int .i64 0))]))
def head_depth_0 : Tree :=
  (.ite (.pr (.icmp .lss) [(.var 3), (.var 2)])
    (.giv (.pr (.icmp .leq) [(.lit (.int .i64 0)), (.var 3)])
      (.giv (.pr (.icmp .lss) [(.var 3), (.pr .len [(.var 1)])])
        (.giv (.app 1000 [(.pr .row [(.pr (.cell 0) [(.pr .at [(.var 1), (.var 3)])]), (.pr (.cell 1) [(.pr .at [(.var 1), (.var 3)])]), (.pr (.cell 2) [(.pr .at [(.var 1), (.var 3)])]), (.pr (.cell 3) [(.pr .at [(.var 1), (.var 3)])]), (.pr (.cell 4) [(.pr .at [(.var 1), (.var 3)])]), (.pr (.cell 5) [(.pr .at [(.var 1), (.var 3)])]), (.pr (.cell 6) [(.pr .at [(.var 1), (.var 3)])]), (.pr (.cell 7) [(.pr .at [(.var 1), (.var 3)])]), (.pr (.cell 8) [(.pr .at [(.var 1), (.var 3)])])])])
          (.leaf (.go 0 [(.pr .ite [(.pr (.icmp .gtr) [(.app 0 [(.pr .row [(.pr (.cell 0) [(.pr .at [(.var 1), (.var 3)])]), (.pr (.cell 1) [(.pr .at [(.var 1), (.var 3)])]), (.pr (.cell 2) [(.pr .at [(.var 1), (.var 3)])]), (.pr (.cell 3) [(.pr .at [(.var 1), (.var 3)])]), (.pr (.cell 4) [(.pr .at [(.var 1), (.var 3)])]), (.pr (.cell 5) [(.pr .at [(.var 1), (.var 3)])]), (.pr (.cell 6) [(.pr .at [(.var 1), (.var 3)])]), (.pr (.cell 7) [(.pr .at [(.var 1), (.var 3)])]), (.pr (.cell 8) [(.pr .at [(.var 1), (.var 3)])])])]), (.var 0)]), (.app 0 [(.pr .row [(.pr (.cell 0) [(.pr .at [(.var 1), (.var 3)])]), (.pr (.cell 1) [(.pr .at [(.var 1), (.var 3)])]), (.pr (.cell 2) [(.pr .at [(.var 1), (.var 3)])]), (.pr (.cell 3) [(.pr .at [(.var 1), (.var 3)])]), (.pr (.cell 4) [(.pr .at [(.var 1), (.var 3)])]), (.pr (.cell 5) [(.pr .at [(.var 1), (.var 3)])]), (.pr (.cell 6) [(.pr .at [(.var 1), (.var 3)])]), (.pr (.cell 7) [(.pr .at [(.var 1), (.var 3)])]), (.pr (.cell 8) [(.pr .at [(.var 1), (.var 3)])])])]), (.var 0)]), (.var 1), (.var 2), (.pr (.iop .add .i64) [(.var 3), (.lit (.int .i64 1))])])))))
    (.leaf (.ret (.pr (.iop .add .i64) [(.var 0), (.lit (.int .i64 1))]))))
def trees_depth : List Tree := [head_depth_0]
noncomputable def deps_depth : List Sig := [q_depth]
theorem ok_depth : check q_depth deps_depth heads_depth entry_depth trees_depth = true := by kernel_rfl
theorem depth_step (n : Nat) (ih : @Ok (I n) q_depth (okD n)) : @Ok (I n) q_depth (okD (n + 1)) := by
  letI := I n
  refine fn_ok (hphi n) ok_depth (by intro q hq; simp only [deps_depth, List.mem_singleton] at hq; subst hq; exact ih)
    (fun _ d ds => ∃ (acc : Int) (l : List Val) (i : Nat), ds = [iD acc, valsD l, iD l.length, iD i] ∧ i ≤ l.length ∧ l.length ≤ lim ∧ (∀ x, x ∈ l → okD n [x.toD]) ∧ d = iD (wrap (depL acc (l.drop i) + 1)))
    (fun _ ds => (ds.getD 1 .nil).rows.length - (ds.getD 3 .nil).int.toNat) ?_ ?_
  · intro ds hf hp
    obtain ⟨v, rfl⟩ := one_val hf
    obtain ⟨h1, h2, h3⟩ := okD_list hp
    refine ⟨0, v.list, 0, by simp only [Tree.holds, Out.den, E.den, E.denL, den1, den2, den3, den4, den5, den6, den7, den8, Bool.not_eq_true', Bool.not_eq_false', List.getD_cons_zero, List.getD_cons_succ, true_and, and_true, List.length_map, phi_1000, Int.ofNat_zero], Nat.zero_le _, h2, h3, ?_⟩
    simp only [q_depth, phi_depth]
    cases v; rfl
  · rintro j h t d ds hj ht hf ⟨acc, l, i, rfl, hi, hl, hs, rfl⟩
    obtain rfl : t = head_depth_0 := by
      match j, ht with
      | 0, ht => exact (Option.some.inj ht).symm
    by_cases hlt : i < l.length
    · obtain ⟨x, hx, hxm, hd⟩ := drop_get hlt
      simp only [head_depth_0, Tree.holds, Out.den, E.den, E.denL, den1, den2, den3, den4, den5, den6, den7, den8, Bool.not_eq_true', Bool.not_eq_false', List.getD_cons_zero, List.getD_cons_succ, true_and, and_true, List.length_map, phi_1000, rowAt_map hx, phi_depth, wrap_succ hlt hl]
      refine ⟨fun _ => ⟨by omega, by omega, hs x hxm, ⟨if depV x > acc then depV x else acc, l, i + 1, ?_, hlt, hl, hs, ?_⟩, by omega⟩, fun h => by omega⟩
      · by_cases hg : depV x > acc
        · rw [if_pos hg, ltI_t.2 hg]; rfl
        · rw [if_neg hg, ltI_f.2 hg]; rfl
      · rw [hd, depL]
    · simp only [head_depth_0, Tree.holds, Out.den, E.den, E.denL, den1, den2, den3, den4, den5, den6, den7, den8, Bool.not_eq_true', Bool.not_eq_false', List.getD_cons_zero, List.getD_cons_succ, true_and, and_true, List.length_map, phi_1000]
      refine ⟨fun h => by omega, fun _ => ?_⟩
      rw [List.drop_eq_nil_of_le (by omega), depL]
theorem depth_ok : ∀ (n : Nat), @Ok (I n) q_depth (okD n)
  | 0 => ok_zero
  | n + 1 => ok_irrel (by decide) (depth_step n (depth_ok n))
/-- calamus/value.Size: func 22, params [41], ntmps 19. -/
-- head 0 of loop 0: [t3 .sh (.cell (.sc (.i .i64))), t7 .sh (.cell (.sl 41)), t8 .sh (.cell (.sc (.i .i64))), t9 .sh (.cell (.sc (.i .i64)))]
def heads_size : List Hd := [⟨0, [.any, .any, .any, .sh (.cell (.sc (.i .i64))), .any, .any, .any, .sh (.cell (.sl 41)), .sh (.cell (.sc (.i .i64))), .sh (.cell (.sc (.i .i64))), .any, .any, .any, .any, .any, .any, .any, .any, .any]⟩]
def entry_size : Tree :=
  (.leaf (.go 0 [(.lit (.int .i64 1)), (.pr (.cell 8) [(.var 0)]), (.pr .len [(.pr (.cell 8) [(.var 0)])]), (.lit (.int .i64 0))]))
def head_size_0 : Tree :=
  (.ite (.pr (.icmp .lss) [(.var 3), (.var 2)])
    (.giv (.pr (.icmp .leq) [(.lit (.int .i64 0)), (.var 3)])
      (.giv (.pr (.icmp .lss) [(.var 3), (.pr .len [(.var 1)])])
        (.giv (.app 1000 [(.pr .row [(.pr (.cell 0) [(.pr .at [(.var 1), (.var 3)])]), (.pr (.cell 1) [(.pr .at [(.var 1), (.var 3)])]), (.pr (.cell 2) [(.pr .at [(.var 1), (.var 3)])]), (.pr (.cell 3) [(.pr .at [(.var 1), (.var 3)])]), (.pr (.cell 4) [(.pr .at [(.var 1), (.var 3)])]), (.pr (.cell 5) [(.pr .at [(.var 1), (.var 3)])]), (.pr (.cell 6) [(.pr .at [(.var 1), (.var 3)])]), (.pr (.cell 7) [(.pr .at [(.var 1), (.var 3)])]), (.pr (.cell 8) [(.pr .at [(.var 1), (.var 3)])])])])
          (.leaf (.go 0 [(.pr (.iop .add .i64) [(.var 0), (.app 1 [(.pr .row [(.pr (.cell 0) [(.pr .at [(.var 1), (.var 3)])]), (.pr (.cell 1) [(.pr .at [(.var 1), (.var 3)])]), (.pr (.cell 2) [(.pr .at [(.var 1), (.var 3)])]), (.pr (.cell 3) [(.pr .at [(.var 1), (.var 3)])]), (.pr (.cell 4) [(.pr .at [(.var 1), (.var 3)])]), (.pr (.cell 5) [(.pr .at [(.var 1), (.var 3)])]), (.pr (.cell 6) [(.pr .at [(.var 1), (.var 3)])]), (.pr (.cell 7) [(.pr .at [(.var 1), (.var 3)])]), (.pr (.cell 8) [(.pr .at [(.var 1), (.var 3)])])])])]), (.var 1), (.var 2), (.pr (.iop .add .i64) [(.var 3), (.lit (.int .i64 1))])])))))
    (.leaf (.ret (.var 0))))
def trees_size : List Tree := [head_size_0]
noncomputable def deps_size : List Sig := [q_size]
theorem ok_size : check q_size deps_size heads_size entry_size trees_size = true := by kernel_rfl
theorem size_step (n : Nat) (ih : @Ok (I n) q_size (okD n)) : @Ok (I n) q_size (okD (n + 1)) := by
  letI := I n
  refine fn_ok (hphi n) ok_size (by intro q hq; simp only [deps_size, List.mem_singleton] at hq; subst hq; exact ih)
    (fun _ d ds => ∃ (acc : Int) (l : List Val) (i : Nat), ds = [iD acc, valsD l, iD l.length, iD i] ∧ i ≤ l.length ∧ l.length ≤ lim ∧ (∀ x, x ∈ l → okD n [x.toD]) ∧ d = iD (sizL acc (l.drop i)))
    (fun _ ds => (ds.getD 1 .nil).rows.length - (ds.getD 3 .nil).int.toNat) ?_ ?_
  · intro ds hf hp
    obtain ⟨v, rfl⟩ := one_val hf
    obtain ⟨h1, h2, h3⟩ := okD_list hp
    refine ⟨1, v.list, 0, by simp only [Tree.holds, Out.den, E.den, E.denL, den1, den2, den3, den4, den5, den6, den7, den8, Bool.not_eq_true', Bool.not_eq_false', List.getD_cons_zero, List.getD_cons_succ, true_and, and_true, List.length_map, phi_1000, Int.ofNat_zero], Nat.zero_le _, h2, h3, ?_⟩
    simp only [q_size, phi_size]
    cases v; rfl
  · rintro j h t d ds hj ht hf ⟨acc, l, i, rfl, hi, hl, hs, rfl⟩
    obtain rfl : t = head_size_0 := by
      match j, ht with
      | 0, ht => exact (Option.some.inj ht).symm
    by_cases hlt : i < l.length
    · obtain ⟨x, hx, hxm, hd⟩ := drop_get hlt
      simp only [head_size_0, Tree.holds, Out.den, E.den, E.denL, den1, den2, den3, den4, den5, den6, den7, den8, Bool.not_eq_true', Bool.not_eq_false', List.getD_cons_zero, List.getD_cons_succ, true_and, and_true, List.length_map, phi_1000, rowAt_map hx, phi_size, wrap_succ hlt hl]
      refine ⟨fun _ => ⟨by omega, by omega, hs x hxm, ⟨wrap (acc + sizV x), l, i + 1, rfl, hlt, hl, hs, ?_⟩, by omega⟩, fun h => by omega⟩
      rw [hd, sizL]
    · simp only [head_size_0, Tree.holds, Out.den, E.den, E.denL, den1, den2, den3, den4, den5, den6, den7, den8, Bool.not_eq_true', Bool.not_eq_false', List.getD_cons_zero, List.getD_cons_succ, true_and, and_true, List.length_map, phi_1000]
      refine ⟨fun h => by omega, fun _ => ?_⟩
      rw [List.drop_eq_nil_of_le (by omega), sizL]
theorem size_ok : ∀ (n : Nat), @Ok (I n) q_size (okD n)
  | 0 => ok_zero
  | n + 1 => ok_irrel (by decide) (size_step n (size_ok n))
/-- slices.IndexFunc[[]calamus/api.Value,calamus/api.Value]: func 81, params [39, 42], ntmps 19. -/
-- head 0 of loop 0: [t0 .sh (.cell (.sl 41)), t1 .sh (.fn 64 []), t7 .sh (.cell (.sc (.i .i64))), t8 .sh (.cell (.sc (.i .i64)))]
def heads_ixformed : List Hd := [⟨0, [.sh (.cell (.sl 41)), .sh (.fn 64 []), .any, .any, .any, .any, .any, .sh (.cell (.sc (.i .i64))), .sh (.cell (.sc (.i .i64))), .any, .any, .any, .any, .any, .any, .any, .any, .any, .any]⟩]
def entry_ixformed : Tree :=
  (.leaf (.go 0 [(.var 0), (.pr .row []), (.pr .len [(.var 0)]), (.lit (.int .i64 0))]))
def head_ixformed_0 : Tree :=
  (.ite (.pr (.icmp .lss) [(.var 3), (.var 2)])
    (.giv (.pr (.icmp .leq) [(.lit (.int .i64 0)), (.var 3)])
      (.giv (.pr (.icmp .lss) [(.var 3), (.pr .len [(.var 0)])])
        (.giv (.app 1000 [(.pr .row [(.pr (.cell 0) [(.pr .at [(.var 0), (.var 3)])]), (.pr (.cell 1) [(.pr .at [(.var 0), (.var 3)])]), (.pr (.cell 2) [(.pr .at [(.var 0), (.var 3)])]), (.pr (.cell 3) [(.pr .at [(.var 0), (.var 3)])]), (.pr (.cell 4) [(.pr .at [(.var 0), (.var 3)])]), (.pr (.cell 5) [(.pr .at [(.var 0), (.var 3)])]), (.pr (.cell 6) [(.pr .at [(.var 0), (.var 3)])]), (.pr (.cell 7) [(.pr .at [(.var 0), (.var 3)])]), (.pr (.cell 8) [(.pr .at [(.var 0), (.var 3)])])])])
          (.ite (.app 2 [(.pr .row [(.pr (.cell 0) [(.pr .at [(.var 0), (.var 3)])]), (.pr (.cell 1) [(.pr .at [(.var 0), (.var 3)])]), (.pr (.cell 2) [(.pr .at [(.var 0), (.var 3)])]), (.pr (.cell 3) [(.pr .at [(.var 0), (.var 3)])]), (.pr (.cell 4) [(.pr .at [(.var 0), (.var 3)])]), (.pr (.cell 5) [(.pr .at [(.var 0), (.var 3)])]), (.pr (.cell 6) [(.pr .at [(.var 0), (.var 3)])]), (.pr (.cell 7) [(.pr .at [(.var 0), (.var 3)])]), (.pr (.cell 8) [(.pr .at [(.var 0), (.var 3)])])])])
            (.leaf (.go 0 [(.var 0), (.pr .row []), (.var 2), (.pr (.iop .add .i64) [(.var 3), (.lit (.int .i64 1))])]))
            (.leaf (.ret (.var 3)))))))
    (.leaf (.ret (.lit (.int .i64 (-1))))))
def trees_ixformed : List Tree := [head_ixformed_0]
noncomputable def deps_ixformed : List Sig := [q_formed]
theorem ok_ixformed : check q_ixformed deps_ixformed heads_ixformed entry_ixformed trees_ixformed = true := by kernel_rfl
theorem ixformed_ok (n : Nat) (ih : @Ok (I n) q_formed (okD n)) : @Ok (I n) q_ixformed (okD n) := by
  letI := I n
  refine fn_ok (hphi n) ok_ixformed (by intro q hq; simp only [deps_ixformed, List.mem_singleton] at hq; subst hq; exact ih)
    (fun _ d ds => ∃ (l : List Val) (i : Nat), ds = [valsD l, .row [], iD l.length, iD i] ∧ i ≤ l.length ∧ l.length ≤ lim ∧ (∀ x, x ∈ l → okD n [x.toD]) ∧ d = iD (formedL (l.drop i) i))
    (fun _ ds => (ds.getD 0 .nil).rows.length - (ds.getD 3 .nil).int.toNat) ?_ ?_
  · intro ds hf hp
    obtain ⟨l, rfl⟩ := vals_fn hf
    obtain ⟨h2, h3⟩ := okD_vals hp
    refine ⟨l, 0, by simp only [Tree.holds, Out.den, E.den, E.denL, den1, den2, den3, den4, den5, den6, den7, den8, Bool.not_eq_true', Bool.not_eq_false', List.getD_cons_zero, List.getD_cons_succ, true_and, and_true, List.length_map, phi_1000, Int.ofNat_zero], Nat.zero_le _, h2, h3, ?_⟩
    simp only [q_ixformed, phi_ixformed, List.drop_zero]
  · rintro j h t d ds hj ht hf ⟨l, i, rfl, hi, hl, hs, rfl⟩
    obtain rfl : t = head_ixformed_0 := by
      match j, ht with
      | 0, ht => exact (Option.some.inj ht).symm
    by_cases hlt : i < l.length
    · obtain ⟨x, hx, hxm, hd⟩ := drop_get hlt
      simp only [head_ixformed_0, Tree.holds, Out.den, E.den, E.denL, den1, den2, den3, den4, den5, den6, den7, den8, Bool.not_eq_true', Bool.not_eq_false', List.getD_cons_zero, List.getD_cons_succ, true_and, and_true, List.length_map, phi_1000, rowAt_map hx, phi_formed, wrap_succ hlt hl]
      refine ⟨fun _ => ⟨by omega, by omega, hs x hxm, fun hb => ⟨⟨l, i + 1, rfl, hlt, hl, hs, ?_⟩, by omega⟩, fun hb => ?_⟩, fun h => by omega⟩
      · rw [hd, formedL, if_pos hb]
      · rw [hd, formedL, hb]; rfl
    · simp only [head_ixformed_0, Tree.holds, Out.den, E.den, E.denL, den1, den2, den3, den4, den5, den6, den7, den8, Bool.not_eq_true', Bool.not_eq_false', List.getD_cons_zero, List.getD_cons_succ, true_and, and_true, List.length_map, phi_1000]
      refine ⟨fun h => by omega, fun _ => ?_⟩
      rw [List.drop_eq_nil_of_le (by omega), formedL]
end Go.Proofs.YtaeeblcdggjokaaDoor.Vk
