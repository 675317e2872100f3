/- ValueGrows: its function answers true. -/
import Derived.Test.YtaeeblcdggjokaaDoorVkAwake
namespace Go.Proofs.YtaeeblcdggjokaaDoor.Vk
open Go Go.Ab Go.RowKit
set_option maxRecDepth 100000
set_option linter.unusedVariables false
set_option linter.unusedSimpArgs false
set_option linter.unusedSectionVars false
set_option linter.constructorNameAsVariable false
/-- calamus/calamuslaw04.ValueGrows: func 7, params [41], ntmps 66. -/
def heads_grows : List Hd := []
def entry_grows : Tree :=
  (.giv (.app 1000 [(.pr .row [(.pr (.cell 0) [(.var 0)]), (.pr (.cell 1) [(.var 0)]), (.pr (.cell 2) [(.var 0)]), (.pr (.cell 3) [(.var 0)]), (.pr (.cell 4) [(.var 0)]), (.pr (.cell 5) [(.var 0)]), (.pr (.cell 6) [(.var 0)]), (.pr (.cell 7) [(.var 0)]), (.pr (.cell 8) [(.var 0)])]), (.lit (.int .i64 0)), (.lit (.int .i64 65536)), (.lit (.int .i64 0))])
    (.ite (.pr (.icmp .gtr) [(.app 11 [(.pr .row [(.pr (.cell 0) [(.var 0)]), (.pr (.cell 1) [(.var 0)]), (.pr (.cell 2) [(.var 0)]), (.pr (.cell 3) [(.var 0)]), (.pr (.cell 4) [(.var 0)]), (.pr (.cell 5) [(.var 0)]), (.pr (.cell 6) [(.var 0)]), (.pr (.cell 7) [(.var 0)]), (.pr (.cell 8) [(.var 0)])]), (.lit (.int .i64 0)), (.lit (.int .i64 65536)), (.lit (.int .i64 0))]), (.lit (.int .i64 65536))])
      (.leaf (.ret (.lit (.bool true))))
      (.giv (.app 1000 [(.pr .row [(.pr (.cell 0) [(.var 0)]), (.pr (.cell 1) [(.var 0)]), (.pr (.cell 2) [(.var 0)]), (.pr (.cell 3) [(.var 0)]), (.pr (.cell 4) [(.var 0)]), (.pr (.cell 5) [(.var 0)]), (.pr (.cell 6) [(.var 0)]), (.pr (.cell 7) [(.var 0)]), (.pr (.cell 8) [(.var 0)])])])
        (.ite (.app 12 [(.pr .row [(.pr (.cell 0) [(.var 0)]), (.pr (.cell 1) [(.var 0)]), (.pr (.cell 2) [(.var 0)]), (.pr (.cell 3) [(.var 0)]), (.pr (.cell 4) [(.var 0)]), (.pr (.cell 5) [(.var 0)]), (.pr (.cell 6) [(.var 0)]), (.pr (.cell 7) [(.var 0)]), (.pr (.cell 8) [(.var 0)])])])
          (.leaf (.ret (.lit (.bool true))))
          (.giv (.app 1000 [(.pr .row [(.lit (.int .i64 7)), (.lit (.bool false)), (.lit (.bool false)), (.lit (.string .empty)), (.lit (.int .i64 0)), (.lit (.int .u64 0)), (.lit (.string .empty)), (.pr .lst []), (.pr .lst [(.pr .row [(.pr (.cell 0) [(.var 0)]), (.pr (.cell 1) [(.var 0)]), (.pr (.cell 2) [(.var 0)]), (.pr (.cell 3) [(.var 0)]), (.pr (.cell 4) [(.var 0)]), (.pr (.cell 5) [(.var 0)]), (.pr (.cell 6) [(.var 0)]), (.pr (.cell 7) [(.var 0)]), (.pr (.cell 8) [(.var 0)])])])])])
            (.ite (.pr (.icmp .neq) [(.app 0 [(.pr .row [(.lit (.int .i64 7)), (.lit (.bool false)), (.lit (.bool false)), (.lit (.string .empty)), (.lit (.int .i64 0)), (.lit (.int .u64 0)), (.lit (.string .empty)), (.pr .lst []), (.pr .lst [(.pr .row [(.pr (.cell 0) [(.var 0)]), (.pr (.cell 1) [(.var 0)]), (.pr (.cell 2) [(.var 0)]), (.pr (.cell 3) [(.var 0)]), (.pr (.cell 4) [(.var 0)]), (.pr (.cell 5) [(.var 0)]), (.pr (.cell 6) [(.var 0)]), (.pr (.cell 7) [(.var 0)]), (.pr (.cell 8) [(.var 0)])])])])]), (.pr (.iop .add .i64) [(.app 0 [(.pr .row [(.pr (.cell 0) [(.var 0)]), (.pr (.cell 1) [(.var 0)]), (.pr (.cell 2) [(.var 0)]), (.pr (.cell 3) [(.var 0)]), (.pr (.cell 4) [(.var 0)]), (.pr (.cell 5) [(.var 0)]), (.pr (.cell 6) [(.var 0)]), (.pr (.cell 7) [(.var 0)]), (.pr (.cell 8) [(.var 0)])])]), (.lit (.int .i64 1))])])
              (.leaf (.ret (.lit (.bool false))))
              (.ite (.pr (.icmp .neq) [(.app 1 [(.pr .row [(.lit (.int .i64 7)), (.lit (.bool false)), (.lit (.bool false)), (.lit (.string .empty)), (.lit (.int .i64 0)), (.lit (.int .u64 0)), (.lit (.string .empty)), (.pr .lst []), (.pr .lst [(.pr .row [(.pr (.cell 0) [(.var 0)]), (.pr (.cell 1) [(.var 0)]), (.pr (.cell 2) [(.var 0)]), (.pr (.cell 3) [(.var 0)]), (.pr (.cell 4) [(.var 0)]), (.pr (.cell 5) [(.var 0)]), (.pr (.cell 6) [(.var 0)]), (.pr (.cell 7) [(.var 0)]), (.pr (.cell 8) [(.var 0)])])])])]), (.pr (.iop .add .i64) [(.app 1 [(.pr .row [(.pr (.cell 0) [(.var 0)]), (.pr (.cell 1) [(.var 0)]), (.pr (.cell 2) [(.var 0)]), (.pr (.cell 3) [(.var 0)]), (.pr (.cell 4) [(.var 0)]), (.pr (.cell 5) [(.var 0)]), (.pr (.cell 6) [(.var 0)]), (.pr (.cell 7) [(.var 0)]), (.pr (.cell 8) [(.var 0)])])]), (.lit (.int .i64 1))])])
                (.leaf (.ret (.lit (.bool false))))
                (.ite (.pr (.icmp .gtr) [(.app 0 [(.pr .row [(.pr (.cell 0) [(.var 0)]), (.pr (.cell 1) [(.var 0)]), (.pr (.cell 2) [(.var 0)]), (.pr (.cell 3) [(.var 0)]), (.pr (.cell 4) [(.var 0)]), (.pr (.cell 5) [(.var 0)]), (.pr (.cell 6) [(.var 0)]), (.pr (.cell 7) [(.var 0)]), (.pr (.cell 8) [(.var 0)])])]), (.app 1 [(.pr .row [(.pr (.cell 0) [(.var 0)]), (.pr (.cell 1) [(.var 0)]), (.pr (.cell 2) [(.var 0)]), (.pr (.cell 3) [(.var 0)]), (.pr (.cell 4) [(.var 0)]), (.pr (.cell 5) [(.var 0)]), (.pr (.cell 6) [(.var 0)]), (.pr (.cell 7) [(.var 0)]), (.pr (.cell 8) [(.var 0)])])])])
                  (.leaf (.ret (.lit (.bool false))))
                  (.ite (.pr (.icmp .neq) [(.app 13 [(.pr .row [(.pr (.cell 0) [(.var 0)]), (.pr (.cell 1) [(.var 0)]), (.pr (.cell 2) [(.var 0)]), (.pr (.cell 3) [(.var 0)]), (.pr (.cell 4) [(.var 0)]), (.pr (.cell 5) [(.var 0)]), (.pr (.cell 6) [(.var 0)]), (.pr (.cell 7) [(.var 0)]), (.pr (.cell 8) [(.var 0)])])]), (.lit (.int .i64 0))])
                    (.giv (.app 1000 [])
                      (.ite (.app 14 [])
                        (.leaf (.ret (.pr (.icmp .eql) [(.app 13 [(.pr .row [(.lit (.int .i64 7)), (.lit (.bool false)), (.lit (.bool false)), (.lit (.string .empty)), (.lit (.int .i64 0)), (.lit (.int .u64 0)), (.lit (.string .empty)), (.pr .lst []), (.pr .lst [(.pr .row [(.pr (.cell 0) [(.var 0)]), (.pr (.cell 1) [(.var 0)]), (.pr (.cell 2) [(.var 0)]), (.pr (.cell 3) [(.var 0)]), (.pr (.cell 4) [(.var 0)]), (.pr (.cell 5) [(.var 0)]), (.pr (.cell 6) [(.var 0)]), (.pr (.cell 7) [(.var 0)]), (.pr (.cell 8) [(.var 0)])])])])]), (.app 13 [(.pr .row [(.pr (.cell 0) [(.var 0)]), (.pr (.cell 1) [(.var 0)]), (.pr (.cell 2) [(.var 0)]), (.pr (.cell 3) [(.var 0)]), (.pr (.cell 4) [(.var 0)]), (.pr (.cell 5) [(.var 0)]), (.pr (.cell 6) [(.var 0)]), (.pr (.cell 7) [(.var 0)]), (.pr (.cell 8) [(.var 0)])])])])))
                        (.leaf (.ret (.lit (.bool false))))))
                    (.giv (.app 1000 [])
                      (.ite (.app 14 [])
                        (.ite (.pr (.icmp .lss) [(.app 0 [(.pr .row [(.pr (.cell 0) [(.var 0)]), (.pr (.cell 1) [(.var 0)]), (.pr (.cell 2) [(.var 0)]), (.pr (.cell 3) [(.var 0)]), (.pr (.cell 4) [(.var 0)]), (.pr (.cell 5) [(.var 0)]), (.pr (.cell 6) [(.var 0)]), (.pr (.cell 7) [(.var 0)]), (.pr (.cell 8) [(.var 0)])])]), (.lit (.int .i64 16))])
                          (.ite (.pr (.bcmp .eql) [(.pr (.icmp .eql) [(.app 13 [(.pr .row [(.lit (.int .i64 7)), (.lit (.bool false)), (.lit (.bool false)), (.lit (.string .empty)), (.lit (.int .i64 0)), (.lit (.int .u64 0)), (.lit (.string .empty)), (.pr .lst []), (.pr .lst [(.pr .row [(.pr (.cell 0) [(.var 0)]), (.pr (.cell 1) [(.var 0)]), (.pr (.cell 2) [(.var 0)]), (.pr (.cell 3) [(.var 0)]), (.pr (.cell 4) [(.var 0)]), (.pr (.cell 5) [(.var 0)]), (.pr (.cell 6) [(.var 0)]), (.pr (.cell 7) [(.var 0)]), (.pr (.cell 8) [(.var 0)])])])])]), (.lit (.int .i64 0))]), (.pr (.icmp .lss) [(.app 1 [(.pr .row [(.pr (.cell 0) [(.var 0)]), (.pr (.cell 1) [(.var 0)]), (.pr (.cell 2) [(.var 0)]), (.pr (.cell 3) [(.var 0)]), (.pr (.cell 4) [(.var 0)]), (.pr (.cell 5) [(.var 0)]), (.pr (.cell 6) [(.var 0)]), (.pr (.cell 7) [(.var 0)]), (.pr (.cell 8) [(.var 0)])])]), (.lit (.int .i64 4096))])])
                            (.ite (.pr (.icmp .eql) [(.app 13 [(.pr .row [(.lit (.int .i64 7)), (.lit (.bool false)), (.lit (.bool false)), (.lit (.string .empty)), (.lit (.int .i64 0)), (.lit (.int .u64 0)), (.lit (.string .empty)), (.pr .lst []), (.pr .lst [(.pr .row [(.pr (.cell 0) [(.var 0)]), (.pr (.cell 1) [(.var 0)]), (.pr (.cell 2) [(.var 0)]), (.pr (.cell 3) [(.var 0)]), (.pr (.cell 4) [(.var 0)]), (.pr (.cell 5) [(.var 0)]), (.pr (.cell 6) [(.var 0)]), (.pr (.cell 7) [(.var 0)]), (.pr (.cell 8) [(.var 0)])])])])]), (.lit (.int .i64 0))])
                              (.ite (.pr (.bcmp .eql) [(.lit (.bool true)), (.pr (.icmp .lss) [(.app 1 [(.pr .row [(.pr (.cell 0) [(.var 0)]), (.pr (.cell 1) [(.var 0)]), (.pr (.cell 2) [(.var 0)]), (.pr (.cell 3) [(.var 0)]), (.pr (.cell 4) [(.var 0)]), (.pr (.cell 5) [(.var 0)]), (.pr (.cell 6) [(.var 0)]), (.pr (.cell 7) [(.var 0)]), (.pr (.cell 8) [(.var 0)])])]), (.lit (.int .i64 4096))])])
                                (.leaf (.ret (.lit (.bool true))))
                                (.leaf (.ret (.lit (.bool false)))))
                              (.ite (.pr (.bcmp .eql) [(.lit (.bool false)), (.pr (.icmp .lss) [(.app 1 [(.pr .row [(.pr (.cell 0) [(.var 0)]), (.pr (.cell 1) [(.var 0)]), (.pr (.cell 2) [(.var 0)]), (.pr (.cell 3) [(.var 0)]), (.pr (.cell 4) [(.var 0)]), (.pr (.cell 5) [(.var 0)]), (.pr (.cell 6) [(.var 0)]), (.pr (.cell 7) [(.var 0)]), (.pr (.cell 8) [(.var 0)])])]), (.lit (.int .i64 4096))])])
                                (.leaf (.ret (.pr (.icmp .eql) [(.app 13 [(.pr .row [(.lit (.int .i64 7)), (.lit (.bool false)), (.lit (.bool false)), (.lit (.string .empty)), (.lit (.int .i64 0)), (.lit (.int .u64 0)), (.lit (.string .empty)), (.pr .lst []), (.pr .lst [(.pr .row [(.pr (.cell 0) [(.var 0)]), (.pr (.cell 1) [(.var 0)]), (.pr (.cell 2) [(.var 0)]), (.pr (.cell 3) [(.var 0)]), (.pr (.cell 4) [(.var 0)]), (.pr (.cell 5) [(.var 0)]), (.pr (.cell 6) [(.var 0)]), (.pr (.cell 7) [(.var 0)]), (.pr (.cell 8) [(.var 0)])])])])]), (.lit (.int .i64 2))])))
                                (.leaf (.ret (.lit (.bool false))))))
                            (.leaf (.ret (.lit (.bool false)))))
                          (.ite (.pr (.bcmp .eql) [(.pr (.icmp .eql) [(.app 13 [(.pr .row [(.lit (.int .i64 7)), (.lit (.bool false)), (.lit (.bool false)), (.lit (.string .empty)), (.lit (.int .i64 0)), (.lit (.int .u64 0)), (.lit (.string .empty)), (.pr .lst []), (.pr .lst [(.pr .row [(.pr (.cell 0) [(.var 0)]), (.pr (.cell 1) [(.var 0)]), (.pr (.cell 2) [(.var 0)]), (.pr (.cell 3) [(.var 0)]), (.pr (.cell 4) [(.var 0)]), (.pr (.cell 5) [(.var 0)]), (.pr (.cell 6) [(.var 0)]), (.pr (.cell 7) [(.var 0)]), (.pr (.cell 8) [(.var 0)])])])])]), (.lit (.int .i64 0))]), (.lit (.bool false))])
                            (.ite (.pr (.icmp .eql) [(.app 13 [(.pr .row [(.lit (.int .i64 7)), (.lit (.bool false)), (.lit (.bool false)), (.lit (.string .empty)), (.lit (.int .i64 0)), (.lit (.int .u64 0)), (.lit (.string .empty)), (.pr .lst []), (.pr .lst [(.pr .row [(.pr (.cell 0) [(.var 0)]), (.pr (.cell 1) [(.var 0)]), (.pr (.cell 2) [(.var 0)]), (.pr (.cell 3) [(.var 0)]), (.pr (.cell 4) [(.var 0)]), (.pr (.cell 5) [(.var 0)]), (.pr (.cell 6) [(.var 0)]), (.pr (.cell 7) [(.var 0)]), (.pr (.cell 8) [(.var 0)])])])])]), (.lit (.int .i64 0))])
                              (.leaf (.ret (.lit (.bool false))))
                              (.leaf (.ret (.pr (.icmp .eql) [(.app 13 [(.pr .row [(.lit (.int .i64 7)), (.lit (.bool false)), (.lit (.bool false)), (.lit (.string .empty)), (.lit (.int .i64 0)), (.lit (.int .u64 0)), (.lit (.string .empty)), (.pr .lst []), (.pr .lst [(.pr .row [(.pr (.cell 0) [(.var 0)]), (.pr (.cell 1) [(.var 0)]), (.pr (.cell 2) [(.var 0)]), (.pr (.cell 3) [(.var 0)]), (.pr (.cell 4) [(.var 0)]), (.pr (.cell 5) [(.var 0)]), (.pr (.cell 6) [(.var 0)]), (.pr (.cell 7) [(.var 0)]), (.pr (.cell 8) [(.var 0)])])])])]), (.lit (.int .i64 2))]))))
                            (.leaf (.ret (.lit (.bool false))))))
                        (.leaf (.ret (.lit (.bool false)))))))))))))))
def trees_grows : List Tree := []
noncomputable def deps_grows : List Sig := [q_depth, q_size, q_check, q_parts, q_many, q_awake]
theorem ok_grows : check q_grows deps_grows heads_grows entry_grows trees_grows = true := by kernel_rfl
def preL (n : Nat) (ds : List D) : Prop := D.szL ds + 100 < n ∧ D.LimL ds
theorem grows_ok (n : Nat) : @Ok (I n) q_grows (preL n) := by
  letI := I n
  refine fn_ok (hphi n) ok_grows (by
    intro q hq
    simp only [deps_grows, List.mem_cons, List.not_mem_nil, or_false] at hq
    rcases hq with rfl | rfl | rfl | rfl | rfl | rfl
    · exact depth_ok n
    · exact size_ok n
    · exact check_ok n
    · exact parts_ok n
    · exact many_ok n
    · exact awake_ok n _) (fun _ _ _ => False) (fun _ _ => 0) ?_ (fun j h t d ds hj => by simp [heads_grows] at hj)
  intro ds hf hp
  obtain ⟨v, rfl⟩ := one_val hf
  obtain ⟨hp1, hp2⟩ := hp
  simp only [D.szL, D.LimL, and_true] at hp1 hp2
  have o1 : okD n [v.toD, iD 0, iD 65536, iD 0] := okD_val3.2 ⟨by omega, hp2⟩
  have o2 : okD n [v.toD] := okD_one.2 ⟨by omega, hp2⟩
  have o3 : okD n [] := ⟨by simp only [D.szL]; omega, by simp only [D.LimL]⟩
  have o4 : okD n [(listV [v]).toD] := okD_one.2 ⟨by rw [sz_listV]; omega, lim_listV hp2⟩
  have hsm := @small_of v hp2
  have hdp := dep_pos v
  have hds := dep_le v
  simp only [entry_grows, q_grows, Tree.holds, Out.den, E.den, E.denL, envOf_zero, envOf_succ, den_add, den_sub, den_mul, den_quo, den_rem, den_ieql, den_ineq, den_lss, den_leq, den_gtr, den_geq, den_seql, den_sneq, den_slss, den_beql, den_bneq, den_not, den_neg, den_conv, den_slen, den_sat, den_ssub, den_scat, den_len, den_at, den_cell, den_row, den_lst, den_cat, den_ite, den_and, den_mhas, den_mget, den_mset, ofBool_bD, bD_true, rows_lst, cells_row, int_v, bool_v, str_v, rows_strs, at_0, at_1, at_2, at_3, at_4, at_5, at_6, at_7, at_8, toD_put, strD_at, ltI_t, leI_t, eqI_t, eqS_t, ltI_f, leI_f, eqI_f, eqS_f, Bool.not_eq_true', Bool.not_eq_false', List.getD_cons_zero, List.getD_cons_succ, true_and, and_true, List.length_map, phi_1000, list_put1, phi_depth, phi_size, phi_check, phi_parts, phi_many, phi_awake, phi_grows, o1, o2, o3, o4]
  refine ⟨fun h => trivial, fun hP => ⟨fun h => trivial, fun hM => ?_⟩⟩
  obtain ⟨e1, e2, e3⟩ := hsm hP
  have e4 : sizV (listV [v]) = siz v + 1 := by rw [siz_of _ (by rw [siz_listV]; omega), siz_listV]; rfl
  have e5 : depV (listV [v]) = dep v + 1 := by rw [dep_of _ (by rw [siz_listV]; omega), dep_listV]; rfl
  have w1 : IntKind.i64.wrap ((dep v : Int) + 1) = dep v + 1 := wrap_id (by omega) (by omega)
  have w2 : IntKind.i64.wrap ((siz v : Int) + 1) = siz v + 1 := wrap_id (by omega) (by omega)
  unfold checkV
  rw [formed_listV, short_listV, e1, e2, e4, e5, w1, w2]
  generalize formedV v = F at *
  generalize shortV v = S at *
  generalize dep v = d at *
  generalize siz v = s at *
  have l1 : ∀ a b : Int, ltI a b = decide (a < b) := fun _ _ => rfl
  have l2 : ∀ a b : Int, eqI a b = decide (a = b) := fun _ _ => rfl
  simp only [l1, l2]
  grind
end Go.Proofs.YtaeeblcdggjokaaDoor.Vk
