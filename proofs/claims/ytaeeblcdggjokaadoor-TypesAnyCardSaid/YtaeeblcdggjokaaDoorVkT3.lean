/- Contracts of package types: has, Has. -/
import Derived.Test.YtaeeblcdggjokaaDoorVkT2
namespace Go.Proofs.YtaeeblcdggjokaaDoor.Vk
open Go Go.Ab Go.RowKit
set_option maxRecDepth 100000
set_option linter.unusedVariables false
set_option linter.unusedSimpArgs false
set_option linter.unusedSectionVars false
set_option linter.constructorNameAsVariable false
theorem okD_tv {n : Nat} {t : Typ} {v : Val} (h : okD (n + 1) [t.toD, v.toD]) : t.list.length ≤ lim ∧ v.list.length ≤ lim ∧ okD n [valsD v.list, .row [t.toD]] ∧ okD n [strsD v.names, strsD t.names] ∧ okD n [strsD t.names, sD v.text] ∧ ∀ x, x ∈ t.list → ∀ y, y ∈ v.list → okD n [x.toD, y.toD] := by
  obtain ⟨h1, h2, h3⟩ := okD_two.1 h
  have ht := (lim_toDT t).1 h2
  have hv := (lim_toD v).1 h3
  have e1 := sz_toDT t
  have e2 := sz_toD v
  have p1 := D.sz_pos (strsD t.names)
  have p2 := D.sz_pos (typsD t.list)
  have p3 := D.sz_pos (strsD v.names)
  have p4 := D.sz_pos (valsD v.list)
  have p5 : (sD v.text).sz = 1 := by simp only [D.sz]
  have e3 : D.sz (.row [t.toD]) = t.toD.sz + 1 := by rw [sz_row]; simp only [D.szL]
  refine ⟨(lim_typs.1 ht.2).1, (lim_vals.1 hv.2.2.2).1, okD_two.2 ⟨by omega, hv.2.2.2, by simpa [D.Lim, D.LimL] using h2⟩, okD_two.2 ⟨by omega, hv.2.2.1, ht.1⟩, okD_two.2 ⟨by omega, ht.1, by simp only [D.Lim]; exact hv.2.1⟩, fun x hx y hy => okD_two.2 ⟨?_, (lim_typs.1 ht.2).2 x hx, (lim_vals.1 hv.2.2.2).2 y hy⟩⟩
  have := sz_typs_mem hx
  have := sz_vals_mem hy
  omega
theorem zip_drop {α β : Type} : ∀ (a : List α) (b : List β) (i : Nat), (a.zip b).drop i = (a.drop i).zip (b.drop i)
  | a, b, 0 => rfl
  | [], b, i + 1 => by simp
  | _ :: _, [], i + 1 => by simp
  | _ :: a, _ :: b, i + 1 => by simpa using zip_drop a b i
theorem rowAt_mapI {α : Type} {f : α → D} {l : List α} {j : Int} {x : α} (h : l[j.toNat]? = some x) : Ab.rowAt (.lst (l.map f)) j = f x := by
  unfold Ab.rowAt
  show (l.map f).getD j.toNat (.row []) = f x
  rw [List.getD_eq_getElem?_getD, List.getElem?_map, h]; rfl
theorem ixL_any {α : Type} (p : α → Bool) : ∀ (l : List α) (i : Nat), leI 0 (ixL p l i) = l.any p
  | [], i => by rw [ixL]; rfl
  | x :: r, i => by
    rw [ixL, List.any_cons]
    cases hp : p x with
    | true => rw [if_pos rfl, Bool.true_or]; exact leI_t.2 (by omega)
    | false => rw [if_neg (by simp), Bool.false_or]; exact ixL_any p r (i + 1)
/-- calamus/types.has: func 40, params [26, 41], ntmps 98. -/
-- head 0 of loop 0: [t2 .rf 26, t38 .sh (.cell (.sl 41)), t39 .sh (.cell (.sc (.i .i64))), t40 .sh (.cell (.sc (.i .i64)))]
def heads_thas : List Hd := [⟨0, [.any, .any, .rf 26, .any, .any, .any, .any, .any, .any, .any, .any, .any, .any, .any, .any, .any, .any, .any, .any, .any, .any, .any, .any, .any, .any, .any, .any, .any, .any, .any, .any, .any, .any, .any, .any, .any, .any, .any, .sh (.cell (.sl 41)), .sh (.cell (.sc (.i .i64))), .sh (.cell (.sc (.i .i64))), .any, .any, .any, .any, .any, .any, .any, .any, .any, .any, .any, .any, .any, .any, .any, .any, .any, .any, .any, .any, .any, .any, .any, .any, .any, .any, .any, .any, .any, .any, .any, .any, .any, .any, .any, .any, .any, .any, .any, .any, .any, .any, .any, .any, .any, .any, .any, .any, .any, .any, .any, .any, .any, .any, .any, .any, .any]⟩]
def entry_thas : Tree :=
  (.ite (.pr (.icmp .eql) [(.pr (.cell 0) [(.var 0)]), (.lit (.int .i64 1))])
    (.leaf (.ret (.lit (.bool true))))
    (.ite (.pr (.icmp .eql) [(.pr (.cell 0) [(.var 0)]), (.lit (.int .i64 9))])
      (.ite (.pr (.icmp .eql) [(.pr (.cell 0) [(.var 1)]), (.lit (.int .i64 7))])
        (.giv (.app 1000 [(.pr (.cell 8) [(.var 1)]), (.pr .row [(.pr .row [(.pr (.cell 0) [(.var 0)]), (.pr (.cell 1) [(.var 0)]), (.pr (.cell 2) [(.var 0)])])])])
          (.giv (.app 2065 [(.pr (.cell 8) [(.var 1)]), (.pr .row [(.pr .row [(.pr (.cell 0) [(.var 0)]), (.pr (.cell 1) [(.var 0)]), (.pr (.cell 2) [(.var 0)])])])])
            (.leaf (.ret (.pr .not [(.pr (.icmp .geq) [(.app 65 [(.pr (.cell 8) [(.var 1)]), (.pr .row [(.pr .row [(.pr (.cell 0) [(.var 0)]), (.pr (.cell 1) [(.var 0)]), (.pr (.cell 2) [(.var 0)])])])]), (.lit (.int .i64 0))])])))))
        (.leaf (.ret (.lit (.bool false)))))
      (.ite (.pr (.icmp .eql) [(.pr (.cell 0) [(.var 0)]), (.lit (.int .i64 10))])
        (.ite (.pr (.icmp .neq) [(.pr (.cell 0) [(.var 1)]), (.lit (.int .i64 8))])
          (.leaf (.ret (.lit (.bool false))))
          (.giv (.app 1000 [(.pr (.cell 7) [(.var 1)]), (.pr (.cell 1) [(.var 0)])])
            (.ite (.app 16 [(.pr (.cell 7) [(.var 1)]), (.pr (.cell 1) [(.var 0)])])
              (.leaf (.go 0 [(.pr .row [(.pr (.cell 0) [(.var 0)]), (.pr (.cell 1) [(.var 0)]), (.pr (.cell 2) [(.var 0)])]), (.pr (.cell 8) [(.var 1)]), (.pr .len [(.pr (.cell 8) [(.var 1)])]), (.lit (.int .i64 0))]))
              (.leaf (.ret (.lit (.bool false)))))))
        (.ite (.pr (.icmp .eql) [(.pr (.cell 0) [(.var 0)]), (.lit (.int .i64 11))])
          (.giv (.app 1000 [(.pr (.cell 1) [(.var 0)]), (.pr (.cell 6) [(.var 1)])])
            (.ite (.pr (.icmp .eql) [(.pr (.cell 0) [(.var 1)]), (.lit (.int .i64 9))])
              (.ite (.pr (.icmp .geq) [(.app 66 [(.pr (.cell 1) [(.var 0)]), (.pr (.cell 6) [(.var 1)])]), (.lit (.int .i64 0))])
                (.giv (.pr (.icmp .leq) [(.lit (.int .i64 0)), (.app 66 [(.pr (.cell 1) [(.var 0)]), (.pr (.cell 6) [(.var 1)])])])
                  (.giv (.pr (.icmp .lss) [(.app 66 [(.pr (.cell 1) [(.var 0)]), (.pr (.cell 6) [(.var 1)])]), (.pr .len [(.pr (.cell 2) [(.var 0)])])])
                    (.giv (.pr (.icmp .lss) [(.lit (.int .i64 0)), (.pr .len [(.pr (.cell 8) [(.var 1)])])])
                      (.giv (.app 1000 [(.pr .row [(.pr (.cell 0) [(.pr .at [(.pr (.cell 2) [(.var 0)]), (.app 66 [(.pr (.cell 1) [(.var 0)]), (.pr (.cell 6) [(.var 1)])])])]), (.pr (.cell 1) [(.pr .at [(.pr (.cell 2) [(.var 0)]), (.app 66 [(.pr (.cell 1) [(.var 0)]), (.pr (.cell 6) [(.var 1)])])])]), (.pr (.cell 2) [(.pr .at [(.pr (.cell 2) [(.var 0)]), (.app 66 [(.pr (.cell 1) [(.var 0)]), (.pr (.cell 6) [(.var 1)])])])])]), (.pr .row [(.pr (.cell 0) [(.pr .at [(.pr (.cell 8) [(.var 1)]), (.lit (.int .i64 0))])]), (.pr (.cell 1) [(.pr .at [(.pr (.cell 8) [(.var 1)]), (.lit (.int .i64 0))])]), (.pr (.cell 2) [(.pr .at [(.pr (.cell 8) [(.var 1)]), (.lit (.int .i64 0))])]), (.pr (.cell 3) [(.pr .at [(.pr (.cell 8) [(.var 1)]), (.lit (.int .i64 0))])]), (.pr (.cell 4) [(.pr .at [(.pr (.cell 8) [(.var 1)]), (.lit (.int .i64 0))])]), (.pr (.cell 5) [(.pr .at [(.pr (.cell 8) [(.var 1)]), (.lit (.int .i64 0))])]), (.pr (.cell 6) [(.pr .at [(.pr (.cell 8) [(.var 1)]), (.lit (.int .i64 0))])]), (.pr (.cell 7) [(.pr .at [(.pr (.cell 8) [(.var 1)]), (.lit (.int .i64 0))])]), (.pr (.cell 8) [(.pr .at [(.pr (.cell 8) [(.var 1)]), (.lit (.int .i64 0))])])])])
                        (.giv (.app 2064 [(.pr .row [(.pr (.cell 0) [(.pr .at [(.pr (.cell 2) [(.var 0)]), (.app 66 [(.pr (.cell 1) [(.var 0)]), (.pr (.cell 6) [(.var 1)])])])]), (.pr (.cell 1) [(.pr .at [(.pr (.cell 2) [(.var 0)]), (.app 66 [(.pr (.cell 1) [(.var 0)]), (.pr (.cell 6) [(.var 1)])])])]), (.pr (.cell 2) [(.pr .at [(.pr (.cell 2) [(.var 0)]), (.app 66 [(.pr (.cell 1) [(.var 0)]), (.pr (.cell 6) [(.var 1)])])])])]), (.pr .row [(.pr (.cell 0) [(.pr .at [(.pr (.cell 8) [(.var 1)]), (.lit (.int .i64 0))])]), (.pr (.cell 1) [(.pr .at [(.pr (.cell 8) [(.var 1)]), (.lit (.int .i64 0))])]), (.pr (.cell 2) [(.pr .at [(.pr (.cell 8) [(.var 1)]), (.lit (.int .i64 0))])]), (.pr (.cell 3) [(.pr .at [(.pr (.cell 8) [(.var 1)]), (.lit (.int .i64 0))])]), (.pr (.cell 4) [(.pr .at [(.pr (.cell 8) [(.var 1)]), (.lit (.int .i64 0))])]), (.pr (.cell 5) [(.pr .at [(.pr (.cell 8) [(.var 1)]), (.lit (.int .i64 0))])]), (.pr (.cell 6) [(.pr .at [(.pr (.cell 8) [(.var 1)]), (.lit (.int .i64 0))])]), (.pr (.cell 7) [(.pr .at [(.pr (.cell 8) [(.var 1)]), (.lit (.int .i64 0))])]), (.pr (.cell 8) [(.pr .at [(.pr (.cell 8) [(.var 1)]), (.lit (.int .i64 0))])])])])
                          (.leaf (.ret (.app 64 [(.pr .row [(.pr (.cell 0) [(.pr .at [(.pr (.cell 2) [(.var 0)]), (.app 66 [(.pr (.cell 1) [(.var 0)]), (.pr (.cell 6) [(.var 1)])])])]), (.pr (.cell 1) [(.pr .at [(.pr (.cell 2) [(.var 0)]), (.app 66 [(.pr (.cell 1) [(.var 0)]), (.pr (.cell 6) [(.var 1)])])])]), (.pr (.cell 2) [(.pr .at [(.pr (.cell 2) [(.var 0)]), (.app 66 [(.pr (.cell 1) [(.var 0)]), (.pr (.cell 6) [(.var 1)])])])])]), (.pr .row [(.pr (.cell 0) [(.pr .at [(.pr (.cell 8) [(.var 1)]), (.lit (.int .i64 0))])]), (.pr (.cell 1) [(.pr .at [(.pr (.cell 8) [(.var 1)]), (.lit (.int .i64 0))])]), (.pr (.cell 2) [(.pr .at [(.pr (.cell 8) [(.var 1)]), (.lit (.int .i64 0))])]), (.pr (.cell 3) [(.pr .at [(.pr (.cell 8) [(.var 1)]), (.lit (.int .i64 0))])]), (.pr (.cell 4) [(.pr .at [(.pr (.cell 8) [(.var 1)]), (.lit (.int .i64 0))])]), (.pr (.cell 5) [(.pr .at [(.pr (.cell 8) [(.var 1)]), (.lit (.int .i64 0))])]), (.pr (.cell 6) [(.pr .at [(.pr (.cell 8) [(.var 1)]), (.lit (.int .i64 0))])]), (.pr (.cell 7) [(.pr .at [(.pr (.cell 8) [(.var 1)]), (.lit (.int .i64 0))])]), (.pr (.cell 8) [(.pr .at [(.pr (.cell 8) [(.var 1)]), (.lit (.int .i64 0))])])])]))))))))
                (.leaf (.ret (.lit (.bool false)))))
              (.leaf (.ret (.lit (.bool false))))))
          (.ite (.pr (.icmp .eql) [(.pr (.cell 0) [(.var 0)]), (.lit (.int .i64 0))])
            (.ite (.pr (.icmp .eql) [(.pr (.cell 0) [(.var 1)]), (.lit (.int .i64 0))])
              (.ite (.pr (.icmp .neq) [(.pr (.cell 0) [(.var 0)]), (.lit (.int .i64 5))])
                (.leaf (.ret (.lit (.bool true))))
                (.leaf (.ret (.pr (.icmp .geq) [(.pr (.cell 4) [(.var 1)]), (.lit (.int .i64 0))]))))
              (.leaf (.ret (.lit (.bool false)))))
            (.ite (.pr (.icmp .eql) [(.pr (.cell 0) [(.var 0)]), (.lit (.int .i64 2))])
              (.ite (.pr (.icmp .eql) [(.pr (.cell 0) [(.var 1)]), (.lit (.int .i64 1))])
                (.ite (.pr (.icmp .neq) [(.pr (.cell 0) [(.var 0)]), (.lit (.int .i64 5))])
                  (.leaf (.ret (.lit (.bool true))))
                  (.leaf (.ret (.pr (.icmp .geq) [(.pr (.cell 4) [(.var 1)]), (.lit (.int .i64 0))]))))
                (.leaf (.ret (.lit (.bool false)))))
              (.ite (.pr (.icmp .eql) [(.pr (.cell 0) [(.var 0)]), (.lit (.int .i64 3))])
                (.ite (.pr (.icmp .eql) [(.pr (.cell 0) [(.var 1)]), (.lit (.int .i64 2))])
                  (.ite (.pr (.icmp .neq) [(.pr (.cell 0) [(.var 0)]), (.lit (.int .i64 5))])
                    (.leaf (.ret (.lit (.bool true))))
                    (.leaf (.ret (.pr (.icmp .geq) [(.pr (.cell 4) [(.var 1)]), (.lit (.int .i64 0))]))))
                  (.leaf (.ret (.lit (.bool false)))))
                (.ite (.pr (.icmp .eql) [(.pr (.cell 0) [(.var 0)]), (.lit (.int .i64 4))])
                  (.ite (.pr (.icmp .eql) [(.pr (.cell 0) [(.var 1)]), (.lit (.int .i64 3))])
                    (.ite (.pr (.icmp .neq) [(.pr (.cell 0) [(.var 0)]), (.lit (.int .i64 5))])
                      (.leaf (.ret (.lit (.bool true))))
                      (.leaf (.ret (.pr (.icmp .geq) [(.pr (.cell 4) [(.var 1)]), (.lit (.int .i64 0))]))))
                    (.leaf (.ret (.lit (.bool false)))))
                  (.ite (.pr (.icmp .eql) [(.pr (.cell 0) [(.var 0)]), (.lit (.int .i64 5))])
                    (.ite (.pr (.icmp .eql) [(.pr (.cell 0) [(.var 1)]), (.lit (.int .i64 3))])
                      (.ite (.pr (.icmp .neq) [(.pr (.cell 0) [(.var 0)]), (.lit (.int .i64 5))])
                        (.leaf (.ret (.lit (.bool true))))
                        (.leaf (.ret (.pr (.icmp .geq) [(.pr (.cell 4) [(.var 1)]), (.lit (.int .i64 0))]))))
                      (.leaf (.ret (.lit (.bool false)))))
                    (.ite (.pr (.icmp .eql) [(.pr (.cell 0) [(.var 0)]), (.lit (.int .i64 6))])
                      (.ite (.pr (.icmp .eql) [(.pr (.cell 0) [(.var 1)]), (.lit (.int .i64 4))])
                        (.ite (.pr (.icmp .neq) [(.pr (.cell 0) [(.var 0)]), (.lit (.int .i64 5))])
                          (.leaf (.ret (.lit (.bool true))))
                          (.leaf (.ret (.pr (.icmp .geq) [(.pr (.cell 4) [(.var 1)]), (.lit (.int .i64 0))]))))
                        (.leaf (.ret (.lit (.bool false)))))
                      (.ite (.pr (.icmp .eql) [(.pr (.cell 0) [(.var 0)]), (.lit (.int .i64 7))])
                        (.ite (.pr (.icmp .eql) [(.pr (.cell 0) [(.var 1)]), (.lit (.int .i64 5))])
                          (.ite (.pr (.icmp .neq) [(.pr (.cell 0) [(.var 0)]), (.lit (.int .i64 5))])
                            (.leaf (.ret (.lit (.bool true))))
                            (.leaf (.ret (.pr (.icmp .geq) [(.pr (.cell 4) [(.var 1)]), (.lit (.int .i64 0))]))))
                          (.leaf (.ret (.lit (.bool false)))))
                        (.giv (.pr (.icmp .eql) [(.pr (.cell 0) [(.var 0)]), (.lit (.int .i64 8))])
                          (.ite (.pr (.icmp .eql) [(.pr (.cell 0) [(.var 1)]), (.lit (.int .i64 6))])
                            (.ite (.pr (.icmp .neq) [(.pr (.cell 0) [(.var 0)]), (.lit (.int .i64 5))])
                              (.leaf (.ret (.lit (.bool true))))
                              (.leaf (.ret (.pr (.icmp .geq) [(.pr (.cell 4) [(.var 1)]), (.lit (.int .i64 0))]))))
                            (.leaf (.ret (.lit (.bool false)))))))))))))))))
def head_thas_0 : Tree :=
  (.ite (.pr (.icmp .lss) [(.var 3), (.var 2)])
    (.giv (.pr (.icmp .leq) [(.lit (.int .i64 0)), (.var 3)])
      (.giv (.pr (.icmp .lss) [(.var 3), (.pr .len [(.var 1)])])
        (.giv (.pr (.icmp .lss) [(.var 3), (.pr .len [(.pr (.cell 2) [(.var 0)])])])
          (.giv (.app 1000 [(.pr .row [(.pr (.cell 0) [(.pr .at [(.pr (.cell 2) [(.var 0)]), (.var 3)])]), (.pr (.cell 1) [(.pr .at [(.pr (.cell 2) [(.var 0)]), (.var 3)])]), (.pr (.cell 2) [(.pr .at [(.pr (.cell 2) [(.var 0)]), (.var 3)])])]), (.pr .row [(.pr (.cell 0) [(.pr .at [(.var 1), (.var 3)])]), (.pr (.cell 1) [(.pr .at [(.var 1), (.var 3)])]), (.pr (.cell 2) [(.pr .at [(.var 1), (.var 3)])]), (.pr (.cell 3) [(.pr .at [(.var 1), (.var 3)])]), (.pr (.cell 4) [(.pr .at [(.var 1), (.var 3)])]), (.pr (.cell 5) [(.pr .at [(.var 1), (.var 3)])]), (.pr (.cell 6) [(.pr .at [(.var 1), (.var 3)])]), (.pr (.cell 7) [(.pr .at [(.var 1), (.var 3)])]), (.pr (.cell 8) [(.pr .at [(.var 1), (.var 3)])])])])
            (.giv (.app 2064 [(.pr .row [(.pr (.cell 0) [(.pr .at [(.pr (.cell 2) [(.var 0)]), (.var 3)])]), (.pr (.cell 1) [(.pr .at [(.pr (.cell 2) [(.var 0)]), (.var 3)])]), (.pr (.cell 2) [(.pr .at [(.pr (.cell 2) [(.var 0)]), (.var 3)])])]), (.pr .row [(.pr (.cell 0) [(.pr .at [(.var 1), (.var 3)])]), (.pr (.cell 1) [(.pr .at [(.var 1), (.var 3)])]), (.pr (.cell 2) [(.pr .at [(.var 1), (.var 3)])]), (.pr (.cell 3) [(.pr .at [(.var 1), (.var 3)])]), (.pr (.cell 4) [(.pr .at [(.var 1), (.var 3)])]), (.pr (.cell 5) [(.pr .at [(.var 1), (.var 3)])]), (.pr (.cell 6) [(.pr .at [(.var 1), (.var 3)])]), (.pr (.cell 7) [(.pr .at [(.var 1), (.var 3)])]), (.pr (.cell 8) [(.pr .at [(.var 1), (.var 3)])])])])
              (.ite (.app 64 [(.pr .row [(.pr (.cell 0) [(.pr .at [(.pr (.cell 2) [(.var 0)]), (.var 3)])]), (.pr (.cell 1) [(.pr .at [(.pr (.cell 2) [(.var 0)]), (.var 3)])]), (.pr (.cell 2) [(.pr .at [(.pr (.cell 2) [(.var 0)]), (.var 3)])])]), (.pr .row [(.pr (.cell 0) [(.pr .at [(.var 1), (.var 3)])]), (.pr (.cell 1) [(.pr .at [(.var 1), (.var 3)])]), (.pr (.cell 2) [(.pr .at [(.var 1), (.var 3)])]), (.pr (.cell 3) [(.pr .at [(.var 1), (.var 3)])]), (.pr (.cell 4) [(.pr .at [(.var 1), (.var 3)])]), (.pr (.cell 5) [(.pr .at [(.var 1), (.var 3)])]), (.pr (.cell 6) [(.pr .at [(.var 1), (.var 3)])]), (.pr (.cell 7) [(.pr .at [(.var 1), (.var 3)])]), (.pr (.cell 8) [(.pr .at [(.var 1), (.var 3)])])])])
                (.leaf (.go 0 [(.var 0), (.var 1), (.var 2), (.pr (.iop .add .i64) [(.var 3), (.lit (.int .i64 1))])]))
                (.leaf (.ret (.lit (.bool false))))))))))
    (.leaf (.ret (.lit (.bool true)))))
def trees_thas : List Tree := [head_thas_0]
noncomputable def deps_thas : List Sig := [q_thas, q_tixhas, q_sindex, q_eqstrs]
theorem ok_thas : check q_thas deps_thas heads_thas entry_thas trees_thas = true := by kernel_rfl
theorem thas_step (n : Nat) (ih : @Ok (I n) q_thas (@okS (I n) n q_thas.g)) (ih2 : @Ok (I n) q_tixhas (@okS (I n) n q_tixhas.g)) : @Ok (I n) q_thas (@okS (I n) (n + 1) q_thas.g) := by
  letI := I n
  refine fn_okS (hphi n) ok_thas (by
    intro q hq
    simp only [deps_thas, List.mem_cons, List.not_mem_nil, or_false] at hq
    rcases hq with rfl | rfl | rfl | rfl
    · exact ih
    · exact ih2
    · exact okS_of (sindex_ok n)
    · exact okS_of (eqstrs_ok n))
    (fun _ d ds => ∃ (t : Typ) (l : List Val) (i : Nat), ds = [t.toD, valsD l, iD l.length, iD i] ∧ t.list.length = l.length ∧ i ≤ l.length ∧ l.length ≤ lim ∧ (∀ x, x ∈ t.list → formedT x = true) ∧ (∀ y, y ∈ l → formedV y = true) ∧ (∀ x, x ∈ t.list → ∀ y, y ∈ l → okD n [x.toD, y.toD]) ∧ d = bD (((t.list.zip l).drop i).all fun p => hasT p.1 p.2))
    (fun _ ds => (ds.getD 1 .nil).rows.length - (ds.getD 3 .nil).int.toNat) ?_ ?_
  · intro ds hf hp
    obtain ⟨t, v, rfl⟩ := typ_val hf
    obtain ⟨o1, o2, o3, o4, o5, o6⟩ := okD_tv hp.1
    obtain ⟨g1, g2⟩ := (pre_thas n t v).1 (hp.2 rfl)
    obtain ⟨t1, t2, t3, t4, t5, t6⟩ := formedT_parts g1
    obtain ⟨v1, v2, v3⟩ := formedV_parts g2
    simp only [entry_thas, q_thas, Tree.holds, Out.den, E.den, E.denL, den1, den2, den3, den4, den5, den6, den7, den8, Bool.not_eq_true', Bool.not_eq_false', List.getD_cons_zero, List.getD_cons_succ, true_and, and_true, List.length_map, phi_1000, phi_thas, tat_0, tat_1, tat_2, toDT_put, phi_tixhas, pre_tixhas, phi_eqstrs, phi_sindex, o3, o4, o5]
    have hH := hasT_eq t v
    refine ⟨fun k1 => ?_, fun k1 => ⟨fun k9 => ⟨fun w7 => ⟨⟨g1, t2 k9, v1⟩, ?_⟩, fun w7 => ?_⟩, fun k9 => ⟨fun k10 => ⟨fun w8 => ?_, fun w8 => ⟨fun hn => ?_, fun hn => ?_⟩⟩, fun k10 => ⟨fun k11 => ⟨fun w9 => ⟨fun hx => ?_, fun hx => ?_⟩, fun w9 => ?_⟩, fun k11 => ?_⟩⟩⟩⟩
    · rw [hH, if_pos k1]
    · obtain ⟨x, hx⟩ := List.length_eq_one_iff.1 (t2 k9)
      rw [hH, if_neg k1, if_pos k9, w7, hx, ixL_any]
      show bD (!v.list.any fun y => !hasT x y) = bD (v.list.all (hasT x))
      rw [← List.not_all_eq_any_not, Bool.not_not]
    · rw [hH, if_neg k1, if_pos k9, decide_eq_false w7]; rfl
    · rw [hH, if_neg k1, if_neg k9, if_pos k10, decide_eq_false w8]; rfl
    · have hn := of_decide_eq_true hn
      have e1 := (t3 (.inl k10)).1
      have e2 := v2 w8
      refine ⟨t, v.list, 0, rfl, by rw [← e1, ← e2, hn], Nat.zero_le _, o2, t1, v1, o6, ?_⟩
      rw [hH, if_neg k1, if_neg k9, if_pos k10, decide_eq_true w8, decide_eq_true hn]; rfl
    · rw [hH, if_neg k1, if_neg k9, if_pos k10, decide_eq_true w8, hn]; rfl
    · have e1 := (t3 (.inr k11)).1
      obtain ⟨i1, i2⟩ := idxI_lt v.text t.names 0 hx
      obtain ⟨y, hy⟩ := List.length_eq_one_iff.1 (v3 w9)
      have hxl : (idxI v.text t.names 0).toNat < t.list.length := by omega
      have hx0 := List.getElem?_eq_getElem hxl
      generalize t.list[(idxI v.text t.names 0).toNat] = x at hx0
      have hy0 : v.list[(0 : Int).toNat]? = some y := by rw [hy]; rfl
      rw [rowAt_mapI hx0, rowAt_mapI hy0]
      simp only [tat_0, tat_1, tat_2, toDT_put, at_0, at_1, at_2, at_3, at_4, at_5, at_6, at_7, at_8, toD_put, phi_thas, pre_thas]
      have hxm := List.mem_of_getElem? hx0
      have hym := List.mem_of_getElem? hy0
      refine ⟨hx, by omega, by rw [hy]; simp, o6 x hxm y hym, ⟨t1 x hxm, v1 y hym⟩, ?_⟩
      rw [hH, if_neg k1, if_neg k9, if_neg k10, if_pos k11, decide_eq_true w9, decide_eq_true hx, hx0, hy]
      rfl
    · rw [hH, if_neg k1, if_neg k9, if_neg k10, if_pos k11, decide_eq_true w9, decide_eq_false hx]; rfl
    · rw [hH, if_neg k1, if_neg k9, if_neg k10, if_pos k11, decide_eq_false w9]; rfl
    · have hK : hasT t v = (decide (v.kind = kindsT t.kind) && (decide (t.kind ≠ 5) || decide (v.exp ≥ 0))) := by rw [hH, if_neg k1, if_neg k9, if_neg k10, if_neg k11]
      have fin : ∀ c e : Int, t.kind = c → kindsT c = e → (v.kind = e → (¬t.kind = 5 → D.v (Value.bool true) = bD (hasT t v)) ∧ (t.kind = 5 → bD (leI 0 v.exp) = bD (hasT t v))) ∧ (¬v.kind = e → D.v (Value.bool false) = bD (hasT t v)) := fun c e hc he => by
        rw [hK, hc, he]
        refine ⟨fun h => ⟨fun h5 => ?_, fun h5 => ?_⟩, fun h => ?_⟩
        · rw [decide_eq_true h, decide_eq_true h5]; rfl
        · rw [decide_eq_true h, decide_eq_false (by simpa using h5)]; rfl
        · rw [decide_eq_false h]; rfl
      exact ⟨fun k => fin 0 0 k rfl, fun _ => ⟨fun k => fin 2 1 k rfl, fun _ => ⟨fun k => fin 3 2 k rfl, fun _ => ⟨fun k => fin 4 3 k rfl, fun _ => ⟨fun k => fin 5 3 k rfl, fun _ => ⟨fun k => fin 6 4 k rfl, fun _ => ⟨fun k => fin 7 5 k rfl, fun _ => ⟨by omega, fin 8 6 (by omega) rfl⟩⟩⟩⟩⟩⟩⟩⟩
  · rintro j h t d ds hj ht hf ⟨t0, l, i, rfl, ha, hi, hl, f1, f2, ho, rfl⟩
    obtain rfl : t = head_thas_0 := by
      match j, ht with
      | 0, ht => exact (Option.some.inj ht).symm
    by_cases hlt : i < l.length
    · obtain ⟨y, hy, hym, hd⟩ := drop_get hlt
      obtain ⟨x, hx, hxm, hd'⟩ := drop_get (l := t0.list) (i := i) (by omega)
      have hz : (t0.list.zip l).drop i = (x, y) :: (t0.list.zip l).drop (i + 1) := by
        rw [zip_drop, zip_drop, hd, hd']; rfl
      simp only [head_thas_0, Tree.holds, Out.den, E.den, E.denL, den1, den2, den3, den4, den5, den6, den7, den8, Bool.not_eq_true', Bool.not_eq_false', List.getD_cons_zero, List.getD_cons_succ, true_and, and_true, List.length_map, phi_1000, rowAt_map hy, rowAt_map hx, tat_0, tat_1, tat_2, toDT_put, toD_put, phi_thas, pre_thas, wrap_succ hlt hl]
      refine ⟨fun _ => ⟨by omega, by omega, by omega, ho x hxm y hym, ⟨f1 x hxm, f2 y hym⟩, fun hb => ⟨⟨t0, l, i + 1, rfl, ha, hlt, hl, f1, f2, ho, ?_⟩, by omega⟩, fun hb => ?_⟩, fun h => by omega⟩
      · rw [hz, List.all_cons, hb, Bool.true_and]
      · rw [hz, List.all_cons, hb, Bool.false_and]
    · simp only [head_thas_0, Tree.holds, Out.den, E.den, E.denL, den1, den2, den3, den4, den5, den6, den7, den8, Bool.not_eq_true', Bool.not_eq_false', List.getD_cons_zero, List.getD_cons_succ, true_and, and_true, List.length_map, phi_1000]
      refine ⟨fun h => by omega, fun _ => ?_⟩
      rw [List.drop_eq_nil_of_le (by rw [List.length_zip]; omega)]; rfl
theorem thas_both : ∀ (n : Nat), @Ok (I n) q_thas (@okS (I n) n q_thas.g)
  | 0 => fun W J vs ds hL hI ha hp => absurd hp.1.1 (Nat.not_lt_zero _)
  | n + 1 => ok_irrel (by decide) (thas_step n (thas_both n) (tixhas_ok n (thas_both n)))
theorem checkT_formed {t : Typ} (h : checkT t = 0) : formedT t = true := by
  cases hf : formedT t with
  | true => rfl
  | false => unfold checkT at h; rw [hf] at h; simp at h
theorem checkV_formed {v : Val} (h : checkV v = 0) : formedV v = true := by
  cases hf : formedV v with
  | true => rfl
  | false => unfold checkV at h; rw [hf] at h; simp at h
/-- calamus/types.Has: func 18, params [26, 41], ntmps 21. -/
def heads_tHas : List Hd := []
def entry_tHas : Tree :=
  (.giv (.app 1000 [(.pr .row [(.pr (.cell 0) [(.var 0)]), (.pr (.cell 1) [(.var 0)]), (.pr (.cell 2) [(.var 0)])])])
    (.ite (.pr (.icmp .neq) [(.app 63 [(.pr .row [(.pr (.cell 0) [(.var 0)]), (.pr (.cell 1) [(.var 0)]), (.pr (.cell 2) [(.var 0)])])]), (.lit (.int .i64 0))])
      (.leaf (.ret (.pr .row [(.lit (.bool false)), (.app 63 [(.pr .row [(.pr (.cell 0) [(.var 0)]), (.pr (.cell 1) [(.var 0)]), (.pr (.cell 2) [(.var 0)])])])])))
      (.giv (.app 1000 [(.pr .row [(.pr (.cell 0) [(.var 1)]), (.pr (.cell 1) [(.var 1)]), (.pr (.cell 2) [(.var 1)]), (.pr (.cell 3) [(.var 1)]), (.pr (.cell 4) [(.var 1)]), (.pr (.cell 5) [(.var 1)]), (.pr (.cell 6) [(.var 1)]), (.pr (.cell 7) [(.var 1)]), (.pr (.cell 8) [(.var 1)])])])
        (.ite (.pr (.icmp .neq) [(.app 13 [(.pr .row [(.pr (.cell 0) [(.var 1)]), (.pr (.cell 1) [(.var 1)]), (.pr (.cell 2) [(.var 1)]), (.pr (.cell 3) [(.var 1)]), (.pr (.cell 4) [(.var 1)]), (.pr (.cell 5) [(.var 1)]), (.pr (.cell 6) [(.var 1)]), (.pr (.cell 7) [(.var 1)]), (.pr (.cell 8) [(.var 1)])])]), (.lit (.int .i64 0))])
          (.leaf (.ret (.pr .row [(.lit (.bool false)), (.app 13 [(.pr .row [(.pr (.cell 0) [(.var 1)]), (.pr (.cell 1) [(.var 1)]), (.pr (.cell 2) [(.var 1)]), (.pr (.cell 3) [(.var 1)]), (.pr (.cell 4) [(.var 1)]), (.pr (.cell 5) [(.var 1)]), (.pr (.cell 6) [(.var 1)]), (.pr (.cell 7) [(.var 1)]), (.pr (.cell 8) [(.var 1)])])])])))
          (.giv (.app 1000 [(.pr .row [(.pr (.cell 0) [(.var 0)]), (.pr (.cell 1) [(.var 0)]), (.pr (.cell 2) [(.var 0)])]), (.pr .row [(.pr (.cell 0) [(.var 1)]), (.pr (.cell 1) [(.var 1)]), (.pr (.cell 2) [(.var 1)]), (.pr (.cell 3) [(.var 1)]), (.pr (.cell 4) [(.var 1)]), (.pr (.cell 5) [(.var 1)]), (.pr (.cell 6) [(.var 1)]), (.pr (.cell 7) [(.var 1)]), (.pr (.cell 8) [(.var 1)])])])
            (.giv (.app 2064 [(.pr .row [(.pr (.cell 0) [(.var 0)]), (.pr (.cell 1) [(.var 0)]), (.pr (.cell 2) [(.var 0)])]), (.pr .row [(.pr (.cell 0) [(.var 1)]), (.pr (.cell 1) [(.var 1)]), (.pr (.cell 2) [(.var 1)]), (.pr (.cell 3) [(.var 1)]), (.pr (.cell 4) [(.var 1)]), (.pr (.cell 5) [(.var 1)]), (.pr (.cell 6) [(.var 1)]), (.pr (.cell 7) [(.var 1)]), (.pr (.cell 8) [(.var 1)])])])
              (.leaf (.ret (.pr .row [(.app 64 [(.pr .row [(.pr (.cell 0) [(.var 0)]), (.pr (.cell 1) [(.var 0)]), (.pr (.cell 2) [(.var 0)])]), (.pr .row [(.pr (.cell 0) [(.var 1)]), (.pr (.cell 1) [(.var 1)]), (.pr (.cell 2) [(.var 1)]), (.pr (.cell 3) [(.var 1)]), (.pr (.cell 4) [(.var 1)]), (.pr (.cell 5) [(.var 1)]), (.pr (.cell 6) [(.var 1)]), (.pr (.cell 7) [(.var 1)]), (.pr (.cell 8) [(.var 1)])])]), (.lit (.int .i64 0))])))))))))
def trees_tHas : List Tree := []
noncomputable def deps_tHas : List Sig := [q_tcheck, q_check, q_thas]
theorem ok_tHas : check q_tHas deps_tHas heads_tHas entry_tHas trees_tHas = true := by kernel_rfl
theorem tHas_ok (n : Nat) : @Ok (I n) q_tHas (okD n) := by
  letI := I n
  refine fn_okS (hphi n) ok_tHas (by
    intro q hq
    simp only [deps_tHas, List.mem_cons, List.not_mem_nil, or_false] at hq
    rcases hq with rfl | rfl | rfl
    · exact okS_of (tcheck_ok n)
    · exact okS_of (check_ok n)
    · exact thas_both n) (fun _ _ _ => False) (fun _ _ => 0) ?_ (fun j h t d ds hj => by simp [heads_tHas] at hj)
  intro ds hf hp
  obtain ⟨t, v, rfl⟩ := typ_val hf
  obtain ⟨h1, h2, h3⟩ := okD_two.1 hp
  have o1 : okD n [t.toD] := okD_one.2 ⟨by omega, h2⟩
  have o2 : okD n [v.toD] := okD_one.2 ⟨by omega, h3⟩
  simp only [entry_tHas, q_tHas, Tree.holds, Out.den, E.den, E.denL, den1, den2, den3, den4, den5, den6, den7, den8, Bool.not_eq_true', Bool.not_eq_false', List.getD_cons_zero, List.getD_cons_succ, true_and, and_true, List.length_map, phi_1000, phi_tHas, tat_0, tat_1, tat_2, toDT_put, toD_put, phi_tcheck, phi_check, phi_thas, pre_thas, o1, o2, hp]
  refine ⟨fun c => ?_, fun c => ⟨fun c' => ?_, fun c' => ⟨⟨checkT_formed c, checkV_formed c'⟩, ?_⟩⟩⟩
  · unfold HasT; rw [if_pos c]
  · unfold HasT; rw [if_neg (by simpa using c), if_pos c']
  · unfold HasT; rw [if_neg (by simpa using c), if_neg (by simpa using c')]
end Go.Proofs.YtaeeblcdggjokaaDoor.Vk
