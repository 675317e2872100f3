/- TypesAny: its function answers true. -/
import Derived.Test.YtaeeblcdggjokaaDoorVkT6
namespace Go.Proofs.YtaeeblcdggjokaaDoor.Vk
open Go Go.Ab Go.RowKit
set_option maxRecDepth 100000
set_option linter.unusedVariables false
set_option linter.unusedSimpArgs false
set_option linter.unusedSectionVars false
set_option linter.constructorNameAsVariable false
def anyT : Typ := .mk 1 [] []
def listT (t : Typ) : Typ := .mk 9 [] [t]
theorem any_put : D.row [iD 1, .lst [], .lst []] = anyT.toD := by rw [toD_rowT]; rfl
theorem listT_put (t : Typ) : D.row [iD 9, .lst [], .lst [t.toD]] = (listT t).toD := by rw [toD_rowT (listT t)]; rfl
theorem formedT_list {t : Typ} (h : formedT t = true) : formedT (listT t) = true := by
  refine ((formedT_iff 9 [] [t]).1 rfl).2 ⟨rfl, rfl, ?_⟩
  rw [formedTL, if_pos h, formedTL]; decide
theorem checkT_two {t : Typ} (h : formedT t = true) : checkT t = 0 ∨ checkT t = 2 := by
  unfold checkT
  rw [if_pos h]
  split
  · split
    · exact .inr rfl
    · split
      · exact .inr rfl
      · exact .inl rfl
  · exact .inr rfl
theorem checkV_two {v : Val} (h : formedV v = true) : checkV v = 0 ∨ checkV v = 2 := by
  unfold checkV
  rw [if_pos h]
  split
  · split
    · exact .inr rfl
    · split
      · exact .inr rfl
      · exact .inl rfl
  · exact .inr rfl
theorem checkT_any : checkT anyT = 0 := by
  have h : spanT anyT = (1, 1, true) := by simp [anyT, spanT, spanTL, ixL]; decide
  have f : formedT anyT = true := by simp [anyT, formedT]
  unfold checkT
  rw [h, f]; rfl
theorem HasT_any (v : Val) : HasT anyT v = if checkV v = 0 then (true, 0) else (false, checkV v) := by
  by_cases c : checkV v = 0
  · rw [HasT_ok checkT_any c, if_pos c, hasT_eq, if_pos (show anyT.kind = 1 from rfl)]
  · unfold HasT
    rw [if_neg (by rw [checkT_any]; simp), if_pos c, if_neg c]
theorem SubT_any (t : Typ) : SubT t anyT = if checkT t = 0 then (true, 0) else (false, checkT t) := by
  unfold SubT
  by_cases c : checkT t = 0
  · rw [if_neg (by simpa using c), if_neg (by rw [checkT_any]; simp), if_pos c, subT_eq, if_pos (.inl rfl)]
  · rw [if_pos c, if_neg c]
theorem SubT_any' (t : Typ) : SubT anyT t = if checkT t = 0 then (decide (t.kind = 1), 0) else (false, checkT t) := by
  unfold SubT
  rw [if_neg (by rw [checkT_any]; simp)]
  by_cases c : checkT t = 0
  · rw [if_neg (by simpa using c), if_pos c, subT_eq]
    by_cases k : t.kind = 1
    · rw [if_pos (.inl k), decide_eq_true k]
    · rw [if_neg (by rintro (h | h); exact k h; exact absurd h.1 (by decide)), if_pos (fun h => k h.symm), decide_eq_false k]
  · rw [if_pos c, if_neg c]
theorem hasT_list (t : Typ) (v : Val) : hasT (listT t) (listV [v]) = hasT t v := by
  have k1 : ¬ (listT t).kind = 1 := fun h => absurd (show (9 : Int) = 1 from h) (by decide)
  have k9 : (listT t).kind = 9 := rfl
  rw [hasT_eq, if_neg k1, if_pos k9]
  show (decide (7 = (7 : Int)) && ([v].all (hasT t))) = _
  simp
theorem HasT_list {t : Typ} {v : Val} (c : checkT t = 0) (c' : checkV v = 0) : (HasT (listT t) (listV [v])).2 = 2 ∨ HasT (listT t) (listV [v]) = (hasT t v, 0) := by
  have f1 := formedT_list (checkT_formed c)
  have f2 : formedV (listV [v]) = true := (formed_listV v).trans (checkV_formed c')
  rcases checkT_two f1 with h | h
  · rcases checkV_two f2 with h' | h'
    · rw [HasT_ok h h', hasT_list]; exact .inr rfl
    · refine .inl ?_
      unfold HasT
      rw [if_neg (by simpa using h), if_pos (by omega), h']
  · refine .inl ?_
    unfold HasT
    rw [if_pos (by omega), h]
/-- calamus/calamuslaw11.TypesAny: func 6, params [26, 41], ntmps 105. -/
def heads_lany : List Hd := []
def entry_lany : Tree :=
  (.giv (.app 1000 [])
    (.giv (.app 1000 [(.pr .row [(.pr (.cell 0) [(.var 0)]), (.pr (.cell 1) [(.var 0)]), (.pr (.cell 2) [(.var 0)])]), (.lit (.int .i64 0)), (.lit (.int .i64 32768)), (.lit (.int .i64 0))])
      (.ite (.pr (.icmp .gtr) [(.app 72 [(.pr .row [(.pr (.cell 0) [(.var 0)]), (.pr (.cell 1) [(.var 0)]), (.pr (.cell 2) [(.var 0)])]), (.lit (.int .i64 0)), (.lit (.int .i64 32768)), (.lit (.int .i64 0))]), (.lit (.int .i64 32768))])
        (.leaf (.ret (.lit (.bool true))))
        (.giv (.app 1000 [(.pr .row [(.pr (.cell 0) [(.var 0)]), (.pr (.cell 1) [(.var 0)]), (.pr (.cell 2) [(.var 0)])])])
          (.ite (.app 73 [(.pr .row [(.pr (.cell 0) [(.var 0)]), (.pr (.cell 1) [(.var 0)]), (.pr (.cell 2) [(.var 0)])])])
            (.leaf (.ret (.lit (.bool true))))
            (.giv (.app 1000 [(.pr .row [(.pr (.cell 0) [(.var 1)]), (.pr (.cell 1) [(.var 1)]), (.pr (.cell 2) [(.var 1)]), (.pr (.cell 3) [(.var 1)]), (.pr (.cell 4) [(.var 1)]), (.pr (.cell 5) [(.var 1)]), (.pr (.cell 6) [(.var 1)]), (.pr (.cell 7) [(.var 1)]), (.pr (.cell 8) [(.var 1)])]), (.lit (.int .i64 0)), (.lit (.int .i64 65536)), (.lit (.int .i64 0))])
              (.ite (.pr (.icmp .gtr) [(.app 11 [(.pr .row [(.pr (.cell 0) [(.var 1)]), (.pr (.cell 1) [(.var 1)]), (.pr (.cell 2) [(.var 1)]), (.pr (.cell 3) [(.var 1)]), (.pr (.cell 4) [(.var 1)]), (.pr (.cell 5) [(.var 1)]), (.pr (.cell 6) [(.var 1)]), (.pr (.cell 7) [(.var 1)]), (.pr (.cell 8) [(.var 1)])]), (.lit (.int .i64 0)), (.lit (.int .i64 65536)), (.lit (.int .i64 0))]), (.lit (.int .i64 65536))])
                (.leaf (.ret (.lit (.bool true))))
                (.giv (.app 1000 [(.pr .row [(.pr (.cell 0) [(.var 1)]), (.pr (.cell 1) [(.var 1)]), (.pr (.cell 2) [(.var 1)]), (.pr (.cell 3) [(.var 1)]), (.pr (.cell 4) [(.var 1)]), (.pr (.cell 5) [(.var 1)]), (.pr (.cell 6) [(.var 1)]), (.pr (.cell 7) [(.var 1)]), (.pr (.cell 8) [(.var 1)])])])
                  (.ite (.app 12 [(.pr .row [(.pr (.cell 0) [(.var 1)]), (.pr (.cell 1) [(.var 1)]), (.pr (.cell 2) [(.var 1)]), (.pr (.cell 3) [(.var 1)]), (.pr (.cell 4) [(.var 1)]), (.pr (.cell 5) [(.var 1)]), (.pr (.cell 6) [(.var 1)]), (.pr (.cell 7) [(.var 1)]), (.pr (.cell 8) [(.var 1)])])])
                    (.leaf (.ret (.lit (.bool true))))
                    (.giv (.app 1000 [(.pr .row [(.lit (.int .i64 1)), (.pr .lst []), (.pr .lst [])]), (.pr .row [(.pr (.cell 0) [(.var 1)]), (.pr (.cell 1) [(.var 1)]), (.pr (.cell 2) [(.var 1)]), (.pr (.cell 3) [(.var 1)]), (.pr (.cell 4) [(.var 1)]), (.pr (.cell 5) [(.var 1)]), (.pr (.cell 6) [(.var 1)]), (.pr (.cell 7) [(.var 1)]), (.pr (.cell 8) [(.var 1)])])])
                      (.giv (.app 1000 [(.pr .row [(.pr (.cell 0) [(.var 0)]), (.pr (.cell 1) [(.var 0)]), (.pr (.cell 2) [(.var 0)])]), (.pr .row [(.lit (.int .i64 1)), (.pr .lst []), (.pr .lst [])])])
                        (.giv (.app 1000 [(.pr .row [(.lit (.int .i64 1)), (.pr .lst []), (.pr .lst [])]), (.pr .row [(.pr (.cell 0) [(.var 0)]), (.pr (.cell 1) [(.var 0)]), (.pr (.cell 2) [(.var 0)])])])
                          (.giv (.app 1000 [(.pr .row [(.pr (.cell 0) [(.var 0)]), (.pr (.cell 1) [(.var 0)]), (.pr (.cell 2) [(.var 0)])]), (.pr .row [(.pr (.cell 0) [(.var 1)]), (.pr (.cell 1) [(.var 1)]), (.pr (.cell 2) [(.var 1)]), (.pr (.cell 3) [(.var 1)]), (.pr (.cell 4) [(.var 1)]), (.pr (.cell 5) [(.var 1)]), (.pr (.cell 6) [(.var 1)]), (.pr (.cell 7) [(.var 1)]), (.pr (.cell 8) [(.var 1)])])])
                            (.giv (.app 1000 [(.pr .row [(.lit (.int .i64 9)), (.pr .lst []), (.pr .lst [(.pr .row [(.pr (.cell 0) [(.var 0)]), (.pr (.cell 1) [(.var 0)]), (.pr (.cell 2) [(.var 0)])])])]), (.pr .row [(.lit (.int .i64 7)), (.lit (.bool false)), (.lit (.bool false)), (.lit (.string .empty)), (.lit (.int .i64 0)), (.lit (.int .u64 0)), (.lit (.string .empty)), (.pr .lst []), (.pr .lst [(.pr .row [(.pr (.cell 0) [(.var 1)]), (.pr (.cell 1) [(.var 1)]), (.pr (.cell 2) [(.var 1)]), (.pr (.cell 3) [(.var 1)]), (.pr (.cell 4) [(.var 1)]), (.pr (.cell 5) [(.var 1)]), (.pr (.cell 6) [(.var 1)]), (.pr (.cell 7) [(.var 1)]), (.pr (.cell 8) [(.var 1)])])])])])
                              (.ite (.pr (.icmp .neq) [(.pr (.cell 1) [(.app 67 [(.pr .row [(.lit (.int .i64 1)), (.pr .lst []), (.pr .lst [])]), (.pr .row [(.pr (.cell 0) [(.var 1)]), (.pr (.cell 1) [(.var 1)]), (.pr (.cell 2) [(.var 1)]), (.pr (.cell 3) [(.var 1)]), (.pr (.cell 4) [(.var 1)]), (.pr (.cell 5) [(.var 1)]), (.pr (.cell 6) [(.var 1)]), (.pr (.cell 7) [(.var 1)]), (.pr (.cell 8) [(.var 1)])])])]), (.lit (.int .i64 0))])
                                (.ite (.app 74 [])
                                  (.leaf (.ret (.pr (.bcmp .eql) [(.pr (.cell 0) [(.app 67 [(.pr .row [(.lit (.int .i64 1)), (.pr .lst []), (.pr .lst [])]), (.pr .row [(.pr (.cell 0) [(.var 1)]), (.pr (.cell 1) [(.var 1)]), (.pr (.cell 2) [(.var 1)]), (.pr (.cell 3) [(.var 1)]), (.pr (.cell 4) [(.var 1)]), (.pr (.cell 5) [(.var 1)]), (.pr (.cell 6) [(.var 1)]), (.pr (.cell 7) [(.var 1)]), (.pr (.cell 8) [(.var 1)])])])]), (.pr (.icmp .eql) [(.pr (.cell 1) [(.app 67 [(.pr .row [(.lit (.int .i64 1)), (.pr .lst []), (.pr .lst [])]), (.pr .row [(.pr (.cell 0) [(.var 1)]), (.pr (.cell 1) [(.var 1)]), (.pr (.cell 2) [(.var 1)]), (.pr (.cell 3) [(.var 1)]), (.pr (.cell 4) [(.var 1)]), (.pr (.cell 5) [(.var 1)]), (.pr (.cell 6) [(.var 1)]), (.pr (.cell 7) [(.var 1)]), (.pr (.cell 8) [(.var 1)])])])]), (.lit (.int .i64 0))])])))
                                  (.leaf (.ret (.lit (.bool false)))))
                                (.ite (.pr (.icmp .neq) [(.pr (.cell 1) [(.app 71 [(.pr .row [(.pr (.cell 0) [(.var 0)]), (.pr (.cell 1) [(.var 0)]), (.pr (.cell 2) [(.var 0)])]), (.pr .row [(.lit (.int .i64 1)), (.pr .lst []), (.pr .lst [])])])]), (.lit (.int .i64 0))])
                                  (.ite (.app 74 [])
                                    (.leaf (.ret (.pr (.bcmp .eql) [(.pr (.cell 0) [(.app 67 [(.pr .row [(.lit (.int .i64 1)), (.pr .lst []), (.pr .lst [])]), (.pr .row [(.pr (.cell 0) [(.var 1)]), (.pr (.cell 1) [(.var 1)]), (.pr (.cell 2) [(.var 1)]), (.pr (.cell 3) [(.var 1)]), (.pr (.cell 4) [(.var 1)]), (.pr (.cell 5) [(.var 1)]), (.pr (.cell 6) [(.var 1)]), (.pr (.cell 7) [(.var 1)]), (.pr (.cell 8) [(.var 1)])])])]), (.pr (.icmp .eql) [(.pr (.cell 1) [(.app 67 [(.pr .row [(.lit (.int .i64 1)), (.pr .lst []), (.pr .lst [])]), (.pr .row [(.pr (.cell 0) [(.var 1)]), (.pr (.cell 1) [(.var 1)]), (.pr (.cell 2) [(.var 1)]), (.pr (.cell 3) [(.var 1)]), (.pr (.cell 4) [(.var 1)]), (.pr (.cell 5) [(.var 1)]), (.pr (.cell 6) [(.var 1)]), (.pr (.cell 7) [(.var 1)]), (.pr (.cell 8) [(.var 1)])])])]), (.lit (.int .i64 0))])])))
                                    (.leaf (.ret (.lit (.bool false)))))
                                  (.ite (.pr (.icmp .neq) [(.pr (.cell 1) [(.app 71 [(.pr .row [(.lit (.int .i64 1)), (.pr .lst []), (.pr .lst [])]), (.pr .row [(.pr (.cell 0) [(.var 0)]), (.pr (.cell 1) [(.var 0)]), (.pr (.cell 2) [(.var 0)])])])]), (.lit (.int .i64 0))])
                                    (.ite (.app 74 [])
                                      (.leaf (.ret (.pr (.bcmp .eql) [(.pr (.cell 0) [(.app 67 [(.pr .row [(.lit (.int .i64 1)), (.pr .lst []), (.pr .lst [])]), (.pr .row [(.pr (.cell 0) [(.var 1)]), (.pr (.cell 1) [(.var 1)]), (.pr (.cell 2) [(.var 1)]), (.pr (.cell 3) [(.var 1)]), (.pr (.cell 4) [(.var 1)]), (.pr (.cell 5) [(.var 1)]), (.pr (.cell 6) [(.var 1)]), (.pr (.cell 7) [(.var 1)]), (.pr (.cell 8) [(.var 1)])])])]), (.pr (.icmp .eql) [(.pr (.cell 1) [(.app 67 [(.pr .row [(.lit (.int .i64 1)), (.pr .lst []), (.pr .lst [])]), (.pr .row [(.pr (.cell 0) [(.var 1)]), (.pr (.cell 1) [(.var 1)]), (.pr (.cell 2) [(.var 1)]), (.pr (.cell 3) [(.var 1)]), (.pr (.cell 4) [(.var 1)]), (.pr (.cell 5) [(.var 1)]), (.pr (.cell 6) [(.var 1)]), (.pr (.cell 7) [(.var 1)]), (.pr (.cell 8) [(.var 1)])])])]), (.lit (.int .i64 0))])])))
                                      (.leaf (.ret (.lit (.bool false)))))
                                    (.ite (.pr (.icmp .neq) [(.pr (.cell 1) [(.app 67 [(.pr .row [(.pr (.cell 0) [(.var 0)]), (.pr (.cell 1) [(.var 0)]), (.pr (.cell 2) [(.var 0)])]), (.pr .row [(.pr (.cell 0) [(.var 1)]), (.pr (.cell 1) [(.var 1)]), (.pr (.cell 2) [(.var 1)]), (.pr (.cell 3) [(.var 1)]), (.pr (.cell 4) [(.var 1)]), (.pr (.cell 5) [(.var 1)]), (.pr (.cell 6) [(.var 1)]), (.pr (.cell 7) [(.var 1)]), (.pr (.cell 8) [(.var 1)])])])]), (.lit (.int .i64 0))])
                                      (.ite (.app 74 [])
                                        (.leaf (.ret (.pr (.bcmp .eql) [(.pr (.cell 0) [(.app 67 [(.pr .row [(.lit (.int .i64 1)), (.pr .lst []), (.pr .lst [])]), (.pr .row [(.pr (.cell 0) [(.var 1)]), (.pr (.cell 1) [(.var 1)]), (.pr (.cell 2) [(.var 1)]), (.pr (.cell 3) [(.var 1)]), (.pr (.cell 4) [(.var 1)]), (.pr (.cell 5) [(.var 1)]), (.pr (.cell 6) [(.var 1)]), (.pr (.cell 7) [(.var 1)]), (.pr (.cell 8) [(.var 1)])])])]), (.pr (.icmp .eql) [(.pr (.cell 1) [(.app 67 [(.pr .row [(.lit (.int .i64 1)), (.pr .lst []), (.pr .lst [])]), (.pr .row [(.pr (.cell 0) [(.var 1)]), (.pr (.cell 1) [(.var 1)]), (.pr (.cell 2) [(.var 1)]), (.pr (.cell 3) [(.var 1)]), (.pr (.cell 4) [(.var 1)]), (.pr (.cell 5) [(.var 1)]), (.pr (.cell 6) [(.var 1)]), (.pr (.cell 7) [(.var 1)]), (.pr (.cell 8) [(.var 1)])])])]), (.lit (.int .i64 0))])])))
                                        (.leaf (.ret (.lit (.bool false)))))
                                      (.ite (.app 74 [])
                                        (.ite (.pr (.cell 0) [(.app 67 [(.pr .row [(.lit (.int .i64 1)), (.pr .lst []), (.pr .lst [])]), (.pr .row [(.pr (.cell 0) [(.var 1)]), (.pr (.cell 1) [(.var 1)]), (.pr (.cell 2) [(.var 1)]), (.pr (.cell 3) [(.var 1)]), (.pr (.cell 4) [(.var 1)]), (.pr (.cell 5) [(.var 1)]), (.pr (.cell 6) [(.var 1)]), (.pr (.cell 7) [(.var 1)]), (.pr (.cell 8) [(.var 1)])])])])
                                          (.ite (.pr (.cell 0) [(.app 71 [(.pr .row [(.pr (.cell 0) [(.var 0)]), (.pr (.cell 1) [(.var 0)]), (.pr (.cell 2) [(.var 0)])]), (.pr .row [(.lit (.int .i64 1)), (.pr .lst []), (.pr .lst [])])])])
                                            (.ite (.pr (.bcmp .eql) [(.pr (.cell 0) [(.app 71 [(.pr .row [(.lit (.int .i64 1)), (.pr .lst []), (.pr .lst [])]), (.pr .row [(.pr (.cell 0) [(.var 0)]), (.pr (.cell 1) [(.var 0)]), (.pr (.cell 2) [(.var 0)])])])]), (.pr (.icmp .eql) [(.pr (.cell 0) [(.var 0)]), (.lit (.int .i64 1))])])
                                              (.ite (.pr (.icmp .eql) [(.pr (.cell 1) [(.app 67 [(.pr .row [(.lit (.int .i64 9)), (.pr .lst []), (.pr .lst [(.pr .row [(.pr (.cell 0) [(.var 0)]), (.pr (.cell 1) [(.var 0)]), (.pr (.cell 2) [(.var 0)])])])]), (.pr .row [(.lit (.int .i64 7)), (.lit (.bool false)), (.lit (.bool false)), (.lit (.string .empty)), (.lit (.int .i64 0)), (.lit (.int .u64 0)), (.lit (.string .empty)), (.pr .lst []), (.pr .lst [(.pr .row [(.pr (.cell 0) [(.var 1)]), (.pr (.cell 1) [(.var 1)]), (.pr (.cell 2) [(.var 1)]), (.pr (.cell 3) [(.var 1)]), (.pr (.cell 4) [(.var 1)]), (.pr (.cell 5) [(.var 1)]), (.pr (.cell 6) [(.var 1)]), (.pr (.cell 7) [(.var 1)]), (.pr (.cell 8) [(.var 1)])])])])])]), (.lit (.int .i64 2))])
                                                (.leaf (.ret (.lit (.bool true))))
                                                (.ite (.pr (.icmp .eql) [(.pr (.cell 1) [(.app 67 [(.pr .row [(.lit (.int .i64 9)), (.pr .lst []), (.pr .lst [(.pr .row [(.pr (.cell 0) [(.var 0)]), (.pr (.cell 1) [(.var 0)]), (.pr (.cell 2) [(.var 0)])])])]), (.pr .row [(.lit (.int .i64 7)), (.lit (.bool false)), (.lit (.bool false)), (.lit (.string .empty)), (.lit (.int .i64 0)), (.lit (.int .u64 0)), (.lit (.string .empty)), (.pr .lst []), (.pr .lst [(.pr .row [(.pr (.cell 0) [(.var 1)]), (.pr (.cell 1) [(.var 1)]), (.pr (.cell 2) [(.var 1)]), (.pr (.cell 3) [(.var 1)]), (.pr (.cell 4) [(.var 1)]), (.pr (.cell 5) [(.var 1)]), (.pr (.cell 6) [(.var 1)]), (.pr (.cell 7) [(.var 1)]), (.pr (.cell 8) [(.var 1)])])])])])]), (.lit (.int .i64 0))])
                                                  (.leaf (.ret (.pr (.bcmp .eql) [(.pr (.cell 0) [(.app 67 [(.pr .row [(.pr (.cell 0) [(.var 0)]), (.pr (.cell 1) [(.var 0)]), (.pr (.cell 2) [(.var 0)])]), (.pr .row [(.pr (.cell 0) [(.var 1)]), (.pr (.cell 1) [(.var 1)]), (.pr (.cell 2) [(.var 1)]), (.pr (.cell 3) [(.var 1)]), (.pr (.cell 4) [(.var 1)]), (.pr (.cell 5) [(.var 1)]), (.pr (.cell 6) [(.var 1)]), (.pr (.cell 7) [(.var 1)]), (.pr (.cell 8) [(.var 1)])])])]), (.pr (.cell 0) [(.app 67 [(.pr .row [(.lit (.int .i64 9)), (.pr .lst []), (.pr .lst [(.pr .row [(.pr (.cell 0) [(.var 0)]), (.pr (.cell 1) [(.var 0)]), (.pr (.cell 2) [(.var 0)])])])]), (.pr .row [(.lit (.int .i64 7)), (.lit (.bool false)), (.lit (.bool false)), (.lit (.string .empty)), (.lit (.int .i64 0)), (.lit (.int .u64 0)), (.lit (.string .empty)), (.pr .lst []), (.pr .lst [(.pr .row [(.pr (.cell 0) [(.var 1)]), (.pr (.cell 1) [(.var 1)]), (.pr (.cell 2) [(.var 1)]), (.pr (.cell 3) [(.var 1)]), (.pr (.cell 4) [(.var 1)]), (.pr (.cell 5) [(.var 1)]), (.pr (.cell 6) [(.var 1)]), (.pr (.cell 7) [(.var 1)]), (.pr (.cell 8) [(.var 1)])])])])])])])))
                                                  (.leaf (.ret (.lit (.bool false))))))
                                              (.leaf (.ret (.lit (.bool false)))))
                                            (.leaf (.ret (.lit (.bool false)))))
                                          (.leaf (.ret (.lit (.bool false)))))
                                        (.leaf (.ret (.lit (.bool false)))))))))))))))))))))))
def trees_lany : List Tree := []
noncomputable def deps_lany : List Sig := [q_tSub, q_tHas, q_kparts, q_kwide, q_tawake, q_parts, q_many]
theorem ok_lany : check q_lany deps_lany heads_lany entry_lany trees_lany = true := by kernel_rfl
theorem lany_ok (n : Nat) : @Ok (I n) q_lany (fun ds => 4 * D.szL ds + 200 ≤ n ∧ D.LimL ds) := by
  letI := I n
  refine fn_ok (hphi n) ok_lany (by
    intro q hq
    simp only [deps_lany, List.mem_cons, List.not_mem_nil, or_false] at hq
    rcases hq with rfl | rfl | rfl | rfl | rfl | rfl | rfl
    · exact tSub_ok n
    · exact tHas_ok n
    · exact kparts_ok n
    · exact kwide_ok n
    · exact tawake_ok n _
    · exact parts_ok n
    · exact many_ok n) (fun _ _ _ => False) (fun _ _ => 0) ?_ (fun j h t d ds hj => by simp [heads_lany] at hj)
  intro ds hf hp
  obtain ⟨t, v, rfl⟩ := typ_val hf
  obtain ⟨hp1, hp2, hp3⟩ := hp
  simp only [D.szL, D.LimL, and_true] at hp1 hp2 hp3
  have oz : okD n [] := ⟨by simp only [D.szL]; omega, by simp only [D.LimL]⟩
  have ot : okD n [t.toD, iD 0, iD 32768, iD 0] := okD_typ3.2 ⟨by omega, hp2⟩
  have ov : okD n [v.toD, iD 0, iD 65536, iD 0] := okD_val3.2 ⟨by omega, hp3⟩
  have ot1 : okD n [t.toD] := okD_one.2 ⟨by omega, hp2⟩
  have ov1 : okD n [v.toD] := okD_one.2 ⟨by omega, hp3⟩
  have otv : okD n [t.toD, v.toD] := okD_two.2 ⟨by omega, hp2, hp3⟩
  have sa : anyT.toD.sz = 4 := by rw [sz_toDT]; rfl
  have la : anyT.toD.Lim := (lim_toDT _).2 ⟨lim_strs.2 ⟨Nat.zero_le _, fun x hx => by cases hx⟩, lim_typs.2 ⟨Nat.zero_le _, fun x hx => by cases hx⟩⟩
  have oav : okD n [anyT.toD, v.toD] := okD_two.2 ⟨by omega, la, hp3⟩
  have oat : okD n [anyT.toD, t.toD] := okD_two.2 ⟨by omega, la, hp2⟩
  have ota : okD n [t.toD, anyT.toD] := okD_two.2 ⟨by omega, hp2, la⟩
  have sl : (listT t).toD.sz = t.toD.sz + 4 := by
    rw [sz_toDT]
    show 2 + (strsD []).sz + (typsD [t]).sz = _
    have e1 : (strsD []).sz = 1 := rfl
    have e2 : (typsD [t]).sz = t.toD.sz + 1 := by rw [sz_lst]; simp only [List.map_cons, List.map_nil, D.szL, Nat.add_zero]
    omega
  have ll : (listT t).toD.Lim := (lim_toDT _).2 ⟨lim_strs.2 ⟨Nat.zero_le _, fun x hx => by cases hx⟩, lim_typs.2 ⟨by show 1 ≤ lim; decide, fun x hx => by rw [List.mem_singleton.1 hx]; exact hp2⟩⟩
  have oll : okD n [(listT t).toD, (listV [v]).toD] := okD_two.2 ⟨by rw [sl, sz_listV]; omega, ll, lim_listV hp3⟩
  simp only [entry_lany, q_lany, Tree.holds, Out.den, E.den, E.denL, den1, den2, den3, den4, den5, den6, den7, den8, Bool.not_eq_true', Bool.not_eq_false', List.getD_cons_zero, List.getD_cons_succ, true_and, and_true, List.length_map, phi_1000, tat_0, tat_1, tat_2, toDT_put, toD_put, any_put, listT_put, list_put1, phi_kparts, phi_kwide, phi_parts, phi_many, phi_tSub, phi_tHas, phi_tawake, phi_lany, oz, ot, ov, ot1, ov1, otv, oav, oat, ota, oll, row_at0, row_at1]
  have hA : ((HasT anyT v).1 == eqI (HasT anyT v).2 0) = true := by
    rw [HasT_any]
    by_cases c : checkV v = 0
    · rw [if_pos c]; rfl
    · rw [if_neg c]
      show (false == eqI (checkV v) 0) = true
      rw [eqI_f.2 c]; rfl
  have ff : true = false → false = true := fun h => by cases h
  refine ⟨fun _ => trivial, fun _ => ⟨fun _ => trivial, fun _ => ⟨fun _ => trivial, fun _ => ⟨fun _ => trivial, fun _ => ⟨fun _ => ⟨fun _ => hA, ff⟩, fun h1 => ⟨fun _ => ⟨fun _ => hA, ff⟩, fun h2 => ⟨fun _ => ⟨fun _ => hA, ff⟩, fun h3 => ⟨fun _ => ⟨fun _ => hA, ff⟩, fun h4 => ⟨fun _ => ?_, ff⟩⟩⟩⟩⟩⟩⟩⟩⟩
  have c' : checkV v = 0 := by
    by_cases c : checkV v = 0
    · exact c
    · rw [HasT_any, if_neg c] at h1; exact h1
  have c : checkT t = 0 := by
    by_cases c : checkT t = 0
    · exact c
    · rw [SubT_any, if_neg c] at h2; exact h2
  rw [HasT_any, if_pos c', SubT_any, if_pos c, SubT_any', if_pos c, HasT_ok c c']
  have hl := HasT_list c c'
  refine ⟨fun _ => ⟨fun _ => ⟨fun _ => ⟨fun _ => trivial, fun h5 => ⟨fun _ => ?_, fun h6 => ?_⟩⟩, fun h => ?_⟩, fun h => by cases h⟩, fun h => by cases h⟩
  · rcases hl with h | h
    · exact absurd h h5
    · rw [h]; simp
  · rcases hl with h | h
    · exact absurd h h5
    · exact absurd (by rw [h]) h6
  · simp [eqI] at h
end Go.Proofs.YtaeeblcdggjokaaDoor.Vk
