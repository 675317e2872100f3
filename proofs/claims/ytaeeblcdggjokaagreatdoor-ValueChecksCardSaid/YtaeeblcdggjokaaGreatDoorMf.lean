/- Contracts of the reference: long, Is, Begins, Decode, Valid. -/
import Derived.Test.YtaeeblcdggjokaaGreatDoorMe
import Derived.Test.YtaeeblcdggjokaaGreatDoorMd
import Derived.Test.YtaeeblcdggjokaaGreatDoorCards
import Derived.Test.YtaeeblcdggjokaaGreatDoorTie
import Derived.KernelRfl
import Derived.ProofKit
import Derived.Deep.DeepHandedRow
import Derived.Lay
import Derived.SevenTiedAt
namespace Go.Proofs.YtaeeblcdggjokaaGreatDoor.Vk
open Go Go.Ab Go.RowKit
set_option maxRecDepth 100000
set_option linter.unusedVariables false
set_option linter.unusedSimpArgs false
set_option linter.unusedSectionVars false
set_option linter.constructorNameAsVariable false
/-- calamus/calamusref03.long: func 129, params [5], ntmps 27. -/
def heads_rlong : List Hd := []
def entry_rlong : Tree :=
 (.ite (.pr (.icmp .lss) [(.var 0), (.lit (.int .u8 128))])
 (.leaf (.ret (.lit (.int .i64 1))))
 (.ite (.pr (.icmp .geq) [(.var 0), (.lit (.int .u8 192))])
 (.ite (.pr (.icmp .lss) [(.var 0), (.lit (.int .u8 224))])
 (.leaf (.ret (.lit (.int .i64 2))))
 (.ite (.pr (.icmp .geq) [(.var 0), (.lit (.int .u8 224))])
 (.ite (.pr (.icmp .lss) [(.var 0), (.lit (.int .u8 240))])
 (.leaf (.ret (.lit (.int .i64 3))))
 (.ite (.pr (.icmp .geq) [(.var 0), (.lit (.int .u8 240))])
 (.ite (.pr (.icmp .lss) [(.var 0), (.lit (.int .u8 248))])
 (.leaf (.ret (.lit (.int .i64 4))))
 (.leaf (.ret (.lit (.int .i64 0)))))
 (.leaf (.ret (.lit (.int .i64 0))))))
 (.ite (.pr (.icmp .geq) [(.var 0), (.lit (.int .u8 240))])
 (.ite (.pr (.icmp .lss) [(.var 0), (.lit (.int .u8 248))])
 (.leaf (.ret (.lit (.int .i64 4))))
 (.leaf (.ret (.lit (.int .i64 0)))))
 (.leaf (.ret (.lit (.int .i64 0)))))))
 (.ite (.pr (.icmp .geq) [(.var 0), (.lit (.int .u8 224))])
 (.ite (.pr (.icmp .lss) [(.var 0), (.lit (.int .u8 240))])
 (.leaf (.ret (.lit (.int .i64 3))))
 (.ite (.pr (.icmp .geq) [(.var 0), (.lit (.int .u8 240))])
 (.ite (.pr (.icmp .lss) [(.var 0), (.lit (.int .u8 248))])
 (.leaf (.ret (.lit (.int .i64 4))))
 (.leaf (.ret (.lit (.int .i64 0)))))
 (.leaf (.ret (.lit (.int .i64 0))))))
 (.ite (.pr (.icmp .geq) [(.var 0), (.lit (.int .u8 240))])
 (.ite (.pr (.icmp .lss) [(.var 0), (.lit (.int .u8 248))])
 (.leaf (.ret (.lit (.int .i64 4))))
 (.leaf (.ret (.lit (.int .i64 0)))))
 (.leaf (.ret (.lit (.int .i64 0))))))))
def trees_rlong : List Tree := []
noncomputable def deps_rlong : List Sig := []
theorem ok_rlong : check q_rlong deps_rlong heads_rlong entry_rlong trees_rlong = true := by kernel_rfl
theorem rlong_ok (n : Nat) : @Ok (I n) q_rlong (okD n) := by
  letI := I n
  refine fn_ok (hphi n) ok_rlong (by intro q hq; simp [deps_rlong] at hq) (fun _ _ _ => False) (fun _ _ => 0) ?_ (fun j h t d ds hj => by simp [heads_rlong] at hj)
  intro ds hf hp
  obtain ⟨i, rfl⟩ : ∃ i, ds = [.v (.int .u8 i)] := by
    match ds, hf with
    | [a], ⟨h1, _⟩ =>
      obtain ⟨l, rfl⟩ := fits_int h1
      exact ⟨l, rfl⟩
  simp only [entry_rlong, q_rlong, Tree.holds, Out.den, E.den, E.denL, den1, den2, den3, den4, den5, den6, den7, den8, Bool.not_eq_true', Bool.not_eq_false', List.getD_cons_zero, List.getD_cons_succ, true_and, and_true, List.length_map, phi_1000, phi_rlong]
  have key : ∀ x : Int, (x = longV i.toNat) → iD x = iD (longV i.toNat) := fun x h => by rw [h]
  repeat' first | apply And.intro | intro _
  all_goals (apply key; unfold longV; repeat' split)
  all_goals omega
/-- calamus/calamusref03.Is: func 131, params [3], ntmps 17. -/
def heads_ris : List Hd := []
def entry_ris : Tree :=
 (.ite (.pr (.icmp .geq) [(.var 0), (.lit (.int .i64 0))])
 (.ite (.pr (.icmp .leq) [(.var 0), (.lit (.int .i64 1114111))])
 (.ite (.pr (.icmp .lss) [(.var 0), (.lit (.int .i64 55296))])
 (.leaf (.ret (.lit (.bool true))))
 (.leaf (.ret (.pr (.icmp .gtr) [(.var 0), (.lit (.int .i64 57343))]))))
 (.leaf (.ret (.lit (.bool false)))))
 (.leaf (.ret (.lit (.bool false)))))
def trees_ris : List Tree := []
noncomputable def deps_ris : List Sig := []
theorem ok_ris : check q_ris deps_ris heads_ris entry_ris trees_ris = true := by kernel_rfl
theorem ris_ok (n : Nat) : @Ok (I n) q_ris (okD n) := by
  letI := I n
  refine fn_ok (hphi n) ok_ris (by intro q hq; simp [deps_ris] at hq) (fun _ _ _ => False) (fun _ _ => 0) ?_ (fun j h t d ds hj => by simp [heads_ris] at hj)
  intro ds hf hp
  obtain ⟨i, rfl⟩ := one_int hf
  simp only [entry_ris, q_ris, Tree.holds, Out.den, E.den, E.denL, den1, den2, den3, den4, den5, den6, den7, den8, Bool.not_eq_true', Bool.not_eq_false', List.getD_cons_zero, List.getD_cons_succ, true_and, and_true, List.length_map, phi_1000, phi_ris]
  have key : ∀ x : Bool, (x = true ↔ isR i = true) → bD x = bD (isR i) := fun x h => by rw [Bool.eq_iff_iff.2 h]
  have e : isR i = true ↔ 0 ≤ i ∧ i ≤ 1114111 ∧ (i < 55296 ∨ 57343 < i) := by unfold isR; rw [decide_eq_true_iff]
  repeat' first | apply And.intro | intro _
  all_goals (apply key; rw [e]; simp only [ltI_t, Bool.false_eq_true, false_iff, true_iff, iff_true, iff_false]; omega)
def reps (k : Nat) (c : UInt8) : ByteArray := ⟨(List.replicate k c).toArray⟩
theorem reps_size (k : Nat) (c : UInt8) : (reps k c).size = k := by
  unfold reps
  show (List.replicate k c).toArray.size = _
  simp
theorem reps_succ (s : ByteArray) (k : Nat) (c : UInt8) : s ++ reps k c ++ mkS [c.toNat] = s ++ reps (k + 1) c := by
  refine ByteArray.ext (Array.toList_inj.1 ?_)
  rw [cat_list, cat_list, cat_list]
  unfold reps mkS
  simp [List.replicate_succ']
theorem reps_zero (s : ByteArray) (c : UInt8) : s ++ reps 0 c = s := by
  refine ByteArray.ext (Array.toList_inj.1 ?_)
  rw [cat_list]
  unfold reps
  simp
theorem padV_eq (s : ByteArray) (n : Nat) (c : UInt8) : padV s n c = s ++ reps (n - s.size) c := rfl
theorem longV_nat (c : Nat) : ∃ m : Nat, longV c = m ∧ m ≤ 4 := by
  unfold longV
  repeat' split
  · exact ⟨1, rfl, by omega⟩
  · exact ⟨2, rfl, by omega⟩
  · exact ⟨3, rfl, by omega⟩
  · exact ⟨4, rfl, by omega⟩
  · exact ⟨0, rfl, by omega⟩
theorem ok_two {n : Nat} {s : ByteArray} {i : Int} (h : 2 < n) (hl : s.size ≤ lim) : okD n [sD s, iD i] := okD_two.2 ⟨by simp only [D.sz]; omega, lim_sD.2 hl, trivial⟩
theorem ok_num {n : Nat} {k : IntKind} {i : Int} (h : 1 < n) : okD n [.v (.int k i)] := okD_one.2 ⟨by simp only [D.sz]; omega, trivial⟩
/-- calamus/calamusref03.Begins: func 133, params [9], ntmps 87. -/
-- head 0 of loop 0: [t0 .sh (.cell (.sc .s)), t3 .sh (.cell (.sc (.i .i64))), t4 .sh (.cell (.sc .s)), t5 .sh (.cell (.sc .s))]
-- head 1 of loop 1: [t0 .sh (.cell (.sc .s)), t3 .sh (.cell (.sc (.i .i64))), t6 .sh (.cell (.sc (.i .i64))), t7 .sh (.cell (.sc (.i .i64))), t8 .sh (.cell (.sc (.i .i64)))]
def heads_rbegins : List Hd := [⟨0, [.sh (.cell (.sc .s)), .any, .any, .sh (.cell (.sc (.i .i64))), .sh (.cell (.sc .s)), .sh (.cell (.sc .s)), .any, .any, .any, .any, .any, .any, .any, .any, .any, .any, .any, .any, .any, .any, .any, .any, .any, .any, .any, .any, .any, .any, .any, .any, .any, .any, .any, .any, .any, .any, .any, .any, .any, .any, .any, .any, .any, .any, .any, .any, .any, .any, .any, .any, .any, .any, .any, .any, .any, .any, .any, .any, .any, .any, .any, .any, .any, .any, .any, .any, .any, .any, .any, .any, .any, .any, .any, .any, .any, .any, .any, .any, .any, .any, .any, .any, .any, .any, .any, .any, .any]⟩, ⟨1, [.sh (.cell (.sc .s)), .any, .any, .sh (.cell (.sc (.i .i64))), .any, .any, .sh (.cell (.sc (.i .i64))), .sh (.cell (.sc (.i .i64))), .sh (.cell (.sc (.i .i64))), .any, .any, .any, .any, .any, .any, .any, .any, .any, .any, .any, .any, .any, .any, .any, .any, .any, .any, .any, .any, .any, .any, .any, .any, .any, .any, .any, .any, .any, .any, .any, .any, .any, .any, .any, .any, .any, .any, .any, .any, .any, .any, .any, .any, .any, .any, .any, .any, .any, .any, .any, .any, .any, .any, .any, .any, .any, .any, .any, .any, .any, .any, .any, .any, .any, .any, .any, .any, .any, .any, .any, .any, .any, .any, .any, .any, .any, .any]⟩]
def entry_rbegins : Tree :=
 (.giv (.pr (.icmp .lss) [(.lit (.int .i64 0)), (.pr .slen [(.var 0)])])
 (.giv (.app 1000 [(.pr .sat [(.var 0), (.lit (.int .i64 0))])])
 (.ite (.pr (.icmp .geq) [(.pr .slen [(.var 0)]), (.app 54 [(.pr .sat [(.var 0), (.lit (.int .i64 0))])])])
 (.leaf (.ret (.lit (.bool false))))
 (.leaf (.go 0 [(.var 0), (.app 54 [(.pr .sat [(.var 0), (.lit (.int .i64 0))])]), (.var 0), (.var 0)])))))
def head_rbegins_0 : Tree :=
 (.ite (.pr (.icmp .lss) [(.pr .slen [(.var 2)]), (.var 1)])
 (.giv (.pr (.icmp .leq) [(.pr .slen [(.var 2)]), (.lit (.int .i64 1099511627776))])
 (.giv (.pr (.icmp .leq) [(.pr .slen [(.var 3)]), (.lit (.int .i64 1099511627776))])
 (.leaf (.go 0 [(.var 0), (.var 1), (.pr .scat [(.var 2), (.lit (.string (mkS [128])))]), (.pr .scat [(.var 3), (.lit (.string (mkS [191])))])]))))
 (.giv (.app 1000 [(.var 2), (.var 1)])
 (.giv (.app 2035 [(.var 2), (.var 1)])
 (.giv (.app 1000 [(.var 3), (.var 1)])
 (.giv (.app 2035 [(.var 3), (.var 1)])
 (.leaf (.go 1 [(.var 0), (.var 1), (.app 35 [(.var 2), (.var 1)]), (.app 35 [(.var 3), (.var 1)]), (.lit (.int .i64 0))])))))))
def head_rbegins_1 : Tree :=
 (.ite (.pr (.icmp .lss) [(.var 4), (.lit (.int .i64 2))])
 (.ite (.pr (.icmp .eql) [(.var 4), (.lit (.int .i64 0))])
 (.giv (.app 1000 [(.var 2)])
 (.ite (.app 55 [(.var 2)])
 (.giv (.pr (.icmp .leq) [(.lit (.int .i64 0)), (.pr .ite [(.pr (.icmp .lss) [(.pr .slen [(.app 34 [(.var 2)])]), (.pr .slen [(.var 0)])]), (.pr .slen [(.app 34 [(.var 2)])]), (.pr .slen [(.var 0)])])])
 (.giv (.pr (.icmp .leq) [(.pr .ite [(.pr (.icmp .lss) [(.pr .slen [(.app 34 [(.var 2)])]), (.pr .slen [(.var 0)])]), (.pr .slen [(.app 34 [(.var 2)])]), (.pr .slen [(.var 0)])]), (.pr .slen [(.app 34 [(.var 2)])])])
 (.ite (.pr (.scmp .eql) [(.pr .ssub [(.app 34 [(.var 2)]), (.lit (.int .i64 0)), (.pr .ite [(.pr (.icmp .lss) [(.pr .slen [(.app 34 [(.var 2)])]), (.pr .slen [(.var 0)])]), (.pr .slen [(.app 34 [(.var 2)])]), (.pr .slen [(.var 0)])])]), (.var 0)])
 (.ite (.pr (.icmp .eql) [(.pr .slen [(.app 34 [(.var 2)])]), (.var 1)])
 (.leaf (.ret (.lit (.bool true))))
 (.leaf (.go 1 [(.var 0), (.var 1), (.var 2), (.var 3), (.pr (.iop .add .i64) [(.var 4), (.lit (.int .i64 1))])])))
 (.leaf (.go 1 [(.var 0), (.var 1), (.var 2), (.var 3), (.pr (.iop .add .i64) [(.var 4), (.lit (.int .i64 1))])])))))
 (.leaf (.go 1 [(.var 0), (.var 1), (.var 2), (.var 3), (.pr (.iop .add .i64) [(.var 4), (.lit (.int .i64 1))])]))))
 (.giv (.pr (.icmp .eql) [(.var 4), (.lit (.int .i64 1))])
 (.giv (.app 1000 [(.var 3)])
 (.ite (.app 55 [(.var 3)])
 (.giv (.pr (.icmp .leq) [(.lit (.int .i64 0)), (.pr .ite [(.pr (.icmp .lss) [(.pr .slen [(.app 34 [(.var 3)])]), (.pr .slen [(.var 0)])]), (.pr .slen [(.app 34 [(.var 3)])]), (.pr .slen [(.var 0)])])])
 (.giv (.pr (.icmp .leq) [(.pr .ite [(.pr (.icmp .lss) [(.pr .slen [(.app 34 [(.var 3)])]), (.pr .slen [(.var 0)])]), (.pr .slen [(.app 34 [(.var 3)])]), (.pr .slen [(.var 0)])]), (.pr .slen [(.app 34 [(.var 3)])])])
 (.ite (.pr (.scmp .eql) [(.pr .ssub [(.app 34 [(.var 3)]), (.lit (.int .i64 0)), (.pr .ite [(.pr (.icmp .lss) [(.pr .slen [(.app 34 [(.var 3)])]), (.pr .slen [(.var 0)])]), (.pr .slen [(.app 34 [(.var 3)])]), (.pr .slen [(.var 0)])])]), (.var 0)])
 (.ite (.pr (.icmp .eql) [(.pr .slen [(.app 34 [(.var 3)])]), (.var 1)])
 (.leaf (.ret (.lit (.bool true))))
 (.leaf (.go 1 [(.var 0), (.var 1), (.var 2), (.var 3), (.pr (.iop .add .i64) [(.var 4), (.lit (.int .i64 1))])])))
 (.leaf (.go 1 [(.var 0), (.var 1), (.var 2), (.var 3), (.pr (.iop .add .i64) [(.var 4), (.lit (.int .i64 1))])])))))
 (.leaf (.go 1 [(.var 0), (.var 1), (.var 2), (.var 3), (.pr (.iop .add .i64) [(.var 4), (.lit (.int .i64 1))])]))))))
 (.ite (.pr (.icmp .eql) [(.var 1), (.lit (.int .i64 0))])
 (.ite (.pr (.icmp .geq) [(.lit (.int .i64 0)), (.var 2)])
 (.ite (.pr (.icmp .leq) [(.lit (.int .i64 0)), (.var 3)])
 (.giv (.pr (.icmp .leq) [(.pr .slen [(.var 0)]), (.pr .slen [(.lit (.string (mkS [0])))])])
 (.leaf (.ret (.pr (.scmp .eql) [(.pr .ssub [(.lit (.string (mkS [0]))), (.lit (.int .i64 0)), (.pr .slen [(.var 0)])]), (.var 0)]))))
 (.leaf (.ret (.lit (.bool false)))))
 (.leaf (.ret (.lit (.bool false)))))
 (.ite (.pr (.icmp .eql) [(.var 1), (.lit (.int .i64 1))])
 (.ite (.pr (.icmp .geq) [(.lit (.int .i64 0)), (.var 2)])
 (.ite (.pr (.icmp .leq) [(.lit (.int .i64 0)), (.var 3)])
 (.giv (.pr (.icmp .leq) [(.pr .slen [(.var 0)]), (.pr .slen [(.lit (.string (mkS [0])))])])
 (.leaf (.ret (.pr (.scmp .eql) [(.pr .ssub [(.lit (.string (mkS [0]))), (.lit (.int .i64 0)), (.pr .slen [(.var 0)])]), (.var 0)]))))
 (.leaf (.ret (.lit (.bool false)))))
 (.leaf (.ret (.lit (.bool false)))))
 (.ite (.pr (.icmp .eql) [(.var 1), (.lit (.int .i64 2))])
 (.ite (.pr (.icmp .geq) [(.lit (.int .i64 128)), (.var 2)])
 (.ite (.pr (.icmp .leq) [(.lit (.int .i64 128)), (.var 3)])
 (.giv (.pr (.icmp .leq) [(.pr .slen [(.var 0)]), (.pr .slen [(.lit (.string (mkS [194, 128])))])])
 (.leaf (.ret (.pr (.scmp .eql) [(.pr .ssub [(.lit (.string (mkS [194, 128]))), (.lit (.int .i64 0)), (.pr .slen [(.var 0)])]), (.var 0)]))))
 (.leaf (.ret (.lit (.bool false)))))
 (.leaf (.ret (.lit (.bool false)))))
 (.ite (.pr (.icmp .eql) [(.var 1), (.lit (.int .i64 3))])
 (.ite (.pr (.icmp .geq) [(.lit (.int .i64 2048)), (.var 2)])
 (.ite (.pr (.icmp .leq) [(.lit (.int .i64 2048)), (.var 3)])
 (.giv (.pr (.icmp .leq) [(.pr .slen [(.var 0)]), (.pr .slen [(.lit (.string (mkS [224, 160, 128])))])])
 (.leaf (.ret (.pr (.scmp .eql) [(.pr .ssub [(.lit (.string (mkS [224, 160, 128]))), (.lit (.int .i64 0)), (.pr .slen [(.var 0)])]), (.var 0)]))))
 (.leaf (.ret (.lit (.bool false)))))
 (.leaf (.ret (.lit (.bool false)))))
 (.giv (.pr (.icmp .eql) [(.var 1), (.lit (.int .i64 4))])
 (.ite (.pr (.icmp .geq) [(.lit (.int .i64 65536)), (.var 2)])
 (.ite (.pr (.icmp .leq) [(.lit (.int .i64 65536)), (.var 3)])
 (.giv (.pr (.icmp .leq) [(.pr .slen [(.var 0)]), (.pr .slen [(.lit (.string (mkS [240, 144, 128, 128])))])])
 (.leaf (.ret (.pr (.scmp .eql) [(.pr .ssub [(.lit (.string (mkS [240, 144, 128, 128]))), (.lit (.int .i64 0)), (.pr .slen [(.var 0)])]), (.var 0)]))))
 (.leaf (.ret (.lit (.bool false)))))
 (.leaf (.ret (.lit (.bool false)))))))))))
def trees_rbegins : List Tree := [head_rbegins_0, head_rbegins_1]
noncomputable def deps_rbegins : List Sig := [q_rbytes, q_rnumber, q_rlong, q_ris]
theorem ok_rbegins : check q_rbegins deps_rbegins heads_rbegins entry_rbegins trees_rbegins = true := by kernel_rfl
theorem begin_done {s : ByteArray} {m : Nat} (h0 : 0 < s.size) (hl : longV (s.data.toList.getD 0 0).toNat = (m : Int)) (hlt : s.size < m) (h1 : chkV s m (numbV (padV s m 128) m) = false) (h2 : chkV s m (numbV (padV s m 191) m) = false) :
    beginsV s = (decide (numbV (padV s m 128) m ≤ leastV m) && (decide (leastV m ≤ numbV (padV s m 191) m) && decide ((encV (leastV m)).extract 0 s.size = s))) := by
  unfold beginsV
  simp only [hl, Int.toNat_natCast]
  rw [if_neg (by omega), h1, h2]
  simp
theorem chk_of {s : ByteArray} {m : Nat} {r : Int} (h1 : isR r = true) (h2 : (encV r).extract 0 (min s.size (encV r).size) = s) (h3 : (encV r).size = m) : chkV s m r = true := by
  unfold chkV
  rw [h1, decide_eq_true h2, decide_eq_true (by omega)]; rfl
theorem chk_no {s : ByteArray} {m : Nat} {r : Int} (h : ¬ (isR r = true ∧ (encV r).extract 0 (min s.size (encV r).size) = s ∧ (encV r).size = m)) : chkV s m r = false := by
  rw [Bool.eq_false_iff]
  intro k
  unfold chkV at k
  rw [Bool.and_eq_true, Bool.and_eq_true, decide_eq_true_iff, decide_eq_true_iff] at k
  exact h ⟨k.1, k.2.1, by omega⟩
theorem begin_one {s : ByteArray} {m : Nat} (hl : longV (s.data.toList.getD 0 0).toNat = (m : Int)) (hlt : s.size < m) (h : chkV s m (numbV (padV s m 128) m) = true ∨ chkV s m (numbV (padV s m 191) m) = true) : beginsV s = true := by
  unfold beginsV
  simp only [hl, Int.toNat_natCast]
  rw [if_neg (by omega)]
  rcases h with h | h
  · rw [if_pos h]
  · split
    · rfl
    · rfl
theorem min_is (a b : Nat) : (bif ltI (a : Int) (b : Int) then iD a else iD b) = iD ((min b a : Nat) : Int) := by
  by_cases h : a < b
  · rw [ltI_t.2 (by omega)]; show iD _ = _; rw [show min b a = a by omega]
  · rw [ltI_f.2 (by omega)]; show iD _ = _; rw [show min b a = b by omega]
theorem rbegins_at (n : Nat) : @Ok (I n) q_rbegins (fun ds => 5 < n ∧ D.LimL ds ∧ ∃ s, ds = [sD s] ∧ 0 < s.size) := by
  letI := I n
  refine fn_okS (hphi n) ok_rbegins (by
      intro q hq
      simp only [deps_rbegins, List.mem_cons, List.not_mem_nil, or_false] at hq
      rcases hq with rfl | rfl | rfl | rfl
      · exact okS_of (rbytes_ok n)
      · exact rnumber_ok n
      · exact okS_of (rlong_ok n)
      · exact okS_of (ris_ok n))
    (fun j d ds => 5 < n ∧ ∃ (s : ByteArray) (m : Nat), 0 < s.size ∧ s.size < m ∧ m ≤ 4 ∧ longV (s.data.toList.getD 0 0).toNat = m ∧ d = bD (beginsV s) ∧
      ((j = 0 ∧ ∃ k, s.size + k ≤ m ∧ ds = [sD s, iD m, sD (s ++ reps k 128), sD (s ++ reps k 191)]) ∨
       (j = 1 ∧ ∃ i : Nat, i ≤ 2 ∧ (1 ≤ i → chkV s m (numbV (padV s m 128) m) = false) ∧ (2 ≤ i → chkV s m (numbV (padV s m 191) m) = false) ∧
         ds = [sD s, iD m, iD (numbV (padV s m 128) m), iD (numbV (padV s m 191) m), iD i])))
    (fun j ds => if j = 0 then 20 - (ds.getD 2 .nil).str.size else 2 - (ds.getD 4 .nil).int.toNat) ?_ ?_
  · rintro ds hf ⟨hn, hp, s, rfl, h0⟩
    have hl : s.size ≤ lim := lim_sD.1 hp.1
    obtain ⟨m, hm, hm4⟩ := longV_nat (s.data.toList.getD 0 0).toNat
    simp only [entry_rbegins, q_rbegins, Tree.holds, Out.den, E.den, E.denL, den1, den2, den3, den4, den5, den6, den7, den8, Bool.not_eq_true', Bool.not_eq_false', List.getD_cons_zero, List.getD_cons_succ, true_and, and_true, List.length_map, phi_1000, phi_rlong, phi_rbegins, Int.toNat_zero, Int.toNat_natCast, hm]
    refine ⟨by omega, ok_num (by omega), fun h1 => ?_, fun h1 => ⟨hn, s, m, h0, by omega, hm4, hm, rfl, .inl ⟨0, by omega, ?_⟩⟩⟩
    · have : beginsV s = false := by unfold beginsV; simp only [hm]; rw [if_pos (by omega)]
      rw [this]
    · rw [reps_zero, reps_zero]
  · rintro j h t d ds hj ht hf ⟨hn, s, m, h0, hlt, hm4, hm, rfl, ⟨rfl, k, hk, rfl⟩ | ⟨rfl, i, hi, hc1, hc2, rfl⟩⟩
    · obtain rfl : t = head_rbegins_0 := (Option.some.inj ht).symm
      have e128 := reps_succ s k 128
      have e191 := reps_succ s k 191
      have el : (4 : Nat) ≤ lim := by decide
      have hsz : ∀ c, (s ++ reps k c).size = s.size + k := fun c => by rw [cat_size, reps_size]
      have hpre : ∀ c, @Interp.phi (I n) 2035 [sD (s ++ reps k c), iD m] = .v (.bool true) ↔ m ≤ s.size + k := fun c => by
        rw [pre_rnumber, hsz]; omega
      simp only [head_rbegins_0, Tree.holds, Out.den, E.den, E.denL, den1, den2, den3, den4, den5, den6, den7, den8, Bool.not_eq_true', Bool.not_eq_false', List.getD_cons_zero, List.getD_cons_succ, true_and, and_true, List.length_map, phi_1000, phi_rnumber]
      have e128' : s ++ reps k 128 ++ mkS [128] = s ++ reps (k + 1) 128 := e128
      have e191' : s ++ reps k 191 ++ mkS [191] = s ++ reps (k + 1) 191 := e191
      refine ⟨fun h1 => ⟨?_, ?_, ⟨hn, s, m, h0, hlt, hm4, hm, rfl, .inl ⟨k + 1, ?_, ?_⟩⟩, ?_⟩, fun h1 => ⟨ok_two (by omega) ?_, ?_, ok_two (by omega) ?_, ?_, ⟨hn, s, m, h0, hlt, hm4, hm, rfl, .inr ⟨0, by omega, fun h => by omega, fun h => by omega, ?_⟩⟩, ?_⟩⟩
      · rw [hsz]; omega
      · rw [hsz]; omega
      · rw [hsz] at h1; omega
      · rw [e128', e191']
      · rw [hsz] at h1 ⊢
        simp only [if_true]
        rw [e128', cat_size, reps_size]; omega
      · rw [hsz]; omega
      · rw [hpre]; rw [hsz] at h1; omega
      · rw [hsz]; omega
      · rw [hpre]; rw [hsz] at h1; omega
      · rw [hsz] at h1
        have : k = m - s.size := by omega
        rw [padV_eq, padV_eq, this]; rfl
      · simp only [if_true]; rw [if_neg (by decide)]; rw [hsz] at h1 ⊢; simp only [Int.toNat_zero]; omega
    · obtain rfl : t = head_rbegins_1 := (Option.some.inj ht).symm
      have hmin : ∀ r : Int, ((min s.size (encV r).size : Nat) : Int).toNat = min s.size (encV r).size := fun r => Int.toNat_natCast _
      have hw : ∀ i : Nat, i < 2 → IntKind.i64.wrap ((i : Int) + 1) = ((i + 1 : Nat) : Int) := fun i h => by rw [wrap_id (by omega) (by omega)]; rfl
      by_cases h2 : i < 2
      · simp only [head_rbegins_1, Tree.holds, Out.den, E.den, E.denL, den1, den2, den3, den4, den5, den6, den7, den8, Bool.not_eq_true', Bool.not_eq_false', List.getD_cons_zero, List.getD_cons_succ, true_and, and_true, List.length_map, phi_1000, phi_rbytes, phi_ris, min_is, hmin, hw i h2, Int.toNat_zero]
        refine ⟨fun _ => ⟨fun hi0 => ⟨ok_num (by omega), fun hr => ⟨by omega, by omega, fun he => ⟨fun hs => ?_, fun hs => ⟨⟨hn, s, m, h0, hlt, hm4, hm, rfl, .inr ⟨i + 1, by omega, fun _ => chk_no fun h => hs ?_, fun h => ?_, rfl⟩⟩, ?_⟩⟩, fun he => ⟨⟨hn, s, m, h0, hlt, hm4, hm, rfl, .inr ⟨i + 1, by omega, fun _ => chk_no fun h => he h.2.1, fun h => ?_, rfl⟩⟩, ?_⟩⟩, fun hr => ⟨⟨hn, s, m, h0, hlt, hm4, hm, rfl, .inr ⟨i + 1, by omega, fun _ => chk_no fun h => ?_, fun h => ?_, rfl⟩⟩, ?_⟩⟩,
          fun hi0 => ⟨by omega, ok_num (by omega), fun hr => ⟨by omega, by omega, fun he => ⟨fun hs => ?_, fun hs => ⟨⟨hn, s, m, h0, hlt, hm4, hm, rfl, .inr ⟨i + 1, by omega, fun _ => hc1 (by omega), fun h => chk_no fun h => hs ?_, rfl⟩⟩, ?_⟩⟩, fun he => ⟨⟨hn, s, m, h0, hlt, hm4, hm, rfl, .inr ⟨i + 1, by omega, fun _ => hc1 (by omega), fun h => chk_no fun h => he h.2.1, rfl⟩⟩, ?_⟩⟩, fun hr => ⟨⟨hn, s, m, h0, hlt, hm4, hm, rfl, .inr ⟨i + 1, by omega, fun _ => hc1 (by omega), fun h => chk_no fun h => ?_, rfl⟩⟩, ?_⟩⟩⟩, fun h => by omega⟩
        all_goals first
          | omega
          | (rw [begin_one hm hlt (.inl (chk_of hr he (by omega)))])
          | (rw [begin_one hm hlt (.inr (chk_of hr he (by omega)))])
          | (rw [h.1] at hr; cases hr)
          | (rw [if_neg (by decide), if_neg (by decide)]; simp only [Int.toNat_natCast]; omega)
      · have hi2 : i = 2 := by omega
        subst hi2
        have hb := begin_done h0 hm hlt (hc1 (by omega)) (hc2 (by omega))
        simp only [head_rbegins_1, Tree.holds, Out.den, E.den, E.denL, den1, den2, den3, den4, den5, den6, den7, den8, Bool.not_eq_true', Bool.not_eq_false', List.getD_cons_zero, List.getD_cons_succ, true_and, and_true, List.length_map, phi_1000, Int.toNat_zero]
        have hm5 : m = 0 ∨ m = 1 ∨ m = 2 ∨ m = 3 ∨ m = 4 := by omega
        generalize numbV (padV s m 128) m = a at hb
        generalize numbV (padV s m 191) m = b at hb
        have l2 : (encV (leastV 2)) = mkS [194, 128] := rfl
        have l3 : (encV (leastV 3)) = mkS [224, 160, 128] := rfl
        have l4 : (encV (leastV 4)) = mkS [240, 144, 128, 128] := rfl
        have v2 : leastV 2 = 128 := rfl
        have v3 : leastV 3 = 2048 := rfl
        have v4 : leastV 4 = 65536 := rfl
        have s2 : (mkS [194, 128]).size = 2 := rfl
        have s3 : (mkS [224, 160, 128]).size = 3 := rfl
        have s4 : (mkS [240, 144, 128, 128]).size = 4 := rfl
        rw [hb]
        refine ⟨fun h => by omega, fun _ => ?_⟩
        rcases hm5 with rfl | rfl | rfl | rfl | rfl
        · omega
        · omega
        · rw [l2, v2]
          simp only [s2]
          refine ⟨fun h => by omega, fun _ => ⟨fun h => by omega, fun _ => ⟨fun _ => ⟨fun h1 => ⟨fun h2 => ⟨by omega, ?_⟩, fun h2 => ?_⟩, fun h1 => ?_⟩, fun h => absurd rfl h⟩⟩⟩
          · rw [decide_eq_true h1, decide_eq_true h2]; rfl
          · rw [decide_eq_false h2]; simp
          · rw [decide_eq_false h1]; simp
        · rw [l3, v3]
          simp only [s3]
          refine ⟨fun h => by omega, fun _ => ⟨fun h => by omega, fun _ => ⟨fun h => by omega, fun _ => ⟨fun _ => ⟨fun h1 => ⟨fun h2 => ⟨by omega, ?_⟩, fun h2 => ?_⟩, fun h1 => ?_⟩, fun h => absurd rfl h⟩⟩⟩⟩
          · rw [decide_eq_true h1, decide_eq_true h2]; rfl
          · rw [decide_eq_false h2]; simp
          · rw [decide_eq_false h1]; simp
        · rw [l4, v4]
          simp only [s4]
          refine ⟨fun h => by omega, fun _ => ⟨fun h => by omega, fun _ => ⟨fun h => by omega, fun _ => ⟨fun h => by omega, fun _ => ⟨rfl, fun h1 => ⟨fun h2 => ⟨by omega, ?_⟩, fun h2 => ?_⟩, fun h1 => ?_⟩⟩⟩⟩⟩
          · rw [decide_eq_true h1, decide_eq_true h2]; rfl
          · rw [decide_eq_false h2]; simp
          · rw [decide_eq_false h1]; simp
theorem rbegins_ok (n : Nat) : @Ok (I n) q_rbegins (@okS (I n) n q_rbegins.g) := by
  have h : @Ok (I n) q_rbegins (fun ds => 5 < n + 10 ∧ D.LimL ds ∧ ∃ s, ds = [sD s] ∧ 0 < s.size) := ok_irrel (by decide) (rbegins_at (n + 10))
  letI := I n
  intro W J vs ds hL hI ha hp
  obtain ⟨s, rfl⟩ := one_str ha.fit
  exact h W J vs _ hL hI ha ⟨by omega, hp.1.2, s, rfl, (pre_rbegins n s).1 (hp.2 rfl)⟩
/-- calamus/calamusref03.Decode: func 114, params [9, 3], ntmps 54. -/
def heads_rdecode : List Hd := []
def entry_rdecode : Tree :=
 (.ite (.pr (.icmp .lss) [(.var 1), (.lit (.int .i64 0))])
 (.leaf (.ret (.pr .row [(.lit (.int .i64 0)), (.lit (.int .i64 0)), (.lit (.int .i64 1))])))
 (.ite (.pr (.icmp .geq) [(.var 1), (.pr .slen [(.var 0)])])
 (.leaf (.ret (.pr .row [(.lit (.int .i64 0)), (.lit (.int .i64 0)), (.lit (.int .i64 1))])))
 (.giv (.pr (.icmp .leq) [(.lit (.int .i64 0)), (.var 1)])
 (.giv (.pr (.icmp .leq) [(.var 1), (.pr .slen [(.var 0)])])
 (.giv (.pr (.icmp .lss) [(.lit (.int .i64 0)), (.pr .slen [(.pr .ssub [(.var 0), (.var 1), (.pr .slen [(.var 0)])])])])
 (.giv (.app 1000 [(.pr .sat [(.pr .ssub [(.var 0), (.var 1), (.pr .slen [(.var 0)])]), (.lit (.int .i64 0))])])
 (.ite (.pr (.icmp .gtr) [(.app 54 [(.pr .sat [(.pr .ssub [(.var 0), (.var 1), (.pr .slen [(.var 0)])]), (.lit (.int .i64 0))])]), (.lit (.int .i64 0))])
 (.ite (.pr (.icmp .geq) [(.pr .slen [(.pr .ssub [(.var 0), (.var 1), (.pr .slen [(.var 0)])])]), (.app 54 [(.pr .sat [(.pr .ssub [(.var 0), (.var 1), (.pr .slen [(.var 0)])]), (.lit (.int .i64 0))])])])
 (.giv (.app 1000 [(.pr .ssub [(.var 0), (.var 1), (.pr .slen [(.var 0)])]), (.app 54 [(.pr .sat [(.pr .ssub [(.var 0), (.var 1), (.pr .slen [(.var 0)])]), (.lit (.int .i64 0))])])])
 (.giv (.app 2035 [(.pr .ssub [(.var 0), (.var 1), (.pr .slen [(.var 0)])]), (.app 54 [(.pr .sat [(.pr .ssub [(.var 0), (.var 1), (.pr .slen [(.var 0)])]), (.lit (.int .i64 0))])])])
 (.giv (.app 1000 [(.app 35 [(.pr .ssub [(.var 0), (.var 1), (.pr .slen [(.var 0)])]), (.app 54 [(.pr .sat [(.pr .ssub [(.var 0), (.var 1), (.pr .slen [(.var 0)])]), (.lit (.int .i64 0))])])])])
 (.ite (.app 55 [(.app 35 [(.pr .ssub [(.var 0), (.var 1), (.pr .slen [(.var 0)])]), (.app 54 [(.pr .sat [(.pr .ssub [(.var 0), (.var 1), (.pr .slen [(.var 0)])]), (.lit (.int .i64 0))])])])])
 (.giv (.pr (.icmp .leq) [(.lit (.int .i64 0)), (.app 54 [(.pr .sat [(.pr .ssub [(.var 0), (.var 1), (.pr .slen [(.var 0)])]), (.lit (.int .i64 0))])])])
 (.giv (.pr (.icmp .leq) [(.app 54 [(.pr .sat [(.pr .ssub [(.var 0), (.var 1), (.pr .slen [(.var 0)])]), (.lit (.int .i64 0))])]), (.pr .slen [(.pr .ssub [(.var 0), (.var 1), (.pr .slen [(.var 0)])])])])
 (.ite (.pr (.scmp .eql) [(.app 34 [(.app 35 [(.pr .ssub [(.var 0), (.var 1), (.pr .slen [(.var 0)])]), (.app 54 [(.pr .sat [(.pr .ssub [(.var 0), (.var 1), (.pr .slen [(.var 0)])]), (.lit (.int .i64 0))])])])]), (.pr .ssub [(.pr .ssub [(.var 0), (.var 1), (.pr .slen [(.var 0)])]), (.lit (.int .i64 0)), (.app 54 [(.pr .sat [(.pr .ssub [(.var 0), (.var 1), (.pr .slen [(.var 0)])]), (.lit (.int .i64 0))])])])])
 (.leaf (.ret (.pr .row [(.app 35 [(.pr .ssub [(.var 0), (.var 1), (.pr .slen [(.var 0)])]), (.app 54 [(.pr .sat [(.pr .ssub [(.var 0), (.var 1), (.pr .slen [(.var 0)])]), (.lit (.int .i64 0))])])]), (.app 54 [(.pr .sat [(.pr .ssub [(.var 0), (.var 1), (.pr .slen [(.var 0)])]), (.lit (.int .i64 0))])]), (.lit (.int .i64 0))])))
 (.ite (.pr (.icmp .gtr) [(.app 54 [(.pr .sat [(.pr .ssub [(.var 0), (.var 1), (.pr .slen [(.var 0)])]), (.lit (.int .i64 0))])]), (.pr .slen [(.pr .ssub [(.var 0), (.var 1), (.pr .slen [(.var 0)])])])])
 (.leaf (.ret (.pr .row [(.lit (.int .i64 0)), (.lit (.int .i64 0)), (.lit (.int .i64 30))])))
 (.leaf (.ret (.pr .row [(.lit (.int .i64 0)), (.lit (.int .i64 0)), (.lit (.int .i64 30))])))))))
 (.ite (.pr (.icmp .gtr) [(.app 54 [(.pr .sat [(.pr .ssub [(.var 0), (.var 1), (.pr .slen [(.var 0)])]), (.lit (.int .i64 0))])]), (.pr .slen [(.pr .ssub [(.var 0), (.var 1), (.pr .slen [(.var 0)])])])])
 (.leaf (.ret (.pr .row [(.lit (.int .i64 0)), (.lit (.int .i64 0)), (.lit (.int .i64 30))])))
 (.leaf (.ret (.pr .row [(.lit (.int .i64 0)), (.lit (.int .i64 0)), (.lit (.int .i64 30))]))))))))
 (.ite (.pr (.icmp .gtr) [(.app 54 [(.pr .sat [(.pr .ssub [(.var 0), (.var 1), (.pr .slen [(.var 0)])]), (.lit (.int .i64 0))])]), (.pr .slen [(.pr .ssub [(.var 0), (.var 1), (.pr .slen [(.var 0)])])])])
 (.giv (.app 1000 [(.pr .ssub [(.var 0), (.var 1), (.pr .slen [(.var 0)])])])
 (.giv (.app 2033 [(.pr .ssub [(.var 0), (.var 1), (.pr .slen [(.var 0)])])])
 (.ite (.app 33 [(.pr .ssub [(.var 0), (.var 1), (.pr .slen [(.var 0)])])])
 (.leaf (.ret (.pr .row [(.lit (.int .i64 0)), (.lit (.int .i64 0)), (.lit (.int .i64 31))])))
 (.leaf (.ret (.pr .row [(.lit (.int .i64 0)), (.lit (.int .i64 0)), (.lit (.int .i64 30))]))))))
 (.leaf (.ret (.pr .row [(.lit (.int .i64 0)), (.lit (.int .i64 0)), (.lit (.int .i64 30))])))))
 (.ite (.pr (.icmp .gtr) [(.app 54 [(.pr .sat [(.pr .ssub [(.var 0), (.var 1), (.pr .slen [(.var 0)])]), (.lit (.int .i64 0))])]), (.pr .slen [(.pr .ssub [(.var 0), (.var 1), (.pr .slen [(.var 0)])])])])
 (.giv (.app 1000 [(.pr .ssub [(.var 0), (.var 1), (.pr .slen [(.var 0)])])])
 (.giv (.app 2033 [(.pr .ssub [(.var 0), (.var 1), (.pr .slen [(.var 0)])])])
 (.ite (.app 33 [(.pr .ssub [(.var 0), (.var 1), (.pr .slen [(.var 0)])])])
 (.leaf (.ret (.pr .row [(.lit (.int .i64 0)), (.lit (.int .i64 0)), (.lit (.int .i64 31))])))
 (.leaf (.ret (.pr .row [(.lit (.int .i64 0)), (.lit (.int .i64 0)), (.lit (.int .i64 30))]))))))
 (.leaf (.ret (.pr .row [(.lit (.int .i64 0)), (.lit (.int .i64 0)), (.lit (.int .i64 30))])))))))))))
def trees_rdecode : List Tree := []
noncomputable def deps_rdecode : List Sig := [q_rbytes, q_rnumber, q_rlong, q_ris, q_rbegins]
theorem ok_rdecode : check q_rdecode deps_rdecode heads_rdecode entry_rdecode trees_rdecode = true := by kernel_rfl
theorem rdecode_at (n : Nat) : @Ok (I n) q_rdecode (fun ds => 5 < n ∧ D.LimL ds) := by
  letI := I n
  refine fn_okS (hphi n) ok_rdecode (by
      intro q hq
      simp only [deps_rdecode, List.mem_cons, List.not_mem_nil, or_false] at hq
      rcases hq with rfl | rfl | rfl | rfl | rfl
      · exact okS_of (rbytes_ok n)
      · exact rnumber_ok n
      · exact okS_of (rlong_ok n)
      · exact okS_of (ris_ok n)
      · exact rbegins_ok n) (fun _ _ _ => False) (fun _ _ => 0) ?_ (fun j h t d ds hj => by simp [heads_rdecode] at hj)
  rintro ds hf ⟨hn, hp⟩
  obtain ⟨s, i, rfl⟩ := str_int hf
  have hl : s.size ≤ lim := lim_sD.1 hp.1
  simp only [entry_rdecode, q_rdecode, Tree.holds, Out.den, E.den, E.denL, den1, den2, den3, den4, den5, den6, den7, den8, Bool.not_eq_true', Bool.not_eq_false', List.getD_cons_zero, List.getD_cons_succ, true_and, and_true, List.length_map, phi_1000, phi_rlong, phi_rdecode, phi_rbytes, phi_rnumber, phi_ris, phi_rbegins, Int.toNat_zero, Int.toNat_natCast]
  by_cases c1 : i < 0
  · refine ⟨fun _ => ?_, fun h => absurd c1 h⟩
    unfold decV; rw [if_pos c1]
  by_cases c2 : (s.size : Int) ≤ i
  · refine ⟨fun h => absurd h c1, fun _ => ⟨fun _ => ?_, fun h => absurd c2 h⟩⟩
    unfold decV; rw [if_neg c1, if_pos c2]
  obtain ⟨k, rfl⟩ : ∃ k : Nat, i = k := ⟨i.toNat, by omega⟩
  rw [Int.toNat_natCast]
  have hd : decV s k = if 0 < longV ((s.extract k s.size).data.toList.getD 0 0).toNat ∧ longV ((s.extract k s.size).data.toList.getD 0 0).toNat ≤ (s.extract k s.size).size ∧ headOk (s.extract k s.size) (longV ((s.extract k s.size).data.toList.getD 0 0).toNat) = true then (numbV (s.extract k s.size) (longV ((s.extract k s.size).data.toList.getD 0 0).toNat), longV ((s.extract k s.size).data.toList.getD 0 0).toNat, 0) else if ((s.extract k s.size).size : Int) < longV ((s.extract k s.size).data.toList.getD 0 0).toNat ∧ beginsV (s.extract k s.size) = true then (0, 0, 31) else (0, 0, 30) := by
    unfold decV
    rw [if_neg c1, if_neg c2]; rfl
  have hts := ext_size s k (by omega)
  rw [hd]
  clear hd
  generalize s.extract k s.size = t at hts
  obtain ⟨m, hm, hm4⟩ := longV_nat (t.data.toList.getD 0 0).toNat
  simp only [hm, Int.toNat_natCast]
  have htl : t.size ≤ lim := by omega
  have hpre := pre_rnumber n t m
  have hpreb := pre_rbegins n t
  have q1 : okD n [sD t, iD m] := ok_two (by omega) htl
  have q2 : ∀ (kd : IntKind) (x : Int), okD n [.v (.int kd x)] := fun kd x => ok_num (by omega)
  have q3 : okD n [sD t] := okD_one.2 ⟨by simp only [D.sz]; omega, lim_sD.2 htl⟩
  have hh : headOk t m = true ↔ isR (numbV t m) = true ∧ encV (numbV t m) = t.extract 0 m := by
    unfold headOk
    rw [Bool.and_eq_true, decide_eq_true_iff, Int.toNat_natCast]
  have e1 : (0 < (m : Int) ∧ (m : Int) ≤ t.size ∧ headOk t m = true) ↔ 0 < m ∧ m ≤ t.size ∧ isR (numbV t m) = true ∧ encV (numbV t m) = t.extract 0 m := by
    rw [hh]
    exact ⟨fun h => ⟨by omega, by omega, h.2.2⟩, fun h => ⟨by omega, by omega, h.2.2⟩⟩
  have e2 : ((t.size : Int) < m ∧ beginsV t = true) ↔ t.size < m ∧ beginsV t = true := ⟨fun h => ⟨by omega, h.2⟩, fun h => ⟨by omega, h.2⟩⟩
  have R1 : (0 < m ∧ m ≤ t.size ∧ isR (numbV t m) = true ∧ encV (numbV t m) = t.extract 0 m) → (if 0 < (m : Int) ∧ (m : Int) ≤ t.size ∧ headOk t m = true then (numbV t m, (m : Int), (0 : Int)) else if (t.size : Int) < m ∧ beginsV t = true then (0, 0, 31) else (0, 0, 30)) = (numbV t m, (m : Int), 0) := fun h => if_pos (e1.2 h)
  have R2 : ¬ (0 < m ∧ m ≤ t.size ∧ isR (numbV t m) = true ∧ encV (numbV t m) = t.extract 0 m) → t.size < m → beginsV t = true → (if 0 < (m : Int) ∧ (m : Int) ≤ t.size ∧ headOk t m = true then (numbV t m, (m : Int), (0 : Int)) else if (t.size : Int) < m ∧ beginsV t = true then (0, 0, 31) else (0, 0, 30)) = (0, 0, 31) := fun h h1 h2 => by rw [if_neg fun k => h (e1.1 k), if_pos (e2.2 ⟨h1, h2⟩)]
  have R3 : ¬ (0 < m ∧ m ≤ t.size ∧ isR (numbV t m) = true ∧ encV (numbV t m) = t.extract 0 m) → ¬ (t.size < m ∧ beginsV t = true) → (if 0 < (m : Int) ∧ (m : Int) ≤ t.size ∧ headOk t m = true then (numbV t m, (m : Int), (0 : Int)) else if (t.size : Int) < m ∧ beginsV t = true then (0, 0, 31) else (0, 0, 30)) = (0, 0, 30) := fun h h1 => by rw [if_neg fun k => h (e1.1 k), if_neg fun k => h1 (e2.1 k)]
  generalize (if 0 < (m : Int) ∧ (m : Int) ≤ t.size ∧ headOk t m = true then (numbV t m, (m : Int), (0 : Int)) else if (t.size : Int) < m ∧ beginsV t = true then (0, 0, 31) else (0, 0, 30)) = res at R1 R2 R3
  refine ⟨fun h => absurd h c1, fun _ => ⟨fun h => absurd h c2, fun _ => ⟨by omega, by omega, by omega, q2 _ _,
    fun hm => ⟨fun hs => ⟨q1, hpre.2 (by omega), q2 _ _, fun hr => ⟨by omega, by omega, fun he => by rw [R1 ⟨by omega, by omega, hr, he⟩],
        fun he => ⟨fun h => by omega, fun _ => by rw [R3 (fun h => he h.2.2.2) (fun h => by omega)]⟩⟩, fun hr => ⟨fun h => by omega, fun _ => by rw [R3 (fun h => by rw [h.2.2.1] at hr; cases hr) (fun h => by omega)]⟩⟩,
      fun hs => ⟨fun h => ⟨q3, hpreb.2 (by omega), fun hb => by rw [R2 (fun h => by omega) (by omega) hb], fun hb => by rw [R3 (fun h => by omega) (fun h => by rw [h.2] at hb; cases hb)]⟩, fun h => by omega⟩⟩,
    fun hm => ⟨fun h => by omega, fun h => by rw [R3 (fun h => by omega) (fun h => by omega)]⟩⟩⟩⟩
theorem rdecode_ok (n : Nat) : @Ok (I n) q_rdecode (okD n) := by
  have h : @Ok (I n) q_rdecode (fun ds => 5 < n + 10 ∧ D.LimL ds) := ok_irrel (by decide) (rdecode_at (n + 10))
  letI := I n
  exact h.less fun ds k => ⟨by omega, k.2⟩
/-- calamus/calamusref03.Valid: func 93, params [9], ntmps 12. -/
def heads_rvalid : List Hd := []
def entry_rvalid : Tree :=
 (.giv (.app 1000 [(.var 0)])
 (.leaf (.ret (.pr (.icmp .eql) [(.pr (.cell 1) [(.app 31 [(.var 0)])]), (.lit (.int .i64 0))]))))
def trees_rvalid : List Tree := []
noncomputable def deps_rvalid : List Sig := [q_rcount]
theorem ok_rvalid : check q_rvalid deps_rvalid heads_rvalid entry_rvalid trees_rvalid = true := by kernel_rfl
theorem rvalid_ok (n : Nat) : @Ok (I n) q_rvalid (okD n) := by
  letI := I n
  refine fn_ok (hphi n) ok_rvalid (by intro q hq; simp only [deps_rvalid, List.mem_singleton] at hq; subst hq; exact rcount_ok rdecode_ok n) (fun _ _ _ => False) (fun _ _ => 0) ?_ (fun j h t d ds hj => by simp [heads_rvalid] at hj)
  intro ds hf hp
  obtain ⟨s, rfl⟩ := one_str hf
  have hl := lim_sD.1 (okD_one.1 hp).2
  simp only [entry_rvalid, q_rvalid, Tree.holds, Out.den, E.den, E.denL, den1, den2, den3, den4, den5, den6, den7, den8, Bool.not_eq_true', Bool.not_eq_false', List.getD_cons_zero, List.getD_cons_succ, true_and, and_true, List.length_map, phi_1000, phi_rvalid, phi_rcount, row_at1, hp]
  rw [valid_count hl]
  rfl
end Go.Proofs.YtaeeblcdggjokaaGreatDoor.Vk
/- ValueChecks: its function answers true. -/
namespace Go.Proofs.YtaeeblcdggjokaaGreatDoor.Vk
open Go Go.Ab Go.RowKit
set_option maxRecDepth 100000
set_option linter.unusedVariables false
set_option linter.unusedSimpArgs false
set_option linter.unusedSectionVars false
set_option linter.constructorNameAsVariable false
theorem smallL_all : ∀ (l : List Val), smallL l = true ↔ ∀ x, x ∈ l → smallV x = true
  | [] => by unfold smallL; simp
  | v :: r => by
    unfold smallL
    rw [Bool.and_eq_true, smallL_all r]
    simp
theorem smallV_iff (v : Val) : smallV v = true ↔ v.names.length ≤ 1000000 ∧ v.list.length ≤ 1000000 ∧ ∀ x, x ∈ v.list → smallV x = true := by
  cases v with
  | mk k f ng d e b t ns l =>
    show smallV _ = true ↔ ns.length ≤ 1000000 ∧ l.length ≤ 1000000 ∧ ∀ x, x ∈ l → smallV x = true
    rw [smallV, Bool.and_eq_true, Bool.and_eq_true, decide_eq_true_iff, decide_eq_true_iff, smallL_all, and_assoc]
theorem manyL_all : ∀ (l : List Val), manyL l = false → ∀ x, x ∈ l → manyV x = false
  | [], _, x, hx => by cases hx
  | v :: r, h, x, hx => by
    unfold manyL at h
    cases hv : manyV v with
    | true => rw [hv] at h; cases h
    | false =>
      rw [hv] at h
      rcases List.mem_cons.1 hx with rfl | hx
      · exact hv
      · exact manyL_all r h x hx
theorem sizs_len : ∀ (l : List Val), l.length ≤ sizs l
  | [] => Nat.zero_le _
  | v :: r => by
    rw [sizs, List.length_cons]
    have := siz_pos v
    have := sizs_len r
    omega
theorem sizs_mem : ∀ {l : List Val} {x : Val}, x ∈ l → siz x ≤ sizs l
  | v :: r, x, h => by
    rw [sizs]
    rcases List.mem_cons.1 h with rfl | h
    · omega
    · have := sizs_mem h; omega
theorem small_many : ∀ v : Val, manyV v = false → siz v ≤ 65536 → smallV v = true := by
  intro v
  induction v using val_ind with
  | h v ih =>
    intro hm hz
    rw [smallV_iff]
    rw [siz_eq] at hz
    have hl := sizs_len v.list
    have hn : v.names.length ≤ 2000 ∧ manyL v.list = false := by
      cases v with
      | mk k f ng d e b t ns l =>
        show ns.length ≤ 2000 ∧ manyL l = false
        unfold manyV at hm
        split at hm
        · cases hm
        · exact ⟨by omega, hm⟩
    refine ⟨by omega, by omega, fun x hx => ih x hx (manyL_all _ hn.2 x hx) ?_⟩
    have := sizs_mem hx
    omega
theorem take_map {l : List Val} {i : Nat} {x : Val} (h : l[i]? = some x) : (l.take i).map Val.toD ++ [x.toD] = (l.take (i + 1)).map Val.toD := by
  rw [List.take_add_one, h, List.map_append]; rfl
/-- calamus/calamuskeep.Copy: func 9, params [33], ntmps 31. -/
-- head 0 of loop 0: [t1 .bx 33 0, t2 .bx 33 146028888064, t3 .sh (.cell (.sl 9)), t4 .own 33, t5 .sh (.cell (.sc (.i .i64)))]
-- head 1 of loop 0: [t1 .bx 33 0, t2 .bx 33 146028888064, t3 .sh (.cell (.sl 9)), t4 .con (.v (.slice none 0 0)), t5 .sh (.cell (.sc (.i .i64)))]
def heads_copy : List Hd := [⟨0, [.any, .bx 33 0, .bx 33 146028888064, .sh (.cell (.sl 9)), .own 33, .sh (.cell (.sc (.i .i64))), .any, .any, .any, .any, .any, .any, .any, .any, .any, .any, .any, .any, .any, .any, .any, .any, .any, .any, .any, .any, .any, .any, .any, .any, .any]⟩, ⟨0, [.any, .bx 33 0, .bx 33 146028888064, .sh (.cell (.sl 9)), .con (.v (.slice none 0 0)), .sh (.cell (.sc (.i .i64))), .any, .any, .any, .any, .any, .any, .any, .any, .any, .any, .any, .any, .any, .any, .any, .any, .any, .any, .any, .any, .any, .any, .any, .any, .any]⟩]
def entry_copy : Tree :=
 (.giv (.pr (.icmp .leq) [(.pr .len [(.pr (.cell 7) [(.var 0)])]), (.lit (.int .i64 4294967296))])
 (.leaf (.go 1 [(.pr .row [(.pr (.cell 0) [(.var 0)]), (.pr (.cell 1) [(.var 0)]), (.pr (.cell 2) [(.var 0)]), (.pr (.cell 3) [(.var 0)]), (.pr (.cell 4) [(.var 0)]), (.pr (.cell 5) [(.var 0)]), (.pr (.cell 6) [(.var 0)]), (.pr (.cell 7) [(.var 0)]), (.pr (.cell 8) [(.var 0)])]), (.pr .row [(.lit (.int .i64 0)), (.lit (.bool false)), (.lit (.bool false)), (.lit (.string .empty)), (.lit (.int .i64 0)), (.lit (.int .u64 0)), (.lit (.string .empty)), (.pr .lst []), (.pr .lst [])]), (.pr (.cell 7) [(.var 0)]), (.lit (.int .i64 0))])))
def head_copy_0 : Tree :=
 (.ite (.pr (.icmp .lss) [(.var 4), (.pr .len [(.pr (.cell 8) [(.var 0)])])])
 (.giv (.pr (.icmp .leq) [(.lit (.int .i64 0)), (.var 4)])
 (.giv (.app 1000 [(.pr .row [(.pr (.cell 0) [(.pr .at [(.pr (.cell 8) [(.var 0)]), (.var 4)])]), (.pr (.cell 1) [(.pr .at [(.pr (.cell 8) [(.var 0)]), (.var 4)])]), (.pr (.cell 2) [(.pr .at [(.pr (.cell 8) [(.var 0)]), (.var 4)])]), (.pr (.cell 3) [(.pr .at [(.pr (.cell 8) [(.var 0)]), (.var 4)])]), (.pr (.cell 4) [(.pr .at [(.pr (.cell 8) [(.var 0)]), (.var 4)])]), (.pr (.cell 5) [(.pr .at [(.pr (.cell 8) [(.var 0)]), (.var 4)])]), (.pr (.cell 6) [(.pr .at [(.pr (.cell 8) [(.var 0)]), (.var 4)])]), (.pr (.cell 7) [(.pr .at [(.pr (.cell 8) [(.var 0)]), (.var 4)])]), (.pr (.cell 8) [(.pr .at [(.pr (.cell 8) [(.var 0)]), (.var 4)])])])])
 (.giv (.app 2051 [(.pr .row [(.pr (.cell 0) [(.pr .at [(.pr (.cell 8) [(.var 0)]), (.var 4)])]), (.pr (.cell 1) [(.pr .at [(.pr (.cell 8) [(.var 0)]), (.var 4)])]), (.pr (.cell 2) [(.pr .at [(.pr (.cell 8) [(.var 0)]), (.var 4)])]), (.pr (.cell 3) [(.pr .at [(.pr (.cell 8) [(.var 0)]), (.var 4)])]), (.pr (.cell 4) [(.pr .at [(.pr (.cell 8) [(.var 0)]), (.var 4)])]), (.pr (.cell 5) [(.pr .at [(.pr (.cell 8) [(.var 0)]), (.var 4)])]), (.pr (.cell 6) [(.pr .at [(.pr (.cell 8) [(.var 0)]), (.var 4)])]), (.pr (.cell 7) [(.pr .at [(.pr (.cell 8) [(.var 0)]), (.var 4)])]), (.pr (.cell 8) [(.pr .at [(.pr (.cell 8) [(.var 0)]), (.var 4)])])])])
 (.giv (.pr (.icmp .leq) [(.pr .len [(.pr .cat [(.var 3), (.pr .lst [(.pr .row [(.pr (.cell 0) [(.app 51 [(.pr .row [(.pr (.cell 0) [(.pr .at [(.pr (.cell 8) [(.var 0)]), (.var 4)])]), (.pr (.cell 1) [(.pr .at [(.pr (.cell 8) [(.var 0)]), (.var 4)])]), (.pr (.cell 2) [(.pr .at [(.pr (.cell 8) [(.var 0)]), (.var 4)])]), (.pr (.cell 3) [(.pr .at [(.pr (.cell 8) [(.var 0)]), (.var 4)])]), (.pr (.cell 4) [(.pr .at [(.pr (.cell 8) [(.var 0)]), (.var 4)])]), (.pr (.cell 5) [(.pr .at [(.pr (.cell 8) [(.var 0)]), (.var 4)])]), (.pr (.cell 6) [(.pr .at [(.pr (.cell 8) [(.var 0)]), (.var 4)])]), (.pr (.cell 7) [(.pr .at [(.pr (.cell 8) [(.var 0)]), (.var 4)])]), (.pr (.cell 8) [(.pr .at [(.pr (.cell 8) [(.var 0)]), (.var 4)])])])])]), (.pr (.cell 1) [(.app 51 [(.pr .row [(.pr (.cell 0) [(.pr .at [(.pr (.cell 8) [(.var 0)]), (.var 4)])]), (.pr (.cell 1) [(.pr .at [(.pr (.cell 8) [(.var 0)]), (.var 4)])]), (.pr (.cell 2) [(.pr .at [(.pr (.cell 8) [(.var 0)]), (.var 4)])]), (.pr (.cell 3) [(.pr .at [(.pr (.cell 8) [(.var 0)]), (.var 4)])]), (.pr (.cell 4) [(.pr .at [(.pr (.cell 8) [(.var 0)]), (.var 4)])]), (.pr (.cell 5) [(.pr .at [(.pr (.cell 8) [(.var 0)]), (.var 4)])]), (.pr (.cell 6) [(.pr .at [(.pr (.cell 8) [(.var 0)]), (.var 4)])]), (.pr (.cell 7) [(.pr .at [(.pr (.cell 8) [(.var 0)]), (.var 4)])]), (.pr (.cell 8) [(.pr .at [(.pr (.cell 8) [(.var 0)]), (.var 4)])])])])]), (.pr (.cell 2) [(.app 51 [(.pr .row [(.pr (.cell 0) [(.pr .at [(.pr (.cell 8) [(.var 0)]), (.var 4)])]), (.pr (.cell 1) [(.pr .at [(.pr (.cell 8) [(.var 0)]), (.var 4)])]), (.pr (.cell 2) [(.pr .at [(.pr (.cell 8) [(.var 0)]), (.var 4)])]), (.pr (.cell 3) [(.pr .at [(.pr (.cell 8) [(.var 0)]), (.var 4)])]), (.pr (.cell 4) [(.pr .at [(.pr (.cell 8) [(.var 0)]), (.var 4)])]), (.pr (.cell 5) [(.pr .at [(.pr (.cell 8) [(.var 0)]), (.var 4)])]), (.pr (.cell 6) [(.pr .at [(.pr (.cell 8) [(.var 0)]), (.var 4)])]), (.pr (.cell 7) [(.pr .at [(.pr (.cell 8) [(.var 0)]), (.var 4)])]), (.pr (.cell 8) [(.pr .at [(.pr (.cell 8) [(.var 0)]), (.var 4)])])])])]), (.pr (.cell 3) [(.app 51 [(.pr .row [(.pr (.cell 0) [(.pr .at [(.pr (.cell 8) [(.var 0)]), (.var 4)])]), (.pr (.cell 1) [(.pr .at [(.pr (.cell 8) [(.var 0)]), (.var 4)])]), (.pr (.cell 2) [(.pr .at [(.pr (.cell 8) [(.var 0)]), (.var 4)])]), (.pr (.cell 3) [(.pr .at [(.pr (.cell 8) [(.var 0)]), (.var 4)])]), (.pr (.cell 4) [(.pr .at [(.pr (.cell 8) [(.var 0)]), (.var 4)])]), (.pr (.cell 5) [(.pr .at [(.pr (.cell 8) [(.var 0)]), (.var 4)])]), (.pr (.cell 6) [(.pr .at [(.pr (.cell 8) [(.var 0)]), (.var 4)])]), (.pr (.cell 7) [(.pr .at [(.pr (.cell 8) [(.var 0)]), (.var 4)])]), (.pr (.cell 8) [(.pr .at [(.pr (.cell 8) [(.var 0)]), (.var 4)])])])])]), (.pr (.cell 4) [(.app 51 [(.pr .row [(.pr (.cell 0) [(.pr .at [(.pr (.cell 8) [(.var 0)]), (.var 4)])]), (.pr (.cell 1) [(.pr .at [(.pr (.cell 8) [(.var 0)]), (.var 4)])]), (.pr (.cell 2) [(.pr .at [(.pr (.cell 8) [(.var 0)]), (.var 4)])]), (.pr (.cell 3) [(.pr .at [(.pr (.cell 8) [(.var 0)]), (.var 4)])]), (.pr (.cell 4) [(.pr .at [(.pr (.cell 8) [(.var 0)]), (.var 4)])]), (.pr (.cell 5) [(.pr .at [(.pr (.cell 8) [(.var 0)]), (.var 4)])]), (.pr (.cell 6) [(.pr .at [(.pr (.cell 8) [(.var 0)]), (.var 4)])]), (.pr (.cell 7) [(.pr .at [(.pr (.cell 8) [(.var 0)]), (.var 4)])]), (.pr (.cell 8) [(.pr .at [(.pr (.cell 8) [(.var 0)]), (.var 4)])])])])]), (.pr (.cell 5) [(.app 51 [(.pr .row [(.pr (.cell 0) [(.pr .at [(.pr (.cell 8) [(.var 0)]), (.var 4)])]), (.pr (.cell 1) [(.pr .at [(.pr (.cell 8) [(.var 0)]), (.var 4)])]), (.pr (.cell 2) [(.pr .at [(.pr (.cell 8) [(.var 0)]), (.var 4)])]), (.pr (.cell 3) [(.pr .at [(.pr (.cell 8) [(.var 0)]), (.var 4)])]), (.pr (.cell 4) [(.pr .at [(.pr (.cell 8) [(.var 0)]), (.var 4)])]), (.pr (.cell 5) [(.pr .at [(.pr (.cell 8) [(.var 0)]), (.var 4)])]), (.pr (.cell 6) [(.pr .at [(.pr (.cell 8) [(.var 0)]), (.var 4)])]), (.pr (.cell 7) [(.pr .at [(.pr (.cell 8) [(.var 0)]), (.var 4)])]), (.pr (.cell 8) [(.pr .at [(.pr (.cell 8) [(.var 0)]), (.var 4)])])])])]), (.pr (.cell 6) [(.app 51 [(.pr .row [(.pr (.cell 0) [(.pr .at [(.pr (.cell 8) [(.var 0)]), (.var 4)])]), (.pr (.cell 1) [(.pr .at [(.pr (.cell 8) [(.var 0)]), (.var 4)])]), (.pr (.cell 2) [(.pr .at [(.pr (.cell 8) [(.var 0)]), (.var 4)])]), (.pr (.cell 3) [(.pr .at [(.pr (.cell 8) [(.var 0)]), (.var 4)])]), (.pr (.cell 4) [(.pr .at [(.pr (.cell 8) [(.var 0)]), (.var 4)])]), (.pr (.cell 5) [(.pr .at [(.pr (.cell 8) [(.var 0)]), (.var 4)])]), (.pr (.cell 6) [(.pr .at [(.pr (.cell 8) [(.var 0)]), (.var 4)])]), (.pr (.cell 7) [(.pr .at [(.pr (.cell 8) [(.var 0)]), (.var 4)])]), (.pr (.cell 8) [(.pr .at [(.pr (.cell 8) [(.var 0)]), (.var 4)])])])])]), (.pr (.cell 7) [(.app 51 [(.pr .row [(.pr (.cell 0) [(.pr .at [(.pr (.cell 8) [(.var 0)]), (.var 4)])]), (.pr (.cell 1) [(.pr .at [(.pr (.cell 8) [(.var 0)]), (.var 4)])]), (.pr (.cell 2) [(.pr .at [(.pr (.cell 8) [(.var 0)]), (.var 4)])]), (.pr (.cell 3) [(.pr .at [(.pr (.cell 8) [(.var 0)]), (.var 4)])]), (.pr (.cell 4) [(.pr .at [(.pr (.cell 8) [(.var 0)]), (.var 4)])]), (.pr (.cell 5) [(.pr .at [(.pr (.cell 8) [(.var 0)]), (.var 4)])]), (.pr (.cell 6) [(.pr .at [(.pr (.cell 8) [(.var 0)]), (.var 4)])]), (.pr (.cell 7) [(.pr .at [(.pr (.cell 8) [(.var 0)]), (.var 4)])]), (.pr (.cell 8) [(.pr .at [(.pr (.cell 8) [(.var 0)]), (.var 4)])])])])]), (.pr (.cell 8) [(.app 51 [(.pr .row [(.pr (.cell 0) [(.pr .at [(.pr (.cell 8) [(.var 0)]), (.var 4)])]), (.pr (.cell 1) [(.pr .at [(.pr (.cell 8) [(.var 0)]), (.var 4)])]), (.pr (.cell 2) [(.pr .at [(.pr (.cell 8) [(.var 0)]), (.var 4)])]), (.pr (.cell 3) [(.pr .at [(.pr (.cell 8) [(.var 0)]), (.var 4)])]), (.pr (.cell 4) [(.pr .at [(.pr (.cell 8) [(.var 0)]), (.var 4)])]), (.pr (.cell 5) [(.pr .at [(.pr (.cell 8) [(.var 0)]), (.var 4)])]), (.pr (.cell 6) [(.pr .at [(.pr (.cell 8) [(.var 0)]), (.var 4)])]), (.pr (.cell 7) [(.pr .at [(.pr (.cell 8) [(.var 0)]), (.var 4)])]), (.pr (.cell 8) [(.pr .at [(.pr (.cell 8) [(.var 0)]), (.var 4)])])])])])])])])]), (.lit (.int .i64 4294967296))])
 (.leaf (.go 0 [(.pr .row [(.pr (.cell 0) [(.var 0)]), (.pr (.cell 1) [(.var 0)]), (.pr (.cell 2) [(.var 0)]), (.pr (.cell 3) [(.var 0)]), (.pr (.cell 4) [(.var 0)]), (.pr (.cell 5) [(.var 0)]), (.pr (.cell 6) [(.var 0)]), (.pr (.cell 7) [(.var 0)]), (.pr (.cell 8) [(.var 0)])]), (.pr .row [(.pr (.cell 0) [(.var 1)]), (.pr (.cell 1) [(.var 1)]), (.pr (.cell 2) [(.var 1)]), (.pr (.cell 3) [(.var 1)]), (.pr (.cell 4) [(.var 1)]), (.pr (.cell 5) [(.var 1)]), (.pr (.cell 6) [(.var 1)]), (.pr (.cell 7) [(.var 1)]), (.pr (.cell 8) [(.var 1)])]), (.var 2), (.pr .cat [(.var 3), (.pr .lst [(.pr .row [(.pr (.cell 0) [(.app 51 [(.pr .row [(.pr (.cell 0) [(.pr .at [(.pr (.cell 8) [(.var 0)]), (.var 4)])]), (.pr (.cell 1) [(.pr .at [(.pr (.cell 8) [(.var 0)]), (.var 4)])]), (.pr (.cell 2) [(.pr .at [(.pr (.cell 8) [(.var 0)]), (.var 4)])]), (.pr (.cell 3) [(.pr .at [(.pr (.cell 8) [(.var 0)]), (.var 4)])]), (.pr (.cell 4) [(.pr .at [(.pr (.cell 8) [(.var 0)]), (.var 4)])]), (.pr (.cell 5) [(.pr .at [(.pr (.cell 8) [(.var 0)]), (.var 4)])]), (.pr (.cell 6) [(.pr .at [(.pr (.cell 8) [(.var 0)]), (.var 4)])]), (.pr (.cell 7) [(.pr .at [(.pr (.cell 8) [(.var 0)]), (.var 4)])]), (.pr (.cell 8) [(.pr .at [(.pr (.cell 8) [(.var 0)]), (.var 4)])])])])]), (.pr (.cell 1) [(.app 51 [(.pr .row [(.pr (.cell 0) [(.pr .at [(.pr (.cell 8) [(.var 0)]), (.var 4)])]), (.pr (.cell 1) [(.pr .at [(.pr (.cell 8) [(.var 0)]), (.var 4)])]), (.pr (.cell 2) [(.pr .at [(.pr (.cell 8) [(.var 0)]), (.var 4)])]), (.pr (.cell 3) [(.pr .at [(.pr (.cell 8) [(.var 0)]), (.var 4)])]), (.pr (.cell 4) [(.pr .at [(.pr (.cell 8) [(.var 0)]), (.var 4)])]), (.pr (.cell 5) [(.pr .at [(.pr (.cell 8) [(.var 0)]), (.var 4)])]), (.pr (.cell 6) [(.pr .at [(.pr (.cell 8) [(.var 0)]), (.var 4)])]), (.pr (.cell 7) [(.pr .at [(.pr (.cell 8) [(.var 0)]), (.var 4)])]), (.pr (.cell 8) [(.pr .at [(.pr (.cell 8) [(.var 0)]), (.var 4)])])])])]), (.pr (.cell 2) [(.app 51 [(.pr .row [(.pr (.cell 0) [(.pr .at [(.pr (.cell 8) [(.var 0)]), (.var 4)])]), (.pr (.cell 1) [(.pr .at [(.pr (.cell 8) [(.var 0)]), (.var 4)])]), (.pr (.cell 2) [(.pr .at [(.pr (.cell 8) [(.var 0)]), (.var 4)])]), (.pr (.cell 3) [(.pr .at [(.pr (.cell 8) [(.var 0)]), (.var 4)])]), (.pr (.cell 4) [(.pr .at [(.pr (.cell 8) [(.var 0)]), (.var 4)])]), (.pr (.cell 5) [(.pr .at [(.pr (.cell 8) [(.var 0)]), (.var 4)])]), (.pr (.cell 6) [(.pr .at [(.pr (.cell 8) [(.var 0)]), (.var 4)])]), (.pr (.cell 7) [(.pr .at [(.pr (.cell 8) [(.var 0)]), (.var 4)])]), (.pr (.cell 8) [(.pr .at [(.pr (.cell 8) [(.var 0)]), (.var 4)])])])])]), (.pr (.cell 3) [(.app 51 [(.pr .row [(.pr (.cell 0) [(.pr .at [(.pr (.cell 8) [(.var 0)]), (.var 4)])]), (.pr (.cell 1) [(.pr .at [(.pr (.cell 8) [(.var 0)]), (.var 4)])]), (.pr (.cell 2) [(.pr .at [(.pr (.cell 8) [(.var 0)]), (.var 4)])]), (.pr (.cell 3) [(.pr .at [(.pr (.cell 8) [(.var 0)]), (.var 4)])]), (.pr (.cell 4) [(.pr .at [(.pr (.cell 8) [(.var 0)]), (.var 4)])]), (.pr (.cell 5) [(.pr .at [(.pr (.cell 8) [(.var 0)]), (.var 4)])]), (.pr (.cell 6) [(.pr .at [(.pr (.cell 8) [(.var 0)]), (.var 4)])]), (.pr (.cell 7) [(.pr .at [(.pr (.cell 8) [(.var 0)]), (.var 4)])]), (.pr (.cell 8) [(.pr .at [(.pr (.cell 8) [(.var 0)]), (.var 4)])])])])]), (.pr (.cell 4) [(.app 51 [(.pr .row [(.pr (.cell 0) [(.pr .at [(.pr (.cell 8) [(.var 0)]), (.var 4)])]), (.pr (.cell 1) [(.pr .at [(.pr (.cell 8) [(.var 0)]), (.var 4)])]), (.pr (.cell 2) [(.pr .at [(.pr (.cell 8) [(.var 0)]), (.var 4)])]), (.pr (.cell 3) [(.pr .at [(.pr (.cell 8) [(.var 0)]), (.var 4)])]), (.pr (.cell 4) [(.pr .at [(.pr (.cell 8) [(.var 0)]), (.var 4)])]), (.pr (.cell 5) [(.pr .at [(.pr (.cell 8) [(.var 0)]), (.var 4)])]), (.pr (.cell 6) [(.pr .at [(.pr (.cell 8) [(.var 0)]), (.var 4)])]), (.pr (.cell 7) [(.pr .at [(.pr (.cell 8) [(.var 0)]), (.var 4)])]), (.pr (.cell 8) [(.pr .at [(.pr (.cell 8) [(.var 0)]), (.var 4)])])])])]), (.pr (.cell 5) [(.app 51 [(.pr .row [(.pr (.cell 0) [(.pr .at [(.pr (.cell 8) [(.var 0)]), (.var 4)])]), (.pr (.cell 1) [(.pr .at [(.pr (.cell 8) [(.var 0)]), (.var 4)])]), (.pr (.cell 2) [(.pr .at [(.pr (.cell 8) [(.var 0)]), (.var 4)])]), (.pr (.cell 3) [(.pr .at [(.pr (.cell 8) [(.var 0)]), (.var 4)])]), (.pr (.cell 4) [(.pr .at [(.pr (.cell 8) [(.var 0)]), (.var 4)])]), (.pr (.cell 5) [(.pr .at [(.pr (.cell 8) [(.var 0)]), (.var 4)])]), (.pr (.cell 6) [(.pr .at [(.pr (.cell 8) [(.var 0)]), (.var 4)])]), (.pr (.cell 7) [(.pr .at [(.pr (.cell 8) [(.var 0)]), (.var 4)])]), (.pr (.cell 8) [(.pr .at [(.pr (.cell 8) [(.var 0)]), (.var 4)])])])])]), (.pr (.cell 6) [(.app 51 [(.pr .row [(.pr (.cell 0) [(.pr .at [(.pr (.cell 8) [(.var 0)]), (.var 4)])]), (.pr (.cell 1) [(.pr .at [(.pr (.cell 8) [(.var 0)]), (.var 4)])]), (.pr (.cell 2) [(.pr .at [(.pr (.cell 8) [(.var 0)]), (.var 4)])]), (.pr (.cell 3) [(.pr .at [(.pr (.cell 8) [(.var 0)]), (.var 4)])]), (.pr (.cell 4) [(.pr .at [(.pr (.cell 8) [(.var 0)]), (.var 4)])]), (.pr (.cell 5) [(.pr .at [(.pr (.cell 8) [(.var 0)]), (.var 4)])]), (.pr (.cell 6) [(.pr .at [(.pr (.cell 8) [(.var 0)]), (.var 4)])]), (.pr (.cell 7) [(.pr .at [(.pr (.cell 8) [(.var 0)]), (.var 4)])]), (.pr (.cell 8) [(.pr .at [(.pr (.cell 8) [(.var 0)]), (.var 4)])])])])]), (.pr (.cell 7) [(.app 51 [(.pr .row [(.pr (.cell 0) [(.pr .at [(.pr (.cell 8) [(.var 0)]), (.var 4)])]), (.pr (.cell 1) [(.pr .at [(.pr (.cell 8) [(.var 0)]), (.var 4)])]), (.pr (.cell 2) [(.pr .at [(.pr (.cell 8) [(.var 0)]), (.var 4)])]), (.pr (.cell 3) [(.pr .at [(.pr (.cell 8) [(.var 0)]), (.var 4)])]), (.pr (.cell 4) [(.pr .at [(.pr (.cell 8) [(.var 0)]), (.var 4)])]), (.pr (.cell 5) [(.pr .at [(.pr (.cell 8) [(.var 0)]), (.var 4)])]), (.pr (.cell 6) [(.pr .at [(.pr (.cell 8) [(.var 0)]), (.var 4)])]), (.pr (.cell 7) [(.pr .at [(.pr (.cell 8) [(.var 0)]), (.var 4)])]), (.pr (.cell 8) [(.pr .at [(.pr (.cell 8) [(.var 0)]), (.var 4)])])])])]), (.pr (.cell 8) [(.app 51 [(.pr .row [(.pr (.cell 0) [(.pr .at [(.pr (.cell 8) [(.var 0)]), (.var 4)])]), (.pr (.cell 1) [(.pr .at [(.pr (.cell 8) [(.var 0)]), (.var 4)])]), (.pr (.cell 2) [(.pr .at [(.pr (.cell 8) [(.var 0)]), (.var 4)])]), (.pr (.cell 3) [(.pr .at [(.pr (.cell 8) [(.var 0)]), (.var 4)])]), (.pr (.cell 4) [(.pr .at [(.pr (.cell 8) [(.var 0)]), (.var 4)])]), (.pr (.cell 5) [(.pr .at [(.pr (.cell 8) [(.var 0)]), (.var 4)])]), (.pr (.cell 6) [(.pr .at [(.pr (.cell 8) [(.var 0)]), (.var 4)])]), (.pr (.cell 7) [(.pr .at [(.pr (.cell 8) [(.var 0)]), (.var 4)])]), (.pr (.cell 8) [(.pr .at [(.pr (.cell 8) [(.var 0)]), (.var 4)])])])])])])])]), (.pr (.iop .add .i64) [(.var 4), (.lit (.int .i64 1))])]))))))
 (.leaf (.ret (.pr .row [(.pr (.cell 0) [(.var 0)]), (.pr (.cell 1) [(.var 0)]), (.pr (.cell 2) [(.var 0)]), (.pr (.cell 3) [(.var 0)]), (.pr (.cell 4) [(.var 0)]), (.pr (.cell 5) [(.var 0)]), (.pr (.cell 6) [(.var 0)]), (.var 2), (.var 3)]))))
def head_copy_1 : Tree :=
 (.ite (.pr (.icmp .lss) [(.var 3), (.pr .len [(.pr (.cell 8) [(.var 0)])])])
 (.giv (.pr (.icmp .leq) [(.lit (.int .i64 0)), (.var 3)])
 (.giv (.app 1000 [(.pr .row [(.pr (.cell 0) [(.pr .at [(.pr (.cell 8) [(.var 0)]), (.var 3)])]), (.pr (.cell 1) [(.pr .at [(.pr (.cell 8) [(.var 0)]), (.var 3)])]), (.pr (.cell 2) [(.pr .at [(.pr (.cell 8) [(.var 0)]), (.var 3)])]), (.pr (.cell 3) [(.pr .at [(.pr (.cell 8) [(.var 0)]), (.var 3)])]), (.pr (.cell 4) [(.pr .at [(.pr (.cell 8) [(.var 0)]), (.var 3)])]), (.pr (.cell 5) [(.pr .at [(.pr (.cell 8) [(.var 0)]), (.var 3)])]), (.pr (.cell 6) [(.pr .at [(.pr (.cell 8) [(.var 0)]), (.var 3)])]), (.pr (.cell 7) [(.pr .at [(.pr (.cell 8) [(.var 0)]), (.var 3)])]), (.pr (.cell 8) [(.pr .at [(.pr (.cell 8) [(.var 0)]), (.var 3)])])])])
 (.giv (.app 2051 [(.pr .row [(.pr (.cell 0) [(.pr .at [(.pr (.cell 8) [(.var 0)]), (.var 3)])]), (.pr (.cell 1) [(.pr .at [(.pr (.cell 8) [(.var 0)]), (.var 3)])]), (.pr (.cell 2) [(.pr .at [(.pr (.cell 8) [(.var 0)]), (.var 3)])]), (.pr (.cell 3) [(.pr .at [(.pr (.cell 8) [(.var 0)]), (.var 3)])]), (.pr (.cell 4) [(.pr .at [(.pr (.cell 8) [(.var 0)]), (.var 3)])]), (.pr (.cell 5) [(.pr .at [(.pr (.cell 8) [(.var 0)]), (.var 3)])]), (.pr (.cell 6) [(.pr .at [(.pr (.cell 8) [(.var 0)]), (.var 3)])]), (.pr (.cell 7) [(.pr .at [(.pr (.cell 8) [(.var 0)]), (.var 3)])]), (.pr (.cell 8) [(.pr .at [(.pr (.cell 8) [(.var 0)]), (.var 3)])])])])
 (.leaf (.go 0 [(.pr .row [(.pr (.cell 0) [(.var 0)]), (.pr (.cell 1) [(.var 0)]), (.pr (.cell 2) [(.var 0)]), (.pr (.cell 3) [(.var 0)]), (.pr (.cell 4) [(.var 0)]), (.pr (.cell 5) [(.var 0)]), (.pr (.cell 6) [(.var 0)]), (.pr (.cell 7) [(.var 0)]), (.pr (.cell 8) [(.var 0)])]), (.pr .row [(.pr (.cell 0) [(.var 1)]), (.pr (.cell 1) [(.var 1)]), (.pr (.cell 2) [(.var 1)]), (.pr (.cell 3) [(.var 1)]), (.pr (.cell 4) [(.var 1)]), (.pr (.cell 5) [(.var 1)]), (.pr (.cell 6) [(.var 1)]), (.pr (.cell 7) [(.var 1)]), (.pr (.cell 8) [(.var 1)])]), (.var 2), (.pr .lst [(.pr .row [(.pr (.cell 0) [(.app 51 [(.pr .row [(.pr (.cell 0) [(.pr .at [(.pr (.cell 8) [(.var 0)]), (.var 3)])]), (.pr (.cell 1) [(.pr .at [(.pr (.cell 8) [(.var 0)]), (.var 3)])]), (.pr (.cell 2) [(.pr .at [(.pr (.cell 8) [(.var 0)]), (.var 3)])]), (.pr (.cell 3) [(.pr .at [(.pr (.cell 8) [(.var 0)]), (.var 3)])]), (.pr (.cell 4) [(.pr .at [(.pr (.cell 8) [(.var 0)]), (.var 3)])]), (.pr (.cell 5) [(.pr .at [(.pr (.cell 8) [(.var 0)]), (.var 3)])]), (.pr (.cell 6) [(.pr .at [(.pr (.cell 8) [(.var 0)]), (.var 3)])]), (.pr (.cell 7) [(.pr .at [(.pr (.cell 8) [(.var 0)]), (.var 3)])]), (.pr (.cell 8) [(.pr .at [(.pr (.cell 8) [(.var 0)]), (.var 3)])])])])]), (.pr (.cell 1) [(.app 51 [(.pr .row [(.pr (.cell 0) [(.pr .at [(.pr (.cell 8) [(.var 0)]), (.var 3)])]), (.pr (.cell 1) [(.pr .at [(.pr (.cell 8) [(.var 0)]), (.var 3)])]), (.pr (.cell 2) [(.pr .at [(.pr (.cell 8) [(.var 0)]), (.var 3)])]), (.pr (.cell 3) [(.pr .at [(.pr (.cell 8) [(.var 0)]), (.var 3)])]), (.pr (.cell 4) [(.pr .at [(.pr (.cell 8) [(.var 0)]), (.var 3)])]), (.pr (.cell 5) [(.pr .at [(.pr (.cell 8) [(.var 0)]), (.var 3)])]), (.pr (.cell 6) [(.pr .at [(.pr (.cell 8) [(.var 0)]), (.var 3)])]), (.pr (.cell 7) [(.pr .at [(.pr (.cell 8) [(.var 0)]), (.var 3)])]), (.pr (.cell 8) [(.pr .at [(.pr (.cell 8) [(.var 0)]), (.var 3)])])])])]), (.pr (.cell 2) [(.app 51 [(.pr .row [(.pr (.cell 0) [(.pr .at [(.pr (.cell 8) [(.var 0)]), (.var 3)])]), (.pr (.cell 1) [(.pr .at [(.pr (.cell 8) [(.var 0)]), (.var 3)])]), (.pr (.cell 2) [(.pr .at [(.pr (.cell 8) [(.var 0)]), (.var 3)])]), (.pr (.cell 3) [(.pr .at [(.pr (.cell 8) [(.var 0)]), (.var 3)])]), (.pr (.cell 4) [(.pr .at [(.pr (.cell 8) [(.var 0)]), (.var 3)])]), (.pr (.cell 5) [(.pr .at [(.pr (.cell 8) [(.var 0)]), (.var 3)])]), (.pr (.cell 6) [(.pr .at [(.pr (.cell 8) [(.var 0)]), (.var 3)])]), (.pr (.cell 7) [(.pr .at [(.pr (.cell 8) [(.var 0)]), (.var 3)])]), (.pr (.cell 8) [(.pr .at [(.pr (.cell 8) [(.var 0)]), (.var 3)])])])])]), (.pr (.cell 3) [(.app 51 [(.pr .row [(.pr (.cell 0) [(.pr .at [(.pr (.cell 8) [(.var 0)]), (.var 3)])]), (.pr (.cell 1) [(.pr .at [(.pr (.cell 8) [(.var 0)]), (.var 3)])]), (.pr (.cell 2) [(.pr .at [(.pr (.cell 8) [(.var 0)]), (.var 3)])]), (.pr (.cell 3) [(.pr .at [(.pr (.cell 8) [(.var 0)]), (.var 3)])]), (.pr (.cell 4) [(.pr .at [(.pr (.cell 8) [(.var 0)]), (.var 3)])]), (.pr (.cell 5) [(.pr .at [(.pr (.cell 8) [(.var 0)]), (.var 3)])]), (.pr (.cell 6) [(.pr .at [(.pr (.cell 8) [(.var 0)]), (.var 3)])]), (.pr (.cell 7) [(.pr .at [(.pr (.cell 8) [(.var 0)]), (.var 3)])]), (.pr (.cell 8) [(.pr .at [(.pr (.cell 8) [(.var 0)]), (.var 3)])])])])]), (.pr (.cell 4) [(.app 51 [(.pr .row [(.pr (.cell 0) [(.pr .at [(.pr (.cell 8) [(.var 0)]), (.var 3)])]), (.pr (.cell 1) [(.pr .at [(.pr (.cell 8) [(.var 0)]), (.var 3)])]), (.pr (.cell 2) [(.pr .at [(.pr (.cell 8) [(.var 0)]), (.var 3)])]), (.pr (.cell 3) [(.pr .at [(.pr (.cell 8) [(.var 0)]), (.var 3)])]), (.pr (.cell 4) [(.pr .at [(.pr (.cell 8) [(.var 0)]), (.var 3)])]), (.pr (.cell 5) [(.pr .at [(.pr (.cell 8) [(.var 0)]), (.var 3)])]), (.pr (.cell 6) [(.pr .at [(.pr (.cell 8) [(.var 0)]), (.var 3)])]), (.pr (.cell 7) [(.pr .at [(.pr (.cell 8) [(.var 0)]), (.var 3)])]), (.pr (.cell 8) [(.pr .at [(.pr (.cell 8) [(.var 0)]), (.var 3)])])])])]), (.pr (.cell 5) [(.app 51 [(.pr .row [(.pr (.cell 0) [(.pr .at [(.pr (.cell 8) [(.var 0)]), (.var 3)])]), (.pr (.cell 1) [(.pr .at [(.pr (.cell 8) [(.var 0)]), (.var 3)])]), (.pr (.cell 2) [(.pr .at [(.pr (.cell 8) [(.var 0)]), (.var 3)])]), (.pr (.cell 3) [(.pr .at [(.pr (.cell 8) [(.var 0)]), (.var 3)])]), (.pr (.cell 4) [(.pr .at [(.pr (.cell 8) [(.var 0)]), (.var 3)])]), (.pr (.cell 5) [(.pr .at [(.pr (.cell 8) [(.var 0)]), (.var 3)])]), (.pr (.cell 6) [(.pr .at [(.pr (.cell 8) [(.var 0)]), (.var 3)])]), (.pr (.cell 7) [(.pr .at [(.pr (.cell 8) [(.var 0)]), (.var 3)])]), (.pr (.cell 8) [(.pr .at [(.pr (.cell 8) [(.var 0)]), (.var 3)])])])])]), (.pr (.cell 6) [(.app 51 [(.pr .row [(.pr (.cell 0) [(.pr .at [(.pr (.cell 8) [(.var 0)]), (.var 3)])]), (.pr (.cell 1) [(.pr .at [(.pr (.cell 8) [(.var 0)]), (.var 3)])]), (.pr (.cell 2) [(.pr .at [(.pr (.cell 8) [(.var 0)]), (.var 3)])]), (.pr (.cell 3) [(.pr .at [(.pr (.cell 8) [(.var 0)]), (.var 3)])]), (.pr (.cell 4) [(.pr .at [(.pr (.cell 8) [(.var 0)]), (.var 3)])]), (.pr (.cell 5) [(.pr .at [(.pr (.cell 8) [(.var 0)]), (.var 3)])]), (.pr (.cell 6) [(.pr .at [(.pr (.cell 8) [(.var 0)]), (.var 3)])]), (.pr (.cell 7) [(.pr .at [(.pr (.cell 8) [(.var 0)]), (.var 3)])]), (.pr (.cell 8) [(.pr .at [(.pr (.cell 8) [(.var 0)]), (.var 3)])])])])]), (.pr (.cell 7) [(.app 51 [(.pr .row [(.pr (.cell 0) [(.pr .at [(.pr (.cell 8) [(.var 0)]), (.var 3)])]), (.pr (.cell 1) [(.pr .at [(.pr (.cell 8) [(.var 0)]), (.var 3)])]), (.pr (.cell 2) [(.pr .at [(.pr (.cell 8) [(.var 0)]), (.var 3)])]), (.pr (.cell 3) [(.pr .at [(.pr (.cell 8) [(.var 0)]), (.var 3)])]), (.pr (.cell 4) [(.pr .at [(.pr (.cell 8) [(.var 0)]), (.var 3)])]), (.pr (.cell 5) [(.pr .at [(.pr (.cell 8) [(.var 0)]), (.var 3)])]), (.pr (.cell 6) [(.pr .at [(.pr (.cell 8) [(.var 0)]), (.var 3)])]), (.pr (.cell 7) [(.pr .at [(.pr (.cell 8) [(.var 0)]), (.var 3)])]), (.pr (.cell 8) [(.pr .at [(.pr (.cell 8) [(.var 0)]), (.var 3)])])])])]), (.pr (.cell 8) [(.app 51 [(.pr .row [(.pr (.cell 0) [(.pr .at [(.pr (.cell 8) [(.var 0)]), (.var 3)])]), (.pr (.cell 1) [(.pr .at [(.pr (.cell 8) [(.var 0)]), (.var 3)])]), (.pr (.cell 2) [(.pr .at [(.pr (.cell 8) [(.var 0)]), (.var 3)])]), (.pr (.cell 3) [(.pr .at [(.pr (.cell 8) [(.var 0)]), (.var 3)])]), (.pr (.cell 4) [(.pr .at [(.pr (.cell 8) [(.var 0)]), (.var 3)])]), (.pr (.cell 5) [(.pr .at [(.pr (.cell 8) [(.var 0)]), (.var 3)])]), (.pr (.cell 6) [(.pr .at [(.pr (.cell 8) [(.var 0)]), (.var 3)])]), (.pr (.cell 7) [(.pr .at [(.pr (.cell 8) [(.var 0)]), (.var 3)])]), (.pr (.cell 8) [(.pr .at [(.pr (.cell 8) [(.var 0)]), (.var 3)])])])])])])]), (.pr (.iop .add .i64) [(.var 3), (.lit (.int .i64 1))])])))))
 (.leaf (.ret (.pr .row [(.pr (.cell 0) [(.var 0)]), (.pr (.cell 1) [(.var 0)]), (.pr (.cell 2) [(.var 0)]), (.pr (.cell 3) [(.var 0)]), (.pr (.cell 4) [(.var 0)]), (.pr (.cell 5) [(.var 0)]), (.pr (.cell 6) [(.var 0)]), (.var 2), (.pr .lst [])]))))
def trees_copy : List Tree := [head_copy_0, head_copy_1]
noncomputable def deps_copy : List Sig := [q_copy]
theorem ok_copy : check q_copy deps_copy heads_copy entry_copy trees_copy = true := by kernel_rfl
theorem copy_step (n : Nat) (ih : @Ok (I n) q_copy (@okS (I n) n q_copy.g)) : @Ok (I n) q_copy (@okS (I n) (n + 1) q_copy.g) := by
  letI := I n
  refine fn_okS (hphi n) ok_copy (by intro q hq; simp only [deps_copy, List.mem_singleton] at hq; subst hq; exact ih)
    (fun j d ds => ∃ (v : Val) (r : D) (i : Nat), smallV v = true ∧ i ≤ v.list.length ∧ v.list.length ≤ lim ∧ (∀ x, x ∈ v.list → okD n [x.toD]) ∧ d = v.toD ∧
      ((j = 0 ∧ ds = [v.toD, r, strsD v.names, valsD (v.list.take i), iD i]) ∨ (j = 1 ∧ i = 0 ∧ ds = [v.toD, r, strsD v.names, iD i])))
    (fun j ds => (ds.getD 0 .nil).val1.list.length - (if j = 0 then (ds.getD 4 .nil).int.toNat else (ds.getD 3 .nil).int.toNat)) ?_ ?_
  · intro ds hf hp
    obtain ⟨v, rfl⟩ := one_val hf
    obtain ⟨h1, h2, h3⟩ := okD_list hp.1
    have hs := (pre_copy n v).1 (hp.2 rfl)
    have hs' := (smallV_iff v).1 hs
    simp only [entry_copy, q_copy, Tree.holds, Out.den, E.den, E.denL, den1, den2, den3, den4, den5, den6, den7, den8, Bool.not_eq_true', Bool.not_eq_false', List.getD_cons_zero, List.getD_cons_succ, true_and, and_true, List.length_map, phi_1000, phi_copy]
    exact ⟨by omega, v, _, 0, hs, Nat.zero_le _, h2, h3, rfl, .inr ⟨rfl, rfl⟩⟩
  · rintro j h t d ds hj ht hf ⟨v, r, i, hs, hi, hl, ho, rfl, ⟨rfl, rfl⟩ | ⟨rfl, rfl, rfl⟩⟩
    · obtain rfl : t = head_copy_0 := (Option.some.inj ht).symm
      obtain ⟨s1, s2, s3⟩ := (smallV_iff v).1 hs
      by_cases hlt : i < v.list.length
      · obtain ⟨x, hx, hxm, hd⟩ := drop_get hlt
        simp only [head_copy_0, Tree.holds, Out.den, E.den, E.denL, den1, den2, den3, den4, den5, den6, den7, den8, Bool.not_eq_true', Bool.not_eq_false', List.getD_cons_zero, List.getD_cons_succ, true_and, and_true, List.length_map, phi_1000, rowAt_map hx, phi_copy, pre_copy, wrap_succ hlt hl, take_map hx, s3 x hxm, val1_toD]
        refine ⟨fun _ => ⟨by omega, ho x hxm, ?_, ⟨v, _, i + 1, hs, hlt, hl, ho, rfl, .inl rfl⟩, ?_⟩, fun h => by omega⟩
        · rw [List.length_take]; omega
        · simp only [if_true]; omega
      · simp only [head_copy_0, Tree.holds, Out.den, E.den, E.denL, den1, den2, den3, den4, den5, den6, den7, den8, Bool.not_eq_true', Bool.not_eq_false', List.getD_cons_zero, List.getD_cons_succ, true_and, and_true, List.length_map, phi_1000]
        refine ⟨fun h => by omega, fun _ => ?_⟩
        rw [List.take_of_length_le (by omega), toD_put]
    · obtain rfl : t = head_copy_1 := (Option.some.inj ht).symm
      obtain ⟨s1, s2, s3⟩ := (smallV_iff v).1 hs
      by_cases hlt : 0 < v.list.length
      · obtain ⟨x, hx, hxm, hd⟩ := drop_get hlt
        have e : [x.toD] = (v.list.take 1).map Val.toD := take_map hx
        simp only [head_copy_1, Tree.holds, Out.den, E.den, E.denL, den1, den2, den3, den4, den5, den6, den7, den8, Bool.not_eq_true', Bool.not_eq_false', List.getD_cons_zero, List.getD_cons_succ, true_and, and_true, List.length_map, phi_1000, rowAt_map hx, phi_copy, pre_copy, wrap_succ hlt hl, s3 x hxm, val1_toD]
        refine ⟨fun _ => ⟨by omega, ho x hxm, ⟨v, .row [cellAt r 0, cellAt r 1, cellAt r 2, cellAt r 3, cellAt r 4, cellAt r 5, cellAt r 6, cellAt r 7, cellAt r 8], 1, hs, hlt, hl, ho, rfl, .inl ?_⟩, ?_⟩, fun h => by omega⟩
        · rw [e]
        · simp; omega
      · simp only [head_copy_1, Tree.holds, Out.den, E.den, E.denL, den1, den2, den3, den4, den5, den6, den7, den8, Bool.not_eq_true', Bool.not_eq_false', List.getD_cons_zero, List.getD_cons_succ, true_and, and_true, List.length_map, phi_1000]
        refine ⟨fun h => by omega, fun _ => ?_⟩
        have : v.list = [] := List.length_eq_zero_iff.1 (by omega)
        have e2 : (D.lst [] : D) = valsD v.list := by rw [this]; rfl
        rw [e2, toD_put]
theorem copy_ok : ∀ (n : Nat), @Ok (I n) q_copy (@okS (I n) n q_copy.g)
  | 0 => fun W J vs ds hL hI ha hp => absurd hp.1.1 (Nat.not_lt_zero _)
  | n + 1 => ok_irrel (by decide) (copy_step n (copy_ok n))
/-- calamus/calamuslaw04.ValueChecks: func 4, params [33], ntmps 37. -/
def heads_checks : List Hd := []
def entry_checks : Tree :=
 (.giv (.app 1000 [(.pr .row [(.pr (.cell 0) [(.var 0)]), (.pr (.cell 1) [(.var 0)]), (.pr (.cell 2) [(.var 0)]), (.pr (.cell 3) [(.var 0)]), (.pr (.cell 4) [(.var 0)]), (.pr (.cell 5) [(.var 0)]), (.pr (.cell 6) [(.var 0)]), (.pr (.cell 7) [(.var 0)]), (.pr (.cell 8) [(.var 0)])]), (.lit (.int .i64 0)), (.lit (.int .i64 65536)), (.lit (.int .i64 0))])
 (.ite (.pr (.icmp .gtr) [(.app 11 [(.pr .row [(.pr (.cell 0) [(.var 0)]), (.pr (.cell 1) [(.var 0)]), (.pr (.cell 2) [(.var 0)]), (.pr (.cell 3) [(.var 0)]), (.pr (.cell 4) [(.var 0)]), (.pr (.cell 5) [(.var 0)]), (.pr (.cell 6) [(.var 0)]), (.pr (.cell 7) [(.var 0)]), (.pr (.cell 8) [(.var 0)])]), (.lit (.int .i64 0)), (.lit (.int .i64 65536)), (.lit (.int .i64 0))]), (.lit (.int .i64 65536))])
 (.leaf (.ret (.lit (.bool true))))
 (.giv (.app 1000 [(.pr .row [(.pr (.cell 0) [(.var 0)]), (.pr (.cell 1) [(.var 0)]), (.pr (.cell 2) [(.var 0)]), (.pr (.cell 3) [(.var 0)]), (.pr (.cell 4) [(.var 0)]), (.pr (.cell 5) [(.var 0)]), (.pr (.cell 6) [(.var 0)]), (.pr (.cell 7) [(.var 0)]), (.pr (.cell 8) [(.var 0)])])])
 (.ite (.app 12 [(.pr .row [(.pr (.cell 0) [(.var 0)]), (.pr (.cell 1) [(.var 0)]), (.pr (.cell 2) [(.var 0)]), (.pr (.cell 3) [(.var 0)]), (.pr (.cell 4) [(.var 0)]), (.pr (.cell 5) [(.var 0)]), (.pr (.cell 6) [(.var 0)]), (.pr (.cell 7) [(.var 0)]), (.pr (.cell 8) [(.var 0)])])])
 (.leaf (.ret (.lit (.bool true))))
 (.giv (.app 2051 [(.pr .row [(.pr (.cell 0) [(.var 0)]), (.pr (.cell 1) [(.var 0)]), (.pr (.cell 2) [(.var 0)]), (.pr (.cell 3) [(.var 0)]), (.pr (.cell 4) [(.var 0)]), (.pr (.cell 5) [(.var 0)]), (.pr (.cell 6) [(.var 0)]), (.pr (.cell 7) [(.var 0)]), (.pr (.cell 8) [(.var 0)])])])
 (.giv (.app 1000 [(.pr .row [(.pr (.cell 0) [(.app 51 [(.pr .row [(.pr (.cell 0) [(.var 0)]), (.pr (.cell 1) [(.var 0)]), (.pr (.cell 2) [(.var 0)]), (.pr (.cell 3) [(.var 0)]), (.pr (.cell 4) [(.var 0)]), (.pr (.cell 5) [(.var 0)]), (.pr (.cell 6) [(.var 0)]), (.pr (.cell 7) [(.var 0)]), (.pr (.cell 8) [(.var 0)])])])]), (.pr (.cell 1) [(.app 51 [(.pr .row [(.pr (.cell 0) [(.var 0)]), (.pr (.cell 1) [(.var 0)]), (.pr (.cell 2) [(.var 0)]), (.pr (.cell 3) [(.var 0)]), (.pr (.cell 4) [(.var 0)]), (.pr (.cell 5) [(.var 0)]), (.pr (.cell 6) [(.var 0)]), (.pr (.cell 7) [(.var 0)]), (.pr (.cell 8) [(.var 0)])])])]), (.pr (.cell 2) [(.app 51 [(.pr .row [(.pr (.cell 0) [(.var 0)]), (.pr (.cell 1) [(.var 0)]), (.pr (.cell 2) [(.var 0)]), (.pr (.cell 3) [(.var 0)]), (.pr (.cell 4) [(.var 0)]), (.pr (.cell 5) [(.var 0)]), (.pr (.cell 6) [(.var 0)]), (.pr (.cell 7) [(.var 0)]), (.pr (.cell 8) [(.var 0)])])])]), (.pr (.cell 3) [(.app 51 [(.pr .row [(.pr (.cell 0) [(.var 0)]), (.pr (.cell 1) [(.var 0)]), (.pr (.cell 2) [(.var 0)]), (.pr (.cell 3) [(.var 0)]), (.pr (.cell 4) [(.var 0)]), (.pr (.cell 5) [(.var 0)]), (.pr (.cell 6) [(.var 0)]), (.pr (.cell 7) [(.var 0)]), (.pr (.cell 8) [(.var 0)])])])]), (.pr (.cell 4) [(.app 51 [(.pr .row [(.pr (.cell 0) [(.var 0)]), (.pr (.cell 1) [(.var 0)]), (.pr (.cell 2) [(.var 0)]), (.pr (.cell 3) [(.var 0)]), (.pr (.cell 4) [(.var 0)]), (.pr (.cell 5) [(.var 0)]), (.pr (.cell 6) [(.var 0)]), (.pr (.cell 7) [(.var 0)]), (.pr (.cell 8) [(.var 0)])])])]), (.pr (.cell 5) [(.app 51 [(.pr .row [(.pr (.cell 0) [(.var 0)]), (.pr (.cell 1) [(.var 0)]), (.pr (.cell 2) [(.var 0)]), (.pr (.cell 3) [(.var 0)]), (.pr (.cell 4) [(.var 0)]), (.pr (.cell 5) [(.var 0)]), (.pr (.cell 6) [(.var 0)]), (.pr (.cell 7) [(.var 0)]), (.pr (.cell 8) [(.var 0)])])])]), (.pr (.cell 6) [(.app 51 [(.pr .row [(.pr (.cell 0) [(.var 0)]), (.pr (.cell 1) [(.var 0)]), (.pr (.cell 2) [(.var 0)]), (.pr (.cell 3) [(.var 0)]), (.pr (.cell 4) [(.var 0)]), (.pr (.cell 5) [(.var 0)]), (.pr (.cell 6) [(.var 0)]), (.pr (.cell 7) [(.var 0)]), (.pr (.cell 8) [(.var 0)])])])]), (.pr (.cell 7) [(.app 51 [(.pr .row [(.pr (.cell 0) [(.var 0)]), (.pr (.cell 1) [(.var 0)]), (.pr (.cell 2) [(.var 0)]), (.pr (.cell 3) [(.var 0)]), (.pr (.cell 4) [(.var 0)]), (.pr (.cell 5) [(.var 0)]), (.pr (.cell 6) [(.var 0)]), (.pr (.cell 7) [(.var 0)]), (.pr (.cell 8) [(.var 0)])])])]), (.pr (.cell 8) [(.app 51 [(.pr .row [(.pr (.cell 0) [(.var 0)]), (.pr (.cell 1) [(.var 0)]), (.pr (.cell 2) [(.var 0)]), (.pr (.cell 3) [(.var 0)]), (.pr (.cell 4) [(.var 0)]), (.pr (.cell 5) [(.var 0)]), (.pr (.cell 6) [(.var 0)]), (.pr (.cell 7) [(.var 0)]), (.pr (.cell 8) [(.var 0)])])])])])])
 (.giv (.app 1000 [])
 (.ite (.app 14 [])
 (.giv (.app 2047 [(.pr .row [(.pr (.cell 0) [(.var 0)]), (.pr (.cell 1) [(.var 0)]), (.pr (.cell 2) [(.var 0)]), (.pr (.cell 3) [(.var 0)]), (.pr (.cell 4) [(.var 0)]), (.pr (.cell 5) [(.var 0)]), (.pr (.cell 6) [(.var 0)]), (.pr (.cell 7) [(.var 0)]), (.pr (.cell 8) [(.var 0)])])])
 (.ite (.pr (.icmp .eql) [(.app 13 [(.pr .row [(.pr (.cell 0) [(.app 51 [(.pr .row [(.pr (.cell 0) [(.var 0)]), (.pr (.cell 1) [(.var 0)]), (.pr (.cell 2) [(.var 0)]), (.pr (.cell 3) [(.var 0)]), (.pr (.cell 4) [(.var 0)]), (.pr (.cell 5) [(.var 0)]), (.pr (.cell 6) [(.var 0)]), (.pr (.cell 7) [(.var 0)]), (.pr (.cell 8) [(.var 0)])])])]), (.pr (.cell 1) [(.app 51 [(.pr .row [(.pr (.cell 0) [(.var 0)]), (.pr (.cell 1) [(.var 0)]), (.pr (.cell 2) [(.var 0)]), (.pr (.cell 3) [(.var 0)]), (.pr (.cell 4) [(.var 0)]), (.pr (.cell 5) [(.var 0)]), (.pr (.cell 6) [(.var 0)]), (.pr (.cell 7) [(.var 0)]), (.pr (.cell 8) [(.var 0)])])])]), (.pr (.cell 2) [(.app 51 [(.pr .row [(.pr (.cell 0) [(.var 0)]), (.pr (.cell 1) [(.var 0)]), (.pr (.cell 2) [(.var 0)]), (.pr (.cell 3) [(.var 0)]), (.pr (.cell 4) [(.var 0)]), (.pr (.cell 5) [(.var 0)]), (.pr (.cell 6) [(.var 0)]), (.pr (.cell 7) [(.var 0)]), (.pr (.cell 8) [(.var 0)])])])]), (.pr (.cell 3) [(.app 51 [(.pr .row [(.pr (.cell 0) [(.var 0)]), (.pr (.cell 1) [(.var 0)]), (.pr (.cell 2) [(.var 0)]), (.pr (.cell 3) [(.var 0)]), (.pr (.cell 4) [(.var 0)]), (.pr (.cell 5) [(.var 0)]), (.pr (.cell 6) [(.var 0)]), (.pr (.cell 7) [(.var 0)]), (.pr (.cell 8) [(.var 0)])])])]), (.pr (.cell 4) [(.app 51 [(.pr .row [(.pr (.cell 0) [(.var 0)]), (.pr (.cell 1) [(.var 0)]), (.pr (.cell 2) [(.var 0)]), (.pr (.cell 3) [(.var 0)]), (.pr (.cell 4) [(.var 0)]), (.pr (.cell 5) [(.var 0)]), (.pr (.cell 6) [(.var 0)]), (.pr (.cell 7) [(.var 0)]), (.pr (.cell 8) [(.var 0)])])])]), (.pr (.cell 5) [(.app 51 [(.pr .row [(.pr (.cell 0) [(.var 0)]), (.pr (.cell 1) [(.var 0)]), (.pr (.cell 2) [(.var 0)]), (.pr (.cell 3) [(.var 0)]), (.pr (.cell 4) [(.var 0)]), (.pr (.cell 5) [(.var 0)]), (.pr (.cell 6) [(.var 0)]), (.pr (.cell 7) [(.var 0)]), (.pr (.cell 8) [(.var 0)])])])]), (.pr (.cell 6) [(.app 51 [(.pr .row [(.pr (.cell 0) [(.var 0)]), (.pr (.cell 1) [(.var 0)]), (.pr (.cell 2) [(.var 0)]), (.pr (.cell 3) [(.var 0)]), (.pr (.cell 4) [(.var 0)]), (.pr (.cell 5) [(.var 0)]), (.pr (.cell 6) [(.var 0)]), (.pr (.cell 7) [(.var 0)]), (.pr (.cell 8) [(.var 0)])])])]), (.pr (.cell 7) [(.app 51 [(.pr .row [(.pr (.cell 0) [(.var 0)]), (.pr (.cell 1) [(.var 0)]), (.pr (.cell 2) [(.var 0)]), (.pr (.cell 3) [(.var 0)]), (.pr (.cell 4) [(.var 0)]), (.pr (.cell 5) [(.var 0)]), (.pr (.cell 6) [(.var 0)]), (.pr (.cell 7) [(.var 0)]), (.pr (.cell 8) [(.var 0)])])])]), (.pr (.cell 8) [(.app 51 [(.pr .row [(.pr (.cell 0) [(.var 0)]), (.pr (.cell 1) [(.var 0)]), (.pr (.cell 2) [(.var 0)]), (.pr (.cell 3) [(.var 0)]), (.pr (.cell 4) [(.var 0)]), (.pr (.cell 5) [(.var 0)]), (.pr (.cell 6) [(.var 0)]), (.pr (.cell 7) [(.var 0)]), (.pr (.cell 8) [(.var 0)])])])])])]), (.app 47 [(.pr .row [(.pr (.cell 0) [(.var 0)]), (.pr (.cell 1) [(.var 0)]), (.pr (.cell 2) [(.var 0)]), (.pr (.cell 3) [(.var 0)]), (.pr (.cell 4) [(.var 0)]), (.pr (.cell 5) [(.var 0)]), (.pr (.cell 6) [(.var 0)]), (.pr (.cell 7) [(.var 0)]), (.pr (.cell 8) [(.var 0)])])])])
 (.ite (.pr (.icmp .eql) [(.app 0 [(.pr .row [(.pr (.cell 0) [(.app 51 [(.pr .row [(.pr (.cell 0) [(.var 0)]), (.pr (.cell 1) [(.var 0)]), (.pr (.cell 2) [(.var 0)]), (.pr (.cell 3) [(.var 0)]), (.pr (.cell 4) [(.var 0)]), (.pr (.cell 5) [(.var 0)]), (.pr (.cell 6) [(.var 0)]), (.pr (.cell 7) [(.var 0)]), (.pr (.cell 8) [(.var 0)])])])]), (.pr (.cell 1) [(.app 51 [(.pr .row [(.pr (.cell 0) [(.var 0)]), (.pr (.cell 1) [(.var 0)]), (.pr (.cell 2) [(.var 0)]), (.pr (.cell 3) [(.var 0)]), (.pr (.cell 4) [(.var 0)]), (.pr (.cell 5) [(.var 0)]), (.pr (.cell 6) [(.var 0)]), (.pr (.cell 7) [(.var 0)]), (.pr (.cell 8) [(.var 0)])])])]), (.pr (.cell 2) [(.app 51 [(.pr .row [(.pr (.cell 0) [(.var 0)]), (.pr (.cell 1) [(.var 0)]), (.pr (.cell 2) [(.var 0)]), (.pr (.cell 3) [(.var 0)]), (.pr (.cell 4) [(.var 0)]), (.pr (.cell 5) [(.var 0)]), (.pr (.cell 6) [(.var 0)]), (.pr (.cell 7) [(.var 0)]), (.pr (.cell 8) [(.var 0)])])])]), (.pr (.cell 3) [(.app 51 [(.pr .row [(.pr (.cell 0) [(.var 0)]), (.pr (.cell 1) [(.var 0)]), (.pr (.cell 2) [(.var 0)]), (.pr (.cell 3) [(.var 0)]), (.pr (.cell 4) [(.var 0)]), (.pr (.cell 5) [(.var 0)]), (.pr (.cell 6) [(.var 0)]), (.pr (.cell 7) [(.var 0)]), (.pr (.cell 8) [(.var 0)])])])]), (.pr (.cell 4) [(.app 51 [(.pr .row [(.pr (.cell 0) [(.var 0)]), (.pr (.cell 1) [(.var 0)]), (.pr (.cell 2) [(.var 0)]), (.pr (.cell 3) [(.var 0)]), (.pr (.cell 4) [(.var 0)]), (.pr (.cell 5) [(.var 0)]), (.pr (.cell 6) [(.var 0)]), (.pr (.cell 7) [(.var 0)]), (.pr (.cell 8) [(.var 0)])])])]), (.pr (.cell 5) [(.app 51 [(.pr .row [(.pr (.cell 0) [(.var 0)]), (.pr (.cell 1) [(.var 0)]), (.pr (.cell 2) [(.var 0)]), (.pr (.cell 3) [(.var 0)]), (.pr (.cell 4) [(.var 0)]), (.pr (.cell 5) [(.var 0)]), (.pr (.cell 6) [(.var 0)]), (.pr (.cell 7) [(.var 0)]), (.pr (.cell 8) [(.var 0)])])])]), (.pr (.cell 6) [(.app 51 [(.pr .row [(.pr (.cell 0) [(.var 0)]), (.pr (.cell 1) [(.var 0)]), (.pr (.cell 2) [(.var 0)]), (.pr (.cell 3) [(.var 0)]), (.pr (.cell 4) [(.var 0)]), (.pr (.cell 5) [(.var 0)]), (.pr (.cell 6) [(.var 0)]), (.pr (.cell 7) [(.var 0)]), (.pr (.cell 8) [(.var 0)])])])]), (.pr (.cell 7) [(.app 51 [(.pr .row [(.pr (.cell 0) [(.var 0)]), (.pr (.cell 1) [(.var 0)]), (.pr (.cell 2) [(.var 0)]), (.pr (.cell 3) [(.var 0)]), (.pr (.cell 4) [(.var 0)]), (.pr (.cell 5) [(.var 0)]), (.pr (.cell 6) [(.var 0)]), (.pr (.cell 7) [(.var 0)]), (.pr (.cell 8) [(.var 0)])])])]), (.pr (.cell 8) [(.app 51 [(.pr .row [(.pr (.cell 0) [(.var 0)]), (.pr (.cell 1) [(.var 0)]), (.pr (.cell 2) [(.var 0)]), (.pr (.cell 3) [(.var 0)]), (.pr (.cell 4) [(.var 0)]), (.pr (.cell 5) [(.var 0)]), (.pr (.cell 6) [(.var 0)]), (.pr (.cell 7) [(.var 0)]), (.pr (.cell 8) [(.var 0)])])])])])]), (.app 44 [(.pr .row [(.pr (.cell 0) [(.var 0)]), (.pr (.cell 1) [(.var 0)]), (.pr (.cell 2) [(.var 0)]), (.pr (.cell 3) [(.var 0)]), (.pr (.cell 4) [(.var 0)]), (.pr (.cell 5) [(.var 0)]), (.pr (.cell 6) [(.var 0)]), (.pr (.cell 7) [(.var 0)]), (.pr (.cell 8) [(.var 0)])])])])
 (.ite (.pr (.icmp .eql) [(.app 1 [(.pr .row [(.pr (.cell 0) [(.app 51 [(.pr .row [(.pr (.cell 0) [(.var 0)]), (.pr (.cell 1) [(.var 0)]), (.pr (.cell 2) [(.var 0)]), (.pr (.cell 3) [(.var 0)]), (.pr (.cell 4) [(.var 0)]), (.pr (.cell 5) [(.var 0)]), (.pr (.cell 6) [(.var 0)]), (.pr (.cell 7) [(.var 0)]), (.pr (.cell 8) [(.var 0)])])])]), (.pr (.cell 1) [(.app 51 [(.pr .row [(.pr (.cell 0) [(.var 0)]), (.pr (.cell 1) [(.var 0)]), (.pr (.cell 2) [(.var 0)]), (.pr (.cell 3) [(.var 0)]), (.pr (.cell 4) [(.var 0)]), (.pr (.cell 5) [(.var 0)]), (.pr (.cell 6) [(.var 0)]), (.pr (.cell 7) [(.var 0)]), (.pr (.cell 8) [(.var 0)])])])]), (.pr (.cell 2) [(.app 51 [(.pr .row [(.pr (.cell 0) [(.var 0)]), (.pr (.cell 1) [(.var 0)]), (.pr (.cell 2) [(.var 0)]), (.pr (.cell 3) [(.var 0)]), (.pr (.cell 4) [(.var 0)]), (.pr (.cell 5) [(.var 0)]), (.pr (.cell 6) [(.var 0)]), (.pr (.cell 7) [(.var 0)]), (.pr (.cell 8) [(.var 0)])])])]), (.pr (.cell 3) [(.app 51 [(.pr .row [(.pr (.cell 0) [(.var 0)]), (.pr (.cell 1) [(.var 0)]), (.pr (.cell 2) [(.var 0)]), (.pr (.cell 3) [(.var 0)]), (.pr (.cell 4) [(.var 0)]), (.pr (.cell 5) [(.var 0)]), (.pr (.cell 6) [(.var 0)]), (.pr (.cell 7) [(.var 0)]), (.pr (.cell 8) [(.var 0)])])])]), (.pr (.cell 4) [(.app 51 [(.pr .row [(.pr (.cell 0) [(.var 0)]), (.pr (.cell 1) [(.var 0)]), (.pr (.cell 2) [(.var 0)]), (.pr (.cell 3) [(.var 0)]), (.pr (.cell 4) [(.var 0)]), (.pr (.cell 5) [(.var 0)]), (.pr (.cell 6) [(.var 0)]), (.pr (.cell 7) [(.var 0)]), (.pr (.cell 8) [(.var 0)])])])]), (.pr (.cell 5) [(.app 51 [(.pr .row [(.pr (.cell 0) [(.var 0)]), (.pr (.cell 1) [(.var 0)]), (.pr (.cell 2) [(.var 0)]), (.pr (.cell 3) [(.var 0)]), (.pr (.cell 4) [(.var 0)]), (.pr (.cell 5) [(.var 0)]), (.pr (.cell 6) [(.var 0)]), (.pr (.cell 7) [(.var 0)]), (.pr (.cell 8) [(.var 0)])])])]), (.pr (.cell 6) [(.app 51 [(.pr .row [(.pr (.cell 0) [(.var 0)]), (.pr (.cell 1) [(.var 0)]), (.pr (.cell 2) [(.var 0)]), (.pr (.cell 3) [(.var 0)]), (.pr (.cell 4) [(.var 0)]), (.pr (.cell 5) [(.var 0)]), (.pr (.cell 6) [(.var 0)]), (.pr (.cell 7) [(.var 0)]), (.pr (.cell 8) [(.var 0)])])])]), (.pr (.cell 7) [(.app 51 [(.pr .row [(.pr (.cell 0) [(.var 0)]), (.pr (.cell 1) [(.var 0)]), (.pr (.cell 2) [(.var 0)]), (.pr (.cell 3) [(.var 0)]), (.pr (.cell 4) [(.var 0)]), (.pr (.cell 5) [(.var 0)]), (.pr (.cell 6) [(.var 0)]), (.pr (.cell 7) [(.var 0)]), (.pr (.cell 8) [(.var 0)])])])]), (.pr (.cell 8) [(.app 51 [(.pr .row [(.pr (.cell 0) [(.var 0)]), (.pr (.cell 1) [(.var 0)]), (.pr (.cell 2) [(.var 0)]), (.pr (.cell 3) [(.var 0)]), (.pr (.cell 4) [(.var 0)]), (.pr (.cell 5) [(.var 0)]), (.pr (.cell 6) [(.var 0)]), (.pr (.cell 7) [(.var 0)]), (.pr (.cell 8) [(.var 0)])])])])])]), (.app 45 [(.pr .row [(.pr (.cell 0) [(.var 0)]), (.pr (.cell 1) [(.var 0)]), (.pr (.cell 2) [(.var 0)]), (.pr (.cell 3) [(.var 0)]), (.pr (.cell 4) [(.var 0)]), (.pr (.cell 5) [(.var 0)]), (.pr (.cell 6) [(.var 0)]), (.pr (.cell 7) [(.var 0)]), (.pr (.cell 8) [(.var 0)])])])])
 (.giv (.app 1000 [(.pr .row [(.pr (.cell 0) [(.app 51 [(.pr .row [(.pr (.cell 0) [(.var 0)]), (.pr (.cell 1) [(.var 0)]), (.pr (.cell 2) [(.var 0)]), (.pr (.cell 3) [(.var 0)]), (.pr (.cell 4) [(.var 0)]), (.pr (.cell 5) [(.var 0)]), (.pr (.cell 6) [(.var 0)]), (.pr (.cell 7) [(.var 0)]), (.pr (.cell 8) [(.var 0)])])])]), (.pr (.cell 1) [(.app 51 [(.pr .row [(.pr (.cell 0) [(.var 0)]), (.pr (.cell 1) [(.var 0)]), (.pr (.cell 2) [(.var 0)]), (.pr (.cell 3) [(.var 0)]), (.pr (.cell 4) [(.var 0)]), (.pr (.cell 5) [(.var 0)]), (.pr (.cell 6) [(.var 0)]), (.pr (.cell 7) [(.var 0)]), (.pr (.cell 8) [(.var 0)])])])]), (.pr (.cell 2) [(.app 51 [(.pr .row [(.pr (.cell 0) [(.var 0)]), (.pr (.cell 1) [(.var 0)]), (.pr (.cell 2) [(.var 0)]), (.pr (.cell 3) [(.var 0)]), (.pr (.cell 4) [(.var 0)]), (.pr (.cell 5) [(.var 0)]), (.pr (.cell 6) [(.var 0)]), (.pr (.cell 7) [(.var 0)]), (.pr (.cell 8) [(.var 0)])])])]), (.pr (.cell 3) [(.app 51 [(.pr .row [(.pr (.cell 0) [(.var 0)]), (.pr (.cell 1) [(.var 0)]), (.pr (.cell 2) [(.var 0)]), (.pr (.cell 3) [(.var 0)]), (.pr (.cell 4) [(.var 0)]), (.pr (.cell 5) [(.var 0)]), (.pr (.cell 6) [(.var 0)]), (.pr (.cell 7) [(.var 0)]), (.pr (.cell 8) [(.var 0)])])])]), (.pr (.cell 4) [(.app 51 [(.pr .row [(.pr (.cell 0) [(.var 0)]), (.pr (.cell 1) [(.var 0)]), (.pr (.cell 2) [(.var 0)]), (.pr (.cell 3) [(.var 0)]), (.pr (.cell 4) [(.var 0)]), (.pr (.cell 5) [(.var 0)]), (.pr (.cell 6) [(.var 0)]), (.pr (.cell 7) [(.var 0)]), (.pr (.cell 8) [(.var 0)])])])]), (.pr (.cell 5) [(.app 51 [(.pr .row [(.pr (.cell 0) [(.var 0)]), (.pr (.cell 1) [(.var 0)]), (.pr (.cell 2) [(.var 0)]), (.pr (.cell 3) [(.var 0)]), (.pr (.cell 4) [(.var 0)]), (.pr (.cell 5) [(.var 0)]), (.pr (.cell 6) [(.var 0)]), (.pr (.cell 7) [(.var 0)]), (.pr (.cell 8) [(.var 0)])])])]), (.pr (.cell 6) [(.app 51 [(.pr .row [(.pr (.cell 0) [(.var 0)]), (.pr (.cell 1) [(.var 0)]), (.pr (.cell 2) [(.var 0)]), (.pr (.cell 3) [(.var 0)]), (.pr (.cell 4) [(.var 0)]), (.pr (.cell 5) [(.var 0)]), (.pr (.cell 6) [(.var 0)]), (.pr (.cell 7) [(.var 0)]), (.pr (.cell 8) [(.var 0)])])])]), (.pr (.cell 7) [(.app 51 [(.pr .row [(.pr (.cell 0) [(.var 0)]), (.pr (.cell 1) [(.var 0)]), (.pr (.cell 2) [(.var 0)]), (.pr (.cell 3) [(.var 0)]), (.pr (.cell 4) [(.var 0)]), (.pr (.cell 5) [(.var 0)]), (.pr (.cell 6) [(.var 0)]), (.pr (.cell 7) [(.var 0)]), (.pr (.cell 8) [(.var 0)])])])]), (.pr (.cell 8) [(.app 51 [(.pr .row [(.pr (.cell 0) [(.var 0)]), (.pr (.cell 1) [(.var 0)]), (.pr (.cell 2) [(.var 0)]), (.pr (.cell 3) [(.var 0)]), (.pr (.cell 4) [(.var 0)]), (.pr (.cell 5) [(.var 0)]), (.pr (.cell 6) [(.var 0)]), (.pr (.cell 7) [(.var 0)]), (.pr (.cell 8) [(.var 0)])])])])]), (.pr .row [(.pr (.cell 0) [(.var 0)]), (.pr (.cell 1) [(.var 0)]), (.pr (.cell 2) [(.var 0)]), (.pr (.cell 3) [(.var 0)]), (.pr (.cell 4) [(.var 0)]), (.pr (.cell 5) [(.var 0)]), (.pr (.cell 6) [(.var 0)]), (.pr (.cell 7) [(.var 0)]), (.pr (.cell 8) [(.var 0)])])])
 (.leaf (.ret (.app 48 [(.pr .row [(.pr (.cell 0) [(.app 51 [(.pr .row [(.pr (.cell 0) [(.var 0)]), (.pr (.cell 1) [(.var 0)]), (.pr (.cell 2) [(.var 0)]), (.pr (.cell 3) [(.var 0)]), (.pr (.cell 4) [(.var 0)]), (.pr (.cell 5) [(.var 0)]), (.pr (.cell 6) [(.var 0)]), (.pr (.cell 7) [(.var 0)]), (.pr (.cell 8) [(.var 0)])])])]), (.pr (.cell 1) [(.app 51 [(.pr .row [(.pr (.cell 0) [(.var 0)]), (.pr (.cell 1) [(.var 0)]), (.pr (.cell 2) [(.var 0)]), (.pr (.cell 3) [(.var 0)]), (.pr (.cell 4) [(.var 0)]), (.pr (.cell 5) [(.var 0)]), (.pr (.cell 6) [(.var 0)]), (.pr (.cell 7) [(.var 0)]), (.pr (.cell 8) [(.var 0)])])])]), (.pr (.cell 2) [(.app 51 [(.pr .row [(.pr (.cell 0) [(.var 0)]), (.pr (.cell 1) [(.var 0)]), (.pr (.cell 2) [(.var 0)]), (.pr (.cell 3) [(.var 0)]), (.pr (.cell 4) [(.var 0)]), (.pr (.cell 5) [(.var 0)]), (.pr (.cell 6) [(.var 0)]), (.pr (.cell 7) [(.var 0)]), (.pr (.cell 8) [(.var 0)])])])]), (.pr (.cell 3) [(.app 51 [(.pr .row [(.pr (.cell 0) [(.var 0)]), (.pr (.cell 1) [(.var 0)]), (.pr (.cell 2) [(.var 0)]), (.pr (.cell 3) [(.var 0)]), (.pr (.cell 4) [(.var 0)]), (.pr (.cell 5) [(.var 0)]), (.pr (.cell 6) [(.var 0)]), (.pr (.cell 7) [(.var 0)]), (.pr (.cell 8) [(.var 0)])])])]), (.pr (.cell 4) [(.app 51 [(.pr .row [(.pr (.cell 0) [(.var 0)]), (.pr (.cell 1) [(.var 0)]), (.pr (.cell 2) [(.var 0)]), (.pr (.cell 3) [(.var 0)]), (.pr (.cell 4) [(.var 0)]), (.pr (.cell 5) [(.var 0)]), (.pr (.cell 6) [(.var 0)]), (.pr (.cell 7) [(.var 0)]), (.pr (.cell 8) [(.var 0)])])])]), (.pr (.cell 5) [(.app 51 [(.pr .row [(.pr (.cell 0) [(.var 0)]), (.pr (.cell 1) [(.var 0)]), (.pr (.cell 2) [(.var 0)]), (.pr (.cell 3) [(.var 0)]), (.pr (.cell 4) [(.var 0)]), (.pr (.cell 5) [(.var 0)]), (.pr (.cell 6) [(.var 0)]), (.pr (.cell 7) [(.var 0)]), (.pr (.cell 8) [(.var 0)])])])]), (.pr (.cell 6) [(.app 51 [(.pr .row [(.pr (.cell 0) [(.var 0)]), (.pr (.cell 1) [(.var 0)]), (.pr (.cell 2) [(.var 0)]), (.pr (.cell 3) [(.var 0)]), (.pr (.cell 4) [(.var 0)]), (.pr (.cell 5) [(.var 0)]), (.pr (.cell 6) [(.var 0)]), (.pr (.cell 7) [(.var 0)]), (.pr (.cell 8) [(.var 0)])])])]), (.pr (.cell 7) [(.app 51 [(.pr .row [(.pr (.cell 0) [(.var 0)]), (.pr (.cell 1) [(.var 0)]), (.pr (.cell 2) [(.var 0)]), (.pr (.cell 3) [(.var 0)]), (.pr (.cell 4) [(.var 0)]), (.pr (.cell 5) [(.var 0)]), (.pr (.cell 6) [(.var 0)]), (.pr (.cell 7) [(.var 0)]), (.pr (.cell 8) [(.var 0)])])])]), (.pr (.cell 8) [(.app 51 [(.pr .row [(.pr (.cell 0) [(.var 0)]), (.pr (.cell 1) [(.var 0)]), (.pr (.cell 2) [(.var 0)]), (.pr (.cell 3) [(.var 0)]), (.pr (.cell 4) [(.var 0)]), (.pr (.cell 5) [(.var 0)]), (.pr (.cell 6) [(.var 0)]), (.pr (.cell 7) [(.var 0)]), (.pr (.cell 8) [(.var 0)])])])])]), (.pr .row [(.pr (.cell 0) [(.var 0)]), (.pr (.cell 1) [(.var 0)]), (.pr (.cell 2) [(.var 0)]), (.pr (.cell 3) [(.var 0)]), (.pr (.cell 4) [(.var 0)]), (.pr (.cell 5) [(.var 0)]), (.pr (.cell 6) [(.var 0)]), (.pr (.cell 7) [(.var 0)]), (.pr (.cell 8) [(.var 0)])])]))))
 (.leaf (.ret (.lit (.bool false)))))
 (.leaf (.ret (.lit (.bool false)))))
 (.leaf (.ret (.lit (.bool false))))))
 (.leaf (.ret (.lit (.bool false))))))))))))
def trees_checks : List Tree := []
noncomputable def deps_checks : List Sig := [q_parts, q_many, q_copy, q_check, q_rcheck, q_depth, q_rdepth, q_size, q_rsize, q_requal, q_awake]
theorem ok_checks : check q_checks deps_checks heads_checks entry_checks trees_checks = true := by kernel_rfl
def preC (n : Nat) (ds : List D) : Prop := 3 * D.szL ds + 100 < n ∧ D.LimL ds
theorem checks_ok (n : Nat) : @Ok (I n) q_checks (preC n) := by
  letI := I n
  refine fn_okS (hphi n) ok_checks (by
    intro q hq
    simp only [deps_checks, List.mem_cons, List.not_mem_nil, or_false] at hq
    rcases hq with rfl | rfl | rfl | rfl | rfl | rfl | rfl | rfl | rfl | rfl | rfl
    · exact okS_of (parts_ok n)
    · exact okS_of (many_ok n)
    · exact copy_ok n
    · exact okS_of (check_ok n)
    · exact rcheck_ok rvalid_ok n
    · exact okS_of (depth_ok n)
    · exact okS_of (rdepth_ok n)
    · exact okS_of (size_ok n)
    · exact okS_of (rsize_ok n)
    · exact okS_of (requal_ok n)
    · exact okS_of (awake_ok n _)) (fun _ _ _ => False) (fun _ _ => 0) ?_ (fun j h t d ds hj => by simp [heads_checks] at hj)
  intro ds hf hp
  obtain ⟨v, rfl⟩ := one_val hf
  obtain ⟨hp1, hp2⟩ := hp
  simp only [D.szL, D.LimL, and_true] at hp1 hp2
  have o1 : okD n [v.toD, iD 0, iD 65536, iD 0] := okD_val3.2 ⟨by omega, hp2⟩
  have o3 : okD n [v.toD] := okD_one.2 ⟨by omega, hp2⟩
  have o5 : okD n [] := ⟨by simp only [D.szL]; omega, by simp only [D.LimL]⟩
  have o6 : okD n [v.toD, v.toD] := okD_two.2 ⟨by omega, hp2, hp2⟩
  have o7 : D.szL [v.toD] + 4 < n := by simp only [D.szL]; omega
  have hsm := @small_of v hp2
  simp only [entry_checks, q_checks, Tree.holds, Out.den, E.den, E.denL, den1, den2, den3, den4, den5, den6, den7, den8, Bool.not_eq_true', Bool.not_eq_false', List.getD_cons_zero, List.getD_cons_succ, true_and, and_true, List.length_map, phi_1000, phi_parts, phi_many, phi_copy, phi_check, phi_rcheck, phi_depth, phi_rdepth, phi_size, phi_rsize, phi_requal, phi_awake, phi_checks, pre_rcheck, pre_copy, o1, o3, o5, o6, o7, row_at0, row_at1]
  refine ⟨fun h => trivial, fun hP => ⟨fun h => trivial, fun hM => ?_⟩⟩
  have hs : smallV v = true := small_many v hM (hsm hP).2.2
  have he : eqV v v = true := eqV_self v
  simp [hs, he]
end Go.Proofs.YtaeeblcdggjokaaGreatDoor.Vk
/- The law ValueChecks: whatever is handed in, the law's function answers true and leaves it as it was. Conditions: those of the row alone. -/
namespace Go.Proofs.YtaeeblcdggjokaaGreatDoor.VkValueChecks
open Go Go.Ab Go.RowKit Go.ChangeShapes Go.WideShapes Go.ChangeAt Go.Proofs.YtaeeblcdggjokaaGreatDoor.Vk
set_option maxRecDepth 100000
set_option linter.unusedVariables false
set_option linter.unusedSimpArgs false
set_option linter.unusedSectionVars false
set_option linter.constructorNameAsVariable false

theorem own : ownKnob Tryz.prog.godebug = none := by kernel_rfl
theorem laidOut : laidOutB Tryz.prog = true := by kernel_rfl
theorem met {W : World} (h : laidMetH Tryz.prog Rows.valueChecksRow.laid W) : TabsMet tabs W := by
  rw [MakeChecks.laidMetH_plain _ _ _ (by kernel_rfl)] at h
  obtain ⟨ps, h, _, _⟩ := h
  haveI : Interp := ⟨fun _ _ => .nil⟩
  exact tabs_of_laid h
theorem tbIs : tbOk Tryz.prog tb = true := by kernel_rfl
theorem argsAre : argsOk Tryz.prog tb Tryz.f4.params.toList q_checks.args = true := by kernel_rfl

theorem trodAll_len {H : Type} {enc : TypeId × Value → H} {P : Program} {w : World} {sp : Nat → Bool} {held : Bool} : ∀ {ts : List TypeId} {vs : List Value} {ds : List (DataW H)} {ps : List MemPlace}, DataW.TrodAll enc P w 0 sp held ts vs ds ps → ds.length = ts.length
  | [], [], [], _, _ => rfl
  | t :: ts, v :: vs, d :: ds, ps, h => by
    obtain ⟨p, q, h1, h2, rfl⟩ := h
    rw [List.length_cons, List.length_cons, trodAll_len h2]
  | [], [], _ :: _, _, h => h.elim
  | [], _ :: _, [], _, h => h.elim
  | [], _ :: _, _ :: _, _, h => h.elim
  | _ :: _, [], [], _, h => h.elim
  | _ :: _, [], _ :: _, _, h => h.elim
  | _ :: _, _ :: _, [], _, h => h.elim

theorem len_two {α : Type} {l : List α} (h : l.length = 2) : ∃ a b, l = [a, b] := by
  match l, h with
  | [a, b], _ => exact ⟨a, b, rfl⟩
theorem len_three {α : Type} {l : List α} (h : l.length = 3) : ∃ a b c, l = [a, b, c] := by
  match l, h with
  | [a, b, c], _ => exact ⟨a, b, c, rfl⟩
theorem contract (H : Type) (enc : TypeId × Value → H) (W : World) (base : Nat) (args : Array Value) (ds gs : List (DataW H)) (before : List MemPlace)
    (hval : ∀ (j : Nat) t v, Tryz.f4.params[j]? = some t → args[j]? = some v → Value.okWide Tryz.prog W .any base t v)
    (hW : DataW.Whole enc Tryz.prog Tryz.f4.params.toList Rows.valueChecksSpec.vars false W args.toList ds gs before)
    (hR : (DataW.weightsEach Tryz.prog (Tryz.f4.params.toList ++ (OpenSpec.ofChange Rows.valueChecksSpec).bare.plain.varTypes Tryz.prog) (ds ++ gs)).all (· ≤ reachBytes) = true)
    (hL : laidMetH Tryz.prog Rows.valueChecksRow.laid W) :
    Calls Tryz.prog 4 args W fun e W' => ∃ v, e = .returned v ∧ Rows.valueChecksSpec.post enc Tryz.prog Tryz.f4 false true false false W args v W' := by
  have hW' := hW
  obtain ⟨p, q, hA0, hV, rfl, hfz, hnd⟩ := hW
  have hA : DataW.TrodAll enc Tryz.prog W 0 (fun _ => true) true Tryz.f4.params.toList args.toList ds p := hA0
  obtain ⟨rfl, rfl⟩ := trodVars_none hV
  have hw : ∀ m, m ∈ DataW.weightsEach Tryz.prog Tryz.f4.params.toList ds → m ≤ lim := fun m hm => by
    have h1 : m ∈ DataW.weightsEach Tryz.prog (Tryz.f4.params.toList ++ (OpenSpec.ofChange Rows.valueChecksSpec).bare.plain.varTypes Tryz.prog) (ds ++ []) := by
      rw [show (OpenSpec.ofChange Rows.valueChecksSpec).bare.plain.varTypes Tryz.prog = [] from rfl, List.append_nil, List.append_nil]; exact hm
    have h2 := List.all_eq_true.1 hR m h1
    exact Nat.le_trans (of_decide_eq_true h2) (by show 0x7ffffffff000 ≤ lim; decide)
  obtain ⟨xs, hx, hlim⟩ := args_read (P := Tryz.prog) tbIs argsAre (fun j t v h1 h2 => hval j t v (by simpa using h1) (by simpa using h2)) hA hw
  letI := I (4 * D.szL xs + 200)
  have hok := checks_ok (4 * D.szL xs + 200) W (fun _ _ => True) args xs (met hL) (fun _ _ _ _ _ => trivial) hx ⟨by omega, hlim⟩
  refine (callsIn_wide.1 hok).mono fun e' W' hq => ?_
  obtain ⟨v, rfl, hb, hr⟩ := hq
  refine ⟨v, rfl, ?_⟩
  obtain rfl : v = .bool true := by
    have e : @Interp.phi (I (4 * D.szL xs + 200)) q_checks.g xs = bD true := phi_checks _ _
    rw [e] at hr
    have := hr.1
    unfold bD DV at this
    exact this.1
  obtain ⟨d0, rfl⟩ := List.length_eq_one_iff.1 (trodAll_len hA)
  exact post_true (t := 4) laidOut (by kernel_rfl) (by kernel_rfl) Tryz.underlying4 hW' rfl rfl rfl rfl hb

/- A world for the witness: the settled one, each listed table holding what its initialiser lays. -/
noncomputable def wargs : Array Value := #[.agg #[.int .i64 0, .bool false, .bool false, .string ByteArray.empty, .int .i64 0, .int .u64 0, .string ByteArray.empty, .slice none 0 0, .slice none 0 0]]
theorem laid_met (os : Os) (args : Array Value) : laidMetH Tryz.prog Rows.valueChecksRow.laid ((World.laidAll Tryz.prog os Rows.valueChecksRow.laid).forCall (fun _ _ => 0) ⟨#[], args, []⟩).memory := by
  rw [MakeChecks.laidMetH_plain _ _ _ (by kernel_rfl)]
  exact laidMet_laidAll _ (by kernel_rfl) (by kernel_rfl)
noncomputable def wds (os : Os) {H : Type} (enc : TypeId × Value → H) : List (DataW H) :=
  match DataW.whole enc Tryz.prog ((World.laidAll Tryz.prog os Rows.valueChecksRow.laid).forCall (fun _ _ => 0) ⟨#[], wargs, []⟩).memory Tryz.f4.params.toList Rows.valueChecksSpec.vars false wargs.toList 16 with
  | some (ds, _, _) => ds
  | none => []
theorem reads (os : Os) {H : Type} (enc : TypeId × Value → H) : DataW.whole enc Tryz.prog ((World.laidAll Tryz.prog os Rows.valueChecksRow.laid).forCall (fun _ _ => 0) ⟨#[], wargs, []⟩).memory Tryz.f4.params.toList Rows.valueChecksSpec.vars false wargs.toList 16 =
    some (wds os enc, [], []) := by kernel_rfl

theorem lifted (os : Os) (started : os.Started) (H : Type) (enc : TypeId × Value → H) (F : Stop.Interp) :
    ReturnsInHanded {} Tryz.checked os 4 .any ((OpenSpec.ofChange Rows.valueChecksSpec).preRow enc Tryz.prog Tryz.f4 Rows.valueChecksRow.domain false Rows.valueChecksRow.laid) (((OpenSpec.ofChange Rows.valueChecksSpec).at F).post enc Tryz.prog Tryz.f4 false true false false) := by
  refine returnsInHanded_of_row (C := Tryz.checked) (s := OpenSpec.ofChange Rows.valueChecksSpec) own started (by kernel_rfl) Tryz.func4
    (witness_row_at (enc := enc) (C := Tryz.checked) false (World.laidAll Tryz.prog os Rows.valueChecksRow.laid) wargs (World.laidAll_os _ _ _) (by kernel_rfl) (by kernel_rfl) (by kernel_rfl)
      (OpenSpec.preRow_of_cond 16 (reads os enc) (by kernel_rfl) (fun k hk => by cases hk) (by kernel_rfl) (laid_met os _))) ?_
  intro W base args ds gs before hval hW _ _ hR hL _ _
  exact contract H enc W base args ds gs before hval hW hR hL

theorem said : Rows.ValueChecksSaid :=
  OpenClaim.holds_of_cond 4 Tryz.f4 rfl rfl rfl rfl rfl rfl rfl ⟨rfl, rfl, rfl, rfl, rfl⟩ rfl rfl rfl rfl rfl (by kernel_rfl) Tryz.func4 (by kernel_rfl)
    (of_decide_eq_true (by kernel_rfl)) (by unfold Func.isWrapper; first | (rw [if_pos (by decide +kernel)]; kernel_rfl) | (rw [if_neg (by decide +kernel)]; exact ⟨rfl, rfl⟩))
    (fun os started H enc _ F => by rw [OpenClaim.pre_eq_preRow]; exact lifted os started H enc F)

theorem plain (f : FuncId) (fn : Func) (hf : Tryz.pinned.checked.prog.funcNamed "calamus/calamuslaw04.ValueChecks" = some f) (hfn : Tryz.pinned.checked.prog.funcs[f]? = some fn) :
    false = Tryz.pinned.checked.prog.looks [] ∧ ∀ (j : Nat) t, fn.params[j]? = some t → Tryz.pinned.checked.prog.wantsStandIn t = false := by
  obtain rfl : f = 4 := Option.some.inj ((show Tryz.prog.funcNamed "calamus/calamuslaw04.ValueChecks" = some 4 by kernel_rfl).symm.trans hf) |>.symm
  obtain rfl : fn = Tryz.f4 := (Option.some.inj (Tryz.func4.symm.trans hfn)).symm
  refine ⟨by kernel_rfl, fun j t ht => ?_⟩
  have h : (Tryz.f4.params.all fun t => !Tryz.prog.wantsStandIn t) = true := by kernel_rfl
  have := Array.all_eq_true_iff_forall_mem.1 h t (Array.mem_of_getElem? ht)
  show Tryz.prog.wantsStandIn t = false
  simpa using this

/-- THE CARD. -/
theorem card : Rows.ValueChecksCardSaid :=
  Claim7.holds_tied_plain_at .later [] _ _ _ _ said (fun _ h => by cases h) (by kernel_rfl) (fun _ h => by cases h) valueChecks_row_tie rfl ⟨rfl, rfl⟩ (by kernel_rfl) rfl plain (by kernel_rfl)
end Go.Proofs.YtaeeblcdggjokaaGreatDoor.VkValueChecks
