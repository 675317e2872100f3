/- Contracts of the reference: long, Is, Begins, Decode, Valid. -/
import Derived.Test.YtaeeblcdggjokaaGreatDoorMe
import Derived.Test.YtaeeblcdggjokaaGreatDoorMd
import Derived.Test.YtaeeblcdggjokaaGreatDoorCards
import Derived.Test.YtaeeblcdggjokaaGreatDoorTie
import Derived.KernelRfl
import Derived.ProofKit
import Derived.Deep.DeepHandedRow
import Derived.Lay
import Derived.SevenTiedAt
namespace Go.Proofs.YtaeeblcdggjokaaGreatDoor.Vk
open Go Go.Ab Go.RowKit
set_option maxRecDepth 100000
set_option linter.unusedVariables false
set_option linter.unusedSimpArgs false
set_option linter.unusedSectionVars false
set_option linter.constructorNameAsVariable false
/-- calamus/calamusref03.long: func 129, params [5], ntmps 27. -/
def heads_rlong : List Hd := []
def entry_rlong : Tree :=
 (.ite (.pr (.icmp .lss) [(.var 0), (.lit (.int .u8 128))])
 (.leaf (.ret (.lit (.int .i64 1))))
 (.ite (.pr (.icmp .geq) [(.var 0), (.lit (.int .u8 192))])
 (.ite (.pr (.icmp .lss) [(.var 0), (.lit (.int .u8 224))])
 (.leaf (.ret (.lit (.int .i64 2))))
 (.ite (.pr (.icmp .geq) [(.var 0), (.lit (.int .u8 224))])
 (.ite (.pr (.icmp .lss) [(.var 0), (.lit (.int .u8 240))])
 (.leaf (.ret (.lit (.int .i64 3))))
 (.ite (.pr (.icmp .geq) [(.var 0), (.lit (.int .u8 240))])
 (.ite (.pr (.icmp .lss) [(.var 0), (.lit (.int .u8 248))])
 (.leaf (.ret (.lit (.int .i64 4))))
 (.leaf (.ret (.lit (.int .i64 0)))))
 (.leaf (.ret (.lit (.int .i64 0))))))
 (.ite (.pr (.icmp .geq) [(.var 0), (.lit (.int .u8 240))])
 (.ite (.pr (.icmp .lss) [(.var 0), (.lit (.int .u8 248))])
 (.leaf (.ret (.lit (.int .i64 4))))
 (.leaf (.ret (.lit (.int .i64 0)))))
 (.leaf (.ret (.lit (.int .i64 0)))))))
 (.ite (.pr (.icmp .geq) [(.var 0), (.lit (.int .u8 224))])
 (.ite (.pr (.icmp .lss) [(.var 0), (.lit (.int .u8 240))])
 (.leaf (.ret (.lit (.int .i64 3))))
 (.ite (.pr (.icmp .geq) [(.var 0), (.lit (.int .u8 240))])
 (.ite (.pr (.icmp .lss) [(.var 0), (.lit (.int .u8 248))])
 (.leaf (.ret (.lit (.int .i64 4))))
 (.leaf (.ret (.lit (.int .i64 0)))))
 (.leaf (.ret (.lit (.int .i64 0))))))
 (.ite (.pr (.icmp .geq) [(.var 0), (.lit (.int .u8 240))])
 (.ite (.pr (.icmp .lss) [(.var 0), (.lit (.int .u8 248))])
 (.leaf (.ret (.lit (.int .i64 4))))
 (.leaf (.ret (.lit (.int .i64 0)))))
 (.leaf (.ret (.lit (.int .i64 0))))))))
def trees_rlong : List Tree := []
noncomputable def deps_rlong : List Sig := []
theorem ok_rlong : check q_rlong deps_rlong heads_rlong entry_rlong trees_rlong = true := by kernel_rfl
theorem rlong_ok (n : Nat) : @Ok (I n) q_rlong (okD n) := by
  letI := I n
  refine fn_ok (hphi n) ok_rlong (by intro q hq; simp [deps_rlong] at hq) (fun _ _ _ => False) (fun _ _ => 0) ?_ (fun j h t d ds hj => by simp [heads_rlong] at hj)
  intro ds hf hp
  obtain ⟨i, rfl⟩ : ∃ i, ds = [.v (.int .u8 i)] := by
    match ds, hf with
    | [a], ⟨h1, _⟩ =>
      obtain ⟨l, rfl⟩ := fits_int h1
      exact ⟨l, rfl⟩
  simp only [entry_rlong, q_rlong, Tree.holds, Out.den, E.den, E.denL, den1, den2, den3, den4, den5, den6, den7, den8, Bool.not_eq_true', Bool.not_eq_false', List.getD_cons_zero, List.getD_cons_succ, true_and, and_true, List.length_map, phi_1000, phi_rlong]
  have key : ∀ x : Int, (x = longV i.toNat) → iD x = iD (longV i.toNat) := fun x h => by rw [h]
  repeat' first | apply And.intro | intro _
  all_goals (apply key; unfold longV; repeat' split)
  all_goals omega
/-- calamus/calamusref03.Is: func 131, params [3], ntmps 17. -/
def heads_ris : List Hd := []
def entry_ris : Tree :=
 (.ite (.pr (.icmp .geq) [(.var 0), (.lit (.int .i64 0))])
 (.ite (.pr (.icmp .leq) [(.var 0), (.lit (.int .i64 1114111))])
 (.ite (.pr (.icmp .lss) [(.var 0), (.lit (.int .i64 55296))])
 (.leaf (.ret (.lit (.bool true))))
 (.leaf (.ret (.pr (.icmp .gtr) [(.var 0), (.lit (.int .i64 57343))]))))
 (.leaf (.ret (.lit (.bool false)))))
 (.leaf (.ret (.lit (.bool false)))))
def trees_ris : List Tree := []
noncomputable def deps_ris : List Sig := []
theorem ok_ris : check q_ris deps_ris heads_ris entry_ris trees_ris = true := by kernel_rfl
theorem ris_ok (n : Nat) : @Ok (I n) q_ris (okD n) := by
  letI := I n
  refine fn_ok (hphi n) ok_ris (by intro q hq; simp [deps_ris] at hq) (fun _ _ _ => False) (fun _ _ => 0) ?_ (fun j h t d ds hj => by simp [heads_ris] at hj)
  intro ds hf hp
  obtain ⟨i, rfl⟩ := one_int hf
  simp only [entry_ris, q_ris, Tree.holds, Out.den, E.den, E.denL, den1, den2, den3, den4, den5, den6, den7, den8, Bool.not_eq_true', Bool.not_eq_false', List.getD_cons_zero, List.getD_cons_succ, true_and, and_true, List.length_map, phi_1000, phi_ris]
  have key : ∀ x : Bool, (x = true ↔ isR i = true) → bD x = bD (isR i) := fun x h => by rw [Bool.eq_iff_iff.2 h]
  have e : isR i = true ↔ 0 ≤ i ∧ i ≤ 1114111 ∧ (i < 55296 ∨ 57343 < i) := by unfold isR; rw [decide_eq_true_iff]
  repeat' first | apply And.intro | intro _
  all_goals (apply key; rw [e]; simp only [ltI_t, Bool.false_eq_true, false_iff, true_iff, iff_true, iff_false]; omega)
def reps (k : Nat) (c : UInt8) : ByteArray := ⟨(List.replicate k c).toArray⟩
theorem reps_size (k : Nat) (c : UInt8) : (reps k c).size = k := by
  unfold reps
  show (List.replicate k c).toArray.size = _
  simp
theorem reps_succ (s : ByteArray) (k : Nat) (c : UInt8) : s ++ reps k c ++ mkS [c.toNat] = s ++ reps (k + 1) c := by
  refine ByteArray.ext (Array.toList_inj.1 ?_)
  rw [cat_list, cat_list, cat_list]
  unfold reps mkS
  simp [List.replicate_succ']
theorem reps_zero (s : ByteArray) (c : UInt8) : s ++ reps 0 c = s := by
  refine ByteArray.ext (Array.toList_inj.1 ?_)
  rw [cat_list]
  unfold reps
  simp
theorem padV_eq (s : ByteArray) (n : Nat) (c : UInt8) : padV s n c = s ++ reps (n - s.size) c := rfl
theorem longV_nat (c : Nat) : ∃ m : Nat, longV c = m ∧ m ≤ 4 := by
  unfold longV
  repeat' split
  · exact ⟨1, rfl, by omega⟩
  · exact ⟨2, rfl, by omega⟩
  · exact ⟨3, rfl, by omega⟩
  · exact ⟨4, rfl, by omega⟩
  · exact ⟨0, rfl, by omega⟩
theorem ok_two {n : Nat} {s : ByteArray} {i : Int} (h : 2 < n) (hl : s.size ≤ lim) : okD n [sD s, iD i] := okD_two.2 ⟨by simp only [D.sz]; omega, lim_sD.2 hl, trivial⟩
theorem ok_num {n : Nat} {k : IntKind} {i : Int} (h : 1 < n) : okD n [.v (.int k i)] := okD_one.2 ⟨by simp only [D.sz]; omega, trivial⟩
/-- calamus/calamusref03.Begins: func 133, params [9], ntmps 87. -/
-- head 0 of loop 0: [t0 .sh (.cell (.sc .s)), t3 .sh (.cell (.sc (.i .i64))), t4 .sh (.cell (.sc .s)), t5 .sh (.cell (.sc .s))]
-- head 1 of loop 1: [t0 .sh (.cell (.sc .s)), t3 .sh (.cell (.sc (.i .i64))), t6 .sh (.cell (.sc (.i .i64))), t7 .sh (.cell (.sc (.i .i64))), t8 .sh (.cell (.sc (.i .i64)))]
def heads_rbegins : List Hd := [⟨0, [.sh (.cell (.sc .s)), .any, .any, .sh (.cell (.sc (.i .i64))), .sh (.cell (.sc .s)), .sh (.cell (.sc .s)), .any, .any, .any, .any, .any, .any, .any, .any, .any, .any, .any, .any, .any, .any, .any, .any, .any, .any, .any, .any, .any, .any, .any, .any, .any, .any, .any, .any, .any, .any, .any, .any, .any, .any, .any, .any, .any, .any, .any, .any, .any, .any, .any, .any, .any, .any, .any, .any, .any, .any, .any, .any, .any, .any, .any, .any, .any, .any, .any, .any, .any, .any, .any, .any, .any, .any, .any, .any, .any, .any, .any, .any, .any, .any, .any, .any, .any, .any, .any, .any, .any]⟩, ⟨1, [.sh (.cell (.sc .s)), .any, .any, .sh (.cell (.sc (.i .i64))), .any, .any, .sh (.cell (.sc (.i .i64))), .sh (.cell (.sc (.i .i64))), .sh (.cell (.sc (.i .i64))), .any, .any, .any, .any, .any, .any, .any, .any, .any, .any, .any, .any, .any, .any, .any, .any, .any, .any, .any, .any, .any, .any, .any, .any, .any, .any, .any, .any, .any, .any, .any, .any, .any, .any, .any, .any, .any, .any, .any, .any, .any, .any, .any, .any, .any, .any, .any, .any, .any, .any, .any, .any, .any, .any, .any, .any, .any, .any, .any, .any, .any, .any, .any, .any, .any, .any, .any, .any, .any, .any, .any, .any, .any, .any, .any, .any, .any, .any]⟩]
def entry_rbegins : Tree :=
 (.giv (.pr (.icmp .lss) [(.lit (.int .i64 0)), (.pr .slen [(.var 0)])])
 (.giv (.app 1000 [(.pr .sat [(.var 0), (.lit (.int .i64 0))])])
 (.ite (.pr (.icmp .geq) [(.pr .slen [(.var 0)]), (.app 54 [(.pr .sat [(.var 0), (.lit (.int .i64 0))])])])
 (.leaf (.ret (.lit (.bool false))))
 (.leaf (.go 0 [(.var 0), (.app 54 [(.pr .sat [(.var 0), (.lit (.int .i64 0))])]), (.var 0), (.var 0)])))))
def head_rbegins_0 : Tree :=
 (.ite (.pr (.icmp .lss) [(.pr .slen [(.var 2)]), (.var 1)])
 (.giv (.pr (.icmp .leq) [(.pr .slen [(.var 2)]), (.lit (.int .i64 1099511627776))])
 (.giv (.pr (.icmp .leq) [(.pr .slen [(.var 3)]), (.lit (.int .i64 1099511627776))])
 (.leaf (.go 0 [(.var 0), (.var 1), (.pr .scat [(.var 2), (.lit (.string (mkS [128])))]), (.pr .scat [(.var 3), (.lit (.string (mkS [191])))])]))))
 (.giv (.app 1000 [(.var 2), (.var 1)])
 (.giv (.app 2035 [(.var 2), (.var 1)])
 (.giv (.app 1000 [(.var 3), (.var 1)])
 (.giv (.app 2035 [(.var 3), (.var 1)])
 (.leaf (.go 1 [(.var 0), (.var 1), (.app 35 [(.var 2), (.var 1)]), (.app 35 [(.var 3), (.var 1)]), (.lit (.int .i64 0))])))))))
def head_rbegins_1 : Tree :=
 (.ite (.pr (.icmp .lss) [(.var 4), (.lit (.int .i64 2))])
 (.ite (.pr (.icmp .eql) [(.var 4), (.lit (.int .i64 0))])
 (.giv (.app 1000 [(.var 2)])
 (.ite (.app 55 [(.var 2)])
 (.giv (.pr (.icmp .leq) [(.lit (.int .i64 0)), (.pr .ite [(.pr (.icmp .lss) [(.pr .slen [(.app 34 [(.var 2)])]), (.pr .slen [(.var 0)])]), (.pr .slen [(.app 34 [(.var 2)])]), (.pr .slen [(.var 0)])])])
 (.giv (.pr (.icmp .leq) [(.pr .ite [(.pr (.icmp .lss) [(.pr .slen [(.app 34 [(.var 2)])]), (.pr .slen [(.var 0)])]), (.pr .slen [(.app 34 [(.var 2)])]), (.pr .slen [(.var 0)])]), (.pr .slen [(.app 34 [(.var 2)])])])
 (.ite (.pr (.scmp .eql) [(.pr .ssub [(.app 34 [(.var 2)]), (.lit (.int .i64 0)), (.pr .ite [(.pr (.icmp .lss) [(.pr .slen [(.app 34 [(.var 2)])]), (.pr .slen [(.var 0)])]), (.pr .slen [(.app 34 [(.var 2)])]), (.pr .slen [(.var 0)])])]), (.var 0)])
 (.ite (.pr (.icmp .eql) [(.pr .slen [(.app 34 [(.var 2)])]), (.var 1)])
 (.leaf (.ret (.lit (.bool true))))
 (.leaf (.go 1 [(.var 0), (.var 1), (.var 2), (.var 3), (.pr (.iop .add .i64) [(.var 4), (.lit (.int .i64 1))])])))
 (.leaf (.go 1 [(.var 0), (.var 1), (.var 2), (.var 3), (.pr (.iop .add .i64) [(.var 4), (.lit (.int .i64 1))])])))))
 (.leaf (.go 1 [(.var 0), (.var 1), (.var 2), (.var 3), (.pr (.iop .add .i64) [(.var 4), (.lit (.int .i64 1))])]))))
 (.giv (.pr (.icmp .eql) [(.var 4), (.lit (.int .i64 1))])
 (.giv (.app 1000 [(.var 3)])
 (.ite (.app 55 [(.var 3)])
 (.giv (.pr (.icmp .leq) [(.lit (.int .i64 0)), (.pr .ite [(.pr (.icmp .lss) [(.pr .slen [(.app 34 [(.var 3)])]), (.pr .slen [(.var 0)])]), (.pr .slen [(.app 34 [(.var 3)])]), (.pr .slen [(.var 0)])])])
 (.giv (.pr (.icmp .leq) [(.pr .ite [(.pr (.icmp .lss) [(.pr .slen [(.app 34 [(.var 3)])]), (.pr .slen [(.var 0)])]), (.pr .slen [(.app 34 [(.var 3)])]), (.pr .slen [(.var 0)])]), (.pr .slen [(.app 34 [(.var 3)])])])
 (.ite (.pr (.scmp .eql) [(.pr .ssub [(.app 34 [(.var 3)]), (.lit (.int .i64 0)), (.pr .ite [(.pr (.icmp .lss) [(.pr .slen [(.app 34 [(.var 3)])]), (.pr .slen [(.var 0)])]), (.pr .slen [(.app 34 [(.var 3)])]), (.pr .slen [(.var 0)])])]), (.var 0)])
 (.ite (.pr (.icmp .eql) [(.pr .slen [(.app 34 [(.var 3)])]), (.var 1)])
 (.leaf (.ret (.lit (.bool true))))
 (.leaf (.go 1 [(.var 0), (.var 1), (.var 2), (.var 3), (.pr (.iop .add .i64) [(.var 4), (.lit (.int .i64 1))])])))
 (.leaf (.go 1 [(.var 0), (.var 1), (.var 2), (.var 3), (.pr (.iop .add .i64) [(.var 4), (.lit (.int .i64 1))])])))))
 (.leaf (.go 1 [(.var 0), (.var 1), (.var 2), (.var 3), (.pr (.iop .add .i64) [(.var 4), (.lit (.int .i64 1))])]))))))
 (.ite (.pr (.icmp .eql) [(.var 1), (.lit (.int .i64 0))])
 (.ite (.pr (.icmp .geq) [(.lit (.int .i64 0)), (.var 2)])
 (.ite (.pr (.icmp .leq) [(.lit (.int .i64 0)), (.var 3)])
 (.giv (.pr (.icmp .leq) [(.pr .slen [(.var 0)]), (.pr .slen [(.lit (.string (mkS [0])))])])
 (.leaf (.ret (.pr (.scmp .eql) [(.pr .ssub [(.lit (.string (mkS [0]))), (.lit (.int .i64 0)), (.pr .slen [(.var 0)])]), (.var 0)]))))
 (.leaf (.ret (.lit (.bool false)))))
 (.leaf (.ret (.lit (.bool false)))))
 (.ite (.pr (.icmp .eql) [(.var 1), (.lit (.int .i64 1))])
 (.ite (.pr (.icmp .geq) [(.lit (.int .i64 0)), (.var 2)])
 (.ite (.pr (.icmp .leq) [(.lit (.int .i64 0)), (.var 3)])
 (.giv (.pr (.icmp .leq) [(.pr .slen [(.var 0)]), (.pr .slen [(.lit (.string (mkS [0])))])])
 (.leaf (.ret (.pr (.scmp .eql) [(.pr .ssub [(.lit (.string (mkS [0]))), (.lit (.int .i64 0)), (.pr .slen [(.var 0)])]), (.var 0)]))))
 (.leaf (.ret (.lit (.bool false)))))
 (.leaf (.ret (.lit (.bool false)))))
 (.ite (.pr (.icmp .eql) [(.var 1), (.lit (.int .i64 2))])
 (.ite (.pr (.icmp .geq) [(.lit (.int .i64 128)), (.var 2)])
 (.ite (.pr (.icmp .leq) [(.lit (.int .i64 128)), (.var 3)])
 (.giv (.pr (.icmp .leq) [(.pr .slen [(.var 0)]), (.pr .slen [(.lit (.string (mkS [194, 128])))])])
 (.leaf (.ret (.pr (.scmp .eql) [(.pr .ssub [(.lit (.string (mkS [194, 128]))), (.lit (.int .i64 0)), (.pr .slen [(.var 0)])]), (.var 0)]))))
 (.leaf (.ret (.lit (.bool false)))))
 (.leaf (.ret (.lit (.bool false)))))
 (.ite (.pr (.icmp .eql) [(.var 1), (.lit (.int .i64 3))])
 (.ite (.pr (.icmp .geq) [(.lit (.int .i64 2048)), (.var 2)])
 (.ite (.pr (.icmp .leq) [(.lit (.int .i64 2048)), (.var 3)])
 (.giv (.pr (.icmp .leq) [(.pr .slen [(.var 0)]), (.pr .slen [(.lit (.string (mkS [224, 160, 128])))])])
 (.leaf (.ret (.pr (.scmp .eql) [(.pr .ssub [(.lit (.string (mkS [224, 160, 128]))), (.lit (.int .i64 0)), (.pr .slen [(.var 0)])]), (.var 0)]))))
 (.leaf (.ret (.lit (.bool false)))))
 (.leaf (.ret (.lit (.bool false)))))
 (.giv (.pr (.icmp .eql) [(.var 1), (.lit (.int .i64 4))])
 (.ite (.pr (.icmp .geq) [(.lit (.int .i64 65536)), (.var 2)])
 (.ite (.pr (.icmp .leq) [(.lit (.int .i64 65536)), (.var 3)])
 (.giv (.pr (.icmp .leq) [(.pr .slen [(.var 0)]), (.pr .slen [(.lit (.string (mkS [240, 144, 128, 128])))])])
 (.leaf (.ret (.pr (.scmp .eql) [(.pr .ssub [(.lit (.string (mkS [240, 144, 128, 128]))), (.lit (.int .i64 0)), (.pr .slen [(.var 0)])]), (.var 0)]))))
 (.leaf (.ret (.lit (.bool false)))))
 (.leaf (.ret (.lit (.bool false)))))))))))
def trees_rbegins : List Tree := [head_rbegins_0, head_rbegins_1]
noncomputable def deps_rbegins : List Sig := [q_rbytes, q_rnumber, q_rlong, q_ris]
theorem ok_rbegins : check q_rbegins deps_rbegins heads_rbegins entry_rbegins trees_rbegins = true := by kernel_rfl
theorem begin_done {s : ByteArray} {m : Nat} (h0 : 0 < s.size) (hl : longV (s.data.toList.getD 0 0).toNat = (m : Int)) (hlt : s.size < m) (h1 : chkV s m (numbV (padV s m 128) m) = false) (h2 : chkV s m (numbV (padV s m 191) m) = false) :
    beginsV s = (decide (numbV (padV s m 128) m ≤ leastV m) && (decide (leastV m ≤ numbV (padV s m 191) m) && decide ((encV (leastV m)).extract 0 s.size = s))) := by
  unfold beginsV
  simp only [hl, Int.toNat_natCast]
  rw [if_neg (by omega), h1, h2]
  simp
theorem chk_of {s : ByteArray} {m : Nat} {r : Int} (h1 : isR r = true) (h2 : (encV r).extract 0 (min s.size (encV r).size) = s) (h3 : (encV r).size = m) : chkV s m r = true := by
  unfold chkV
  rw [h1, decide_eq_true h2, decide_eq_true (by omega)]; rfl
theorem chk_no {s : ByteArray} {m : Nat} {r : Int} (h : ¬ (isR r = true ∧ (encV r).extract 0 (min s.size (encV r).size) = s ∧ (encV r).size = m)) : chkV s m r = false := by
  rw [Bool.eq_false_iff]
  intro k
  unfold chkV at k
  rw [Bool.and_eq_true, Bool.and_eq_true, decide_eq_true_iff, decide_eq_true_iff] at k
  exact h ⟨k.1, k.2.1, by omega⟩
theorem begin_one {s : ByteArray} {m : Nat} (hl : longV (s.data.toList.getD 0 0).toNat = (m : Int)) (hlt : s.size < m) (h : chkV s m (numbV (padV s m 128) m) = true ∨ chkV s m (numbV (padV s m 191) m) = true) : beginsV s = true := by
  unfold beginsV
  simp only [hl, Int.toNat_natCast]
  rw [if_neg (by omega)]
  rcases h with h | h
  · rw [if_pos h]
  · split
    · rfl
    · rfl
theorem min_is (a b : Nat) : (bif ltI (a : Int) (b : Int) then iD a else iD b) = iD ((min b a : Nat) : Int) := by
  by_cases h : a < b
  · rw [ltI_t.2 (by omega)]; show iD _ = _; rw [show min b a = a by omega]
  · rw [ltI_f.2 (by omega)]; show iD _ = _; rw [show min b a = b by omega]
theorem rbegins_at (n : Nat) : @Ok (I n) q_rbegins (fun ds => 5 < n ∧ D.LimL ds ∧ ∃ s, ds = [sD s] ∧ 0 < s.size) := by
  letI := I n
  refine fn_okS (hphi n) ok_rbegins (by
      intro q hq
      simp only [deps_rbegins, List.mem_cons, List.not_mem_nil, or_false] at hq
      rcases hq with rfl | rfl | rfl | rfl
      · exact okS_of (rbytes_ok n)
      · exact rnumber_ok n
      · exact okS_of (rlong_ok n)
      · exact okS_of (ris_ok n))
    (fun j d ds => 5 < n ∧ ∃ (s : ByteArray) (m : Nat), 0 < s.size ∧ s.size < m ∧ m ≤ 4 ∧ longV (s.data.toList.getD 0 0).toNat = m ∧ d = bD (beginsV s) ∧
      ((j = 0 ∧ ∃ k, s.size + k ≤ m ∧ ds = [sD s, iD m, sD (s ++ reps k 128), sD (s ++ reps k 191)]) ∨
       (j = 1 ∧ ∃ i : Nat, i ≤ 2 ∧ (1 ≤ i → chkV s m (numbV (padV s m 128) m) = false) ∧ (2 ≤ i → chkV s m (numbV (padV s m 191) m) = false) ∧
         ds = [sD s, iD m, iD (numbV (padV s m 128) m), iD (numbV (padV s m 191) m), iD i])))
    (fun j ds => if j = 0 then 20 - (ds.getD 2 .nil).str.size else 2 - (ds.getD 4 .nil).int.toNat) ?_ ?_
  · rintro ds hf ⟨hn, hp, s, rfl, h0⟩
    have hl : s.size ≤ lim := lim_sD.1 hp.1
    obtain ⟨m, hm, hm4⟩ := longV_nat (s.data.toList.getD 0 0).toNat
    simp only [entry_rbegins, q_rbegins, Tree.holds, Out.den, E.den, E.denL, den1, den2, den3, den4, den5, den6, den7, den8, Bool.not_eq_true', Bool.not_eq_false', List.getD_cons_zero, List.getD_cons_succ, true_and, and_true, List.length_map, phi_1000, phi_rlong, phi_rbegins, Int.toNat_zero, Int.toNat_natCast, hm]
    refine ⟨by omega, ok_num (by omega), fun h1 => ?_, fun h1 => ⟨hn, s, m, h0, by omega, hm4, hm, rfl, .inl ⟨0, by omega, ?_⟩⟩⟩
    · have : beginsV s = false := by unfold beginsV; simp only [hm]; rw [if_pos (by omega)]
      rw [this]
    · rw [reps_zero, reps_zero]
  · rintro j h t d ds hj ht hf ⟨hn, s, m, h0, hlt, hm4, hm, rfl, ⟨rfl, k, hk, rfl⟩ | ⟨rfl, i, hi, hc1, hc2, rfl⟩⟩
    · obtain rfl : t = head_rbegins_0 := (Option.some.inj ht).symm
      have e128 := reps_succ s k 128
      have e191 := reps_succ s k 191
      have el : (4 : Nat) ≤ lim := by decide
      have hsz : ∀ c, (s ++ reps k c).size = s.size + k := fun c => by rw [cat_size, reps_size]
      have hpre : ∀ c, @Interp.phi (I n) 2035 [sD (s ++ reps k c), iD m] = .v (.bool true) ↔ m ≤ s.size + k := fun c => by
        rw [pre_rnumber, hsz]; omega
      simp only [head_rbegins_0, Tree.holds, Out.den, E.den, E.denL, den1, den2, den3, den4, den5, den6, den7, den8, Bool.not_eq_true', Bool.not_eq_false', List.getD_cons_zero, List.getD_cons_succ, true_and, and_true, List.length_map, phi_1000, phi_rnumber]
      have e128' : s ++ reps k 128 ++ mkS [128] = s ++ reps (k + 1) 128 := e128
      have e191' : s ++ reps k 191 ++ mkS [191] = s ++ reps (k + 1) 191 := e191
      refine ⟨fun h1 => ⟨?_, ?_, ⟨hn, s, m, h0, hlt, hm4, hm, rfl, .inl ⟨k + 1, ?_, ?_⟩⟩, ?_⟩, fun h1 => ⟨ok_two (by omega) ?_, ?_, ok_two (by omega) ?_, ?_, ⟨hn, s, m, h0, hlt, hm4, hm, rfl, .inr ⟨0, by omega, fun h => by omega, fun h => by omega, ?_⟩⟩, ?_⟩⟩
      · rw [hsz]; omega
      · rw [hsz]; omega
      · rw [hsz] at h1; omega
      · rw [e128', e191']
      · rw [hsz] at h1 ⊢
        simp only [if_true]
        rw [e128', cat_size, reps_size]; omega
      · rw [hsz]; omega
      · rw [hpre]; rw [hsz] at h1; omega
      · rw [hsz]; omega
      · rw [hpre]; rw [hsz] at h1; omega
      · rw [hsz] at h1
        have : k = m - s.size := by omega
        rw [padV_eq, padV_eq, this]; rfl
      · simp only [if_true]; rw [if_neg (by decide)]; rw [hsz] at h1 ⊢; simp only [Int.toNat_zero]; omega
    · obtain rfl : t = head_rbegins_1 := (Option.some.inj ht).symm
      have hmin : ∀ r : Int, ((min s.size (encV r).size : Nat) : Int).toNat = min s.size (encV r).size := fun r => Int.toNat_natCast _
      have hw : ∀ i : Nat, i < 2 → IntKind.i64.wrap ((i : Int) + 1) = ((i + 1 : Nat) : Int) := fun i h => by rw [wrap_id (by omega) (by omega)]; rfl
      by_cases h2 : i < 2
      · simp only [head_rbegins_1, Tree.holds, Out.den, E.den, E.denL, den1, den2, den3, den4, den5, den6, den7, den8, Bool.not_eq_true', Bool.not_eq_false', List.getD_cons_zero, List.getD_cons_succ, true_and, and_true, List.length_map, phi_1000, phi_rbytes, phi_ris, min_is, hmin, hw i h2, Int.toNat_zero]
        refine ⟨fun _ => ⟨fun hi0 => ⟨ok_num (by omega), fun hr => ⟨by omega, by omega, fun he => ⟨fun hs => ?_, fun hs => ⟨⟨hn, s, m, h0, hlt, hm4, hm, rfl, .inr ⟨i + 1, by omega, fun _ => chk_no fun h => hs ?_, fun h => ?_, rfl⟩⟩, ?_⟩⟩, fun he => ⟨⟨hn, s, m, h0, hlt, hm4, hm, rfl, .inr ⟨i + 1, by omega, fun _ => chk_no fun h => he h.2.1, fun h => ?_, rfl⟩⟩, ?_⟩⟩, fun hr => ⟨⟨hn, s, m, h0, hlt, hm4, hm, rfl, .inr ⟨i + 1, by omega, fun _ => chk_no fun h => ?_, fun h => ?_, rfl⟩⟩, ?_⟩⟩,
          fun hi0 => ⟨by omega, ok_num (by omega), fun hr => ⟨by omega, by omega, fun he => ⟨fun hs => ?_, fun hs => ⟨⟨hn, s, m, h0, hlt, hm4, hm, rfl, .inr ⟨i + 1, by omega, fun _ => hc1 (by omega), fun h => chk_no fun h => hs ?_, rfl⟩⟩, ?_⟩⟩, fun he => ⟨⟨hn, s, m, h0, hlt, hm4, hm, rfl, .inr ⟨i + 1, by omega, fun _ => hc1 (by omega), fun h => chk_no fun h => he h.2.1, rfl⟩⟩, ?_⟩⟩, fun hr => ⟨⟨hn, s, m, h0, hlt, hm4, hm, rfl, .inr ⟨i + 1, by omega, fun _ => hc1 (by omega), fun h => chk_no fun h => ?_, rfl⟩⟩, ?_⟩⟩⟩, fun h => by omega⟩
        all_goals first
          | omega
          | (rw [begin_one hm hlt (.inl (chk_of hr he (by omega)))])
          | (rw [begin_one hm hlt (.inr (chk_of hr he (by omega)))])
          | (rw [h.1] at hr; cases hr)
          | (rw [if_neg (by decide), if_neg (by decide)]; simp only [Int.toNat_natCast]; omega)
      · have hi2 : i = 2 := by omega
        subst hi2
        have hb := begin_done h0 hm hlt (hc1 (by omega)) (hc2 (by omega))
        simp only [head_rbegins_1, Tree.holds, Out.den, E.den, E.denL, den1, den2, den3, den4, den5, den6, den7, den8, Bool.not_eq_true', Bool.not_eq_false', List.getD_cons_zero, List.getD_cons_succ, true_and, and_true, List.length_map, phi_1000, Int.toNat_zero]
        have hm5 : m = 0 ∨ m = 1 ∨ m = 2 ∨ m = 3 ∨ m = 4 := by omega
        generalize numbV (padV s m 128) m = a at hb
        generalize numbV (padV s m 191) m = b at hb
        have l2 : (encV (leastV 2)) = mkS [194, 128] := rfl
        have l3 : (encV (leastV 3)) = mkS [224, 160, 128] := rfl
        have l4 : (encV (leastV 4)) = mkS [240, 144, 128, 128] := rfl
        have v2 : leastV 2 = 128 := rfl
        have v3 : leastV 3 = 2048 := rfl
        have v4 : leastV 4 = 65536 := rfl
        have s2 : (mkS [194, 128]).size = 2 := rfl
        have s3 : (mkS [224, 160, 128]).size = 3 := rfl
        have s4 : (mkS [240, 144, 128, 128]).size = 4 := rfl
        rw [hb]
        refine ⟨fun h => by omega, fun _ => ?_⟩
        rcases hm5 with rfl | rfl | rfl | rfl | rfl
        · omega
        · omega
        · rw [l2, v2]
          simp only [s2]
          refine ⟨fun h => by omega, fun _ => ⟨fun h => by omega, fun _ => ⟨fun _ => ⟨fun h1 => ⟨fun h2 => ⟨by omega, ?_⟩, fun h2 => ?_⟩, fun h1 => ?_⟩, fun h => absurd rfl h⟩⟩⟩
          · rw [decide_eq_true h1, decide_eq_true h2]; rfl
          · rw [decide_eq_false h2]; simp
          · rw [decide_eq_false h1]; simp
        · rw [l3, v3]
          simp only [s3]
          refine ⟨fun h => by omega, fun _ => ⟨fun h => by omega, fun _ => ⟨fun h => by omega, fun _ => ⟨fun _ => ⟨fun h1 => ⟨fun h2 => ⟨by omega, ?_⟩, fun h2 => ?_⟩, fun h1 => ?_⟩, fun h => absurd rfl h⟩⟩⟩⟩
          · rw [decide_eq_true h1, decide_eq_true h2]; rfl
          · rw [decide_eq_false h2]; simp
          · rw [decide_eq_false h1]; simp
        · rw [l4, v4]
          simp only [s4]
          refine ⟨fun h => by omega, fun _ => ⟨fun h => by omega, fun _ => ⟨fun h => by omega, fun _ => ⟨fun h => by omega, fun _ => ⟨rfl, fun h1 => ⟨fun h2 => ⟨by omega, ?_⟩, fun h2 => ?_⟩, fun h1 => ?_⟩⟩⟩⟩⟩
          · rw [decide_eq_true h1, decide_eq_true h2]; rfl
          · rw [decide_eq_false h2]; simp
          · rw [decide_eq_false h1]; simp
theorem rbegins_ok (n : Nat) : @Ok (I n) q_rbegins (@okS (I n) n q_rbegins.g) := by
  have h : @Ok (I n) q_rbegins (fun ds => 5 < n + 10 ∧ D.LimL ds ∧ ∃ s, ds = [sD s] ∧ 0 < s.size) := ok_irrel (by decide) (rbegins_at (n + 10))
  letI := I n
  intro W J vs ds hL hI ha hp
  obtain ⟨s, rfl⟩ := one_str ha.fit
  exact h W J vs _ hL hI ha ⟨by omega, hp.1.2, s, rfl, (pre_rbegins n s).1 (hp.2 rfl)⟩
/-- calamus/calamusref03.Decode: func 114, params [9, 3], ntmps 54. -/
def heads_rdecode : List Hd := []
def entry_rdecode : Tree :=
 (.ite (.pr (.icmp .lss) [(.var 1), (.lit (.int .i64 0))])
 (.leaf (.ret (.pr .row [(.lit (.int .i64 0)), (.lit (.int .i64 0)), (.lit (.int .i64 1))])))
 (.ite (.pr (.icmp .geq) [(.var 1), (.pr .slen [(.var 0)])])
 (.leaf (.ret (.pr .row [(.lit (.int .i64 0)), (.lit (.int .i64 0)), (.lit (.int .i64 1))])))
 (.giv (.pr (.icmp .leq) [(.lit (.int .i64 0)), (.var 1)])
 (.giv (.pr (.icmp .leq) [(.var 1), (.pr .slen [(.var 0)])])
 (.giv (.pr (.icmp .lss) [(.lit (.int .i64 0)), (.pr .slen [(.pr .ssub [(.var 0), (.var 1), (.pr .slen [(.var 0)])])])])
 (.giv (.app 1000 [(.pr .sat [(.pr .ssub [(.var 0), (.var 1), (.pr .slen [(.var 0)])]), (.lit (.int .i64 0))])])
 (.ite (.pr (.icmp .gtr) [(.app 54 [(.pr .sat [(.pr .ssub [(.var 0), (.var 1), (.pr .slen [(.var 0)])]), (.lit (.int .i64 0))])]), (.lit (.int .i64 0))])
 (.ite (.pr (.icmp .geq) [(.pr .slen [(.pr .ssub [(.var 0), (.var 1), (.pr .slen [(.var 0)])])]), (.app 54 [(.pr .sat [(.pr .ssub [(.var 0), (.var 1), (.pr .slen [(.var 0)])]), (.lit (.int .i64 0))])])])
 (.giv (.app 1000 [(.pr .ssub [(.var 0), (.var 1), (.pr .slen [(.var 0)])]), (.app 54 [(.pr .sat [(.pr .ssub [(.var 0), (.var 1), (.pr .slen [(.var 0)])]), (.lit (.int .i64 0))])])])
 (.giv (.app 2035 [(.pr .ssub [(.var 0), (.var 1), (.pr .slen [(.var 0)])]), (.app 54 [(.pr .sat [(.pr .ssub [(.var 0), (.var 1), (.pr .slen [(.var 0)])]), (.lit (.int .i64 0))])])])
 (.giv (.app 1000 [(.app 35 [(.pr .ssub [(.var 0), (.var 1), (.pr .slen [(.var 0)])]), (.app 54 [(.pr .sat [(.pr .ssub [(.var 0), (.var 1), (.pr .slen [(.var 0)])]), (.lit (.int .i64 0))])])])])
 (.ite (.app 55 [(.app 35 [(.pr .ssub [(.var 0), (.var 1), (.pr .slen [(.var 0)])]), (.app 54 [(.pr .sat [(.pr .ssub [(.var 0), (.var 1), (.pr .slen [(.var 0)])]), (.lit (.int .i64 0))])])])])
 (.giv (.pr (.icmp .leq) [(.lit (.int .i64 0)), (.app 54 [(.pr .sat [(.pr .ssub [(.var 0), (.var 1), (.pr .slen [(.var 0)])]), (.lit (.int .i64 0))])])])
 (.giv (.pr (.icmp .leq) [(.app 54 [(.pr .sat [(.pr .ssub [(.var 0), (.var 1), (.pr .slen [(.var 0)])]), (.lit (.int .i64 0))])]), (.pr .slen [(.pr .ssub [(.var 0), (.var 1), (.pr .slen [(.var 0)])])])])
 (.ite (.pr (.scmp .eql) [(.app 34 [(.app 35 [(.pr .ssub [(.var 0), (.var 1), (.pr .slen [(.var 0)])]), (.app 54 [(.pr .sat [(.pr .ssub [(.var 0), (.var 1), (.pr .slen [(.var 0)])]), (.lit (.int .i64 0))])])])]), (.pr .ssub [(.pr .ssub [(.var 0), (.var 1), (.pr .slen [(.var 0)])]), (.lit (.int .i64 0)), (.app 54 [(.pr .sat [(.pr .ssub [(.var 0), (.var 1), (.pr .slen [(.var 0)])]), (.lit (.int .i64 0))])])])])
 (.leaf (.ret (.pr .row [(.app 35 [(.pr .ssub [(.var 0), (.var 1), (.pr .slen [(.var 0)])]), (.app 54 [(.pr .sat [(.pr .ssub [(.var 0), (.var 1), (.pr .slen [(.var 0)])]), (.lit (.int .i64 0))])])]), (.app 54 [(.pr .sat [(.pr .ssub [(.var 0), (.var 1), (.pr .slen [(.var 0)])]), (.lit (.int .i64 0))])]), (.lit (.int .i64 0))])))
 (.ite (.pr (.icmp .gtr) [(.app 54 [(.pr .sat [(.pr .ssub [(.var 0), (.var 1), (.pr .slen [(.var 0)])]), (.lit (.int .i64 0))])]), (.pr .slen [(.pr .ssub [(.var 0), (.var 1), (.pr .slen [(.var 0)])])])])
 (.leaf (.ret (.pr .row [(.lit (.int .i64 0)), (.lit (.int .i64 0)), (.lit (.int .i64 30))])))
 (.leaf (.ret (.pr .row [(.lit (.int .i64 0)), (.lit (.int .i64 0)), (.lit (.int .i64 30))])))))))
 (.ite (.pr (.icmp .gtr) [(.app 54 [(.pr .sat [(.pr .ssub [(.var 0), (.var 1), (.pr .slen [(.var 0)])]), (.lit (.int .i64 0))])]), (.pr .slen [(.pr .ssub [(.var 0), (.var 1), (.pr .slen [(.var 0)])])])])
 (.leaf (.ret (.pr .row [(.lit (.int .i64 0)), (.lit (.int .i64 0)), (.lit (.int .i64 30))])))
 (.leaf (.ret (.pr .row [(.lit (.int .i64 0)), (.lit (.int .i64 0)), (.lit (.int .i64 30))]))))))))
 (.ite (.pr (.icmp .gtr) [(.app 54 [(.pr .sat [(.pr .ssub [(.var 0), (.var 1), (.pr .slen [(.var 0)])]), (.lit (.int .i64 0))])]), (.pr .slen [(.pr .ssub [(.var 0), (.var 1), (.pr .slen [(.var 0)])])])])
 (.giv (.app 1000 [(.pr .ssub [(.var 0), (.var 1), (.pr .slen [(.var 0)])])])
 (.giv (.app 2033 [(.pr .ssub [(.var 0), (.var 1), (.pr .slen [(.var 0)])])])
 (.ite (.app 33 [(.pr .ssub [(.var 0), (.var 1), (.pr .slen [(.var 0)])])])
 (.leaf (.ret (.pr .row [(.lit (.int .i64 0)), (.lit (.int .i64 0)), (.lit (.int .i64 31))])))
 (.leaf (.ret (.pr .row [(.lit (.int .i64 0)), (.lit (.int .i64 0)), (.lit (.int .i64 30))]))))))
 (.leaf (.ret (.pr .row [(.lit (.int .i64 0)), (.lit (.int .i64 0)), (.lit (.int .i64 30))])))))
 (.ite (.pr (.icmp .gtr) [(.app 54 [(.pr .sat [(.pr .ssub [(.var 0), (.var 1), (.pr .slen [(.var 0)])]), (.lit (.int .i64 0))])]), (.pr .slen [(.pr .ssub [(.var 0), (.var 1), (.pr .slen [(.var 0)])])])])
 (.giv (.app 1000 [(.pr .ssub [(.var 0), (.var 1), (.pr .slen [(.var 0)])])])
 (.giv (.app 2033 [(.pr .ssub [(.var 0), (.var 1), (.pr .slen [(.var 0)])])])
 (.ite (.app 33 [(.pr .ssub [(.var 0), (.var 1), (.pr .slen [(.var 0)])])])
 (.leaf (.ret (.pr .row [(.lit (.int .i64 0)), (.lit (.int .i64 0)), (.lit (.int .i64 31))])))
 (.leaf (.ret (.pr .row [(.lit (.int .i64 0)), (.lit (.int .i64 0)), (.lit (.int .i64 30))]))))))
 (.leaf (.ret (.pr .row [(.lit (.int .i64 0)), (.lit (.int .i64 0)), (.lit (.int .i64 30))])))))))))))
def trees_rdecode : List Tree := []
noncomputable def deps_rdecode : List Sig := [q_rbytes, q_rnumber, q_rlong, q_ris, q_rbegins]
theorem ok_rdecode : check q_rdecode deps_rdecode heads_rdecode entry_rdecode trees_rdecode = true := by kernel_rfl
theorem rdecode_at (n : Nat) : @Ok (I n) q_rdecode (fun ds => 5 < n ∧ D.LimL ds) := by
  letI := I n
  refine fn_okS (hphi n) ok_rdecode (by
      intro q hq
      simp only [deps_rdecode, List.mem_cons, List.not_mem_nil, or_false] at hq
      rcases hq with rfl | rfl | rfl | rfl | rfl
      · exact okS_of (rbytes_ok n)
      · exact rnumber_ok n
      · exact okS_of (rlong_ok n)
      · exact okS_of (ris_ok n)
      · exact rbegins_ok n) (fun _ _ _ => False) (fun _ _ => 0) ?_ (fun j h t d ds hj => by simp [heads_rdecode] at hj)
  rintro ds hf ⟨hn, hp⟩
  obtain ⟨s, i, rfl⟩ := str_int hf
  have hl : s.size ≤ lim := lim_sD.1 hp.1
  simp only [entry_rdecode, q_rdecode, Tree.holds, Out.den, E.den, E.denL, den1, den2, den3, den4, den5, den6, den7, den8, Bool.not_eq_true', Bool.not_eq_false', List.getD_cons_zero, List.getD_cons_succ, true_and, and_true, List.length_map, phi_1000, phi_rlong, phi_rdecode, phi_rbytes, phi_rnumber, phi_ris, phi_rbegins, Int.toNat_zero, Int.toNat_natCast]
  by_cases c1 : i < 0
  · refine ⟨fun _ => ?_, fun h => absurd c1 h⟩
    unfold decV; rw [if_pos c1]
  by_cases c2 : (s.size : Int) ≤ i
  · refine ⟨fun h => absurd h c1, fun _ => ⟨fun _ => ?_, fun h => absurd c2 h⟩⟩
    unfold decV; rw [if_neg c1, if_pos c2]
  obtain ⟨k, rfl⟩ : ∃ k : Nat, i = k := ⟨i.toNat, by omega⟩
  rw [Int.toNat_natCast]
  have hd : decV s k = if 0 < longV ((s.extract k s.size).data.toList.getD 0 0).toNat ∧ longV ((s.extract k s.size).data.toList.getD 0 0).toNat ≤ (s.extract k s.size).size ∧ headOk (s.extract k s.size) (longV ((s.extract k s.size).data.toList.getD 0 0).toNat) = true then (numbV (s.extract k s.size) (longV ((s.extract k s.size).data.toList.getD 0 0).toNat), longV ((s.extract k s.size).data.toList.getD 0 0).toNat, 0) else if ((s.extract k s.size).size : Int) < longV ((s.extract k s.size).data.toList.getD 0 0).toNat ∧ beginsV (s.extract k s.size) = true then (0, 0, 31) else (0, 0, 30) := by
    unfold decV
    rw [if_neg c1, if_neg c2]; rfl
  have hts := ext_size s k (by omega)
  rw [hd]
  clear hd
  generalize s.extract k s.size = t at hts
  obtain ⟨m, hm, hm4⟩ := longV_nat (t.data.toList.getD 0 0).toNat
  simp only [hm, Int.toNat_natCast]
  have htl : t.size ≤ lim := by omega
  have hpre := pre_rnumber n t m
  have hpreb := pre_rbegins n t
  have q1 : okD n [sD t, iD m] := ok_two (by omega) htl
  have q2 : ∀ (kd : IntKind) (x : Int), okD n [.v (.int kd x)] := fun kd x => ok_num (by omega)
  have q3 : okD n [sD t] := okD_one.2 ⟨by simp only [D.sz]; omega, lim_sD.2 htl⟩
  have hh : headOk t m = true ↔ isR (numbV t m) = true ∧ encV (numbV t m) = t.extract 0 m := by
    unfold headOk
    rw [Bool.and_eq_true, decide_eq_true_iff, Int.toNat_natCast]
  have e1 : (0 < (m : Int) ∧ (m : Int) ≤ t.size ∧ headOk t m = true) ↔ 0 < m ∧ m ≤ t.size ∧ isR (numbV t m) = true ∧ encV (numbV t m) = t.extract 0 m := by
    rw [hh]
    exact ⟨fun h => ⟨by omega, by omega, h.2.2⟩, fun h => ⟨by omega, by omega, h.2.2⟩⟩
  have e2 : ((t.size : Int) < m ∧ beginsV t = true) ↔ t.size < m ∧ beginsV t = true := ⟨fun h => ⟨by omega, h.2⟩, fun h => ⟨by omega, h.2⟩⟩
  have R1 : (0 < m ∧ m ≤ t.size ∧ isR (numbV t m) = true ∧ encV (numbV t m) = t.extract 0 m) → (if 0 < (m : Int) ∧ (m : Int) ≤ t.size ∧ headOk t m = true then (numbV t m, (m : Int), (0 : Int)) else if (t.size : Int) < m ∧ beginsV t = true then (0, 0, 31) else (0, 0, 30)) = (numbV t m, (m : Int), 0) := fun h => if_pos (e1.2 h)
  have R2 : ¬ (0 < m ∧ m ≤ t.size ∧ isR (numbV t m) = true ∧ encV (numbV t m) = t.extract 0 m) → t.size < m → beginsV t = true → (if 0 < (m : Int) ∧ (m : Int) ≤ t.size ∧ headOk t m = true then (numbV t m, (m : Int), (0 : Int)) else if (t.size : Int) < m ∧ beginsV t = true then (0, 0, 31) else (0, 0, 30)) = (0, 0, 31) := fun h h1 h2 => by rw [if_neg fun k => h (e1.1 k), if_pos (e2.2 ⟨h1, h2⟩)]
  have R3 : ¬ (0 < m ∧ m ≤ t.size ∧ isR (numbV t m) = true ∧ encV (numbV t m) = t.extract 0 m) → ¬ (t.size < m ∧ beginsV t = true) → (if 0 < (m : Int) ∧ (m : Int) ≤ t.size ∧ headOk t m = true then (numbV t m, (m : Int), (0 : Int)) else if (t.size : Int) < m ∧ beginsV t = true then (0, 0, 31) else (0, 0, 30)) = (0, 0, 30) := fun h h1 => by rw [if_neg fun k => h (e1.1 k), if_neg fun k => h1 (e2.1 k)]
  generalize (if 0 < (m : Int) ∧ (m : Int) ≤ t.size ∧ headOk t m = true then (numbV t m, (m : Int), (0 : Int)) else if (t.size : Int) < m ∧ beginsV t = true then (0, 0, 31) else (0, 0, 30)) = res at R1 R2 R3
  refine ⟨fun h => absurd h c1, fun _ => ⟨fun h => absurd h c2, fun _ => ⟨by omega, by omega, by omega, q2 _ _,
    fun hm => ⟨fun hs => ⟨q1, hpre.2 (by omega), q2 _ _, fun hr => ⟨by omega, by omega, fun he => by rw [R1 ⟨by omega, by omega, hr, he⟩],
        fun he => ⟨fun h => by omega, fun _ => by rw [R3 (fun h => he h.2.2.2) (fun h => by omega)]⟩⟩, fun hr => ⟨fun h => by omega, fun _ => by rw [R3 (fun h => by rw [h.2.2.1] at hr; cases hr) (fun h => by omega)]⟩⟩,
      fun hs => ⟨fun h => ⟨q3, hpreb.2 (by omega), fun hb => by rw [R2 (fun h => by omega) (by omega) hb], fun hb => by rw [R3 (fun h => by omega) (fun h => by rw [h.2] at hb; cases hb)]⟩, fun h => by omega⟩⟩,
    fun hm => ⟨fun h => by omega, fun h => by rw [R3 (fun h => by omega) (fun h => by omega)]⟩⟩⟩⟩
theorem rdecode_ok (n : Nat) : @Ok (I n) q_rdecode (okD n) := by
  have h : @Ok (I n) q_rdecode (fun ds => 5 < n + 10 ∧ D.LimL ds) := ok_irrel (by decide) (rdecode_at (n + 10))
  letI := I n
  exact h.less fun ds k => ⟨by omega, k.2⟩
/-- calamus/calamusref03.Valid: func 93, params [9], ntmps 12. -/
def heads_rvalid : List Hd := []
def entry_rvalid : Tree :=
 (.giv (.app 1000 [(.var 0)])
 (.leaf (.ret (.pr (.icmp .eql) [(.pr (.cell 1) [(.app 31 [(.var 0)])]), (.lit (.int .i64 0))]))))
def trees_rvalid : List Tree := []
noncomputable def deps_rvalid : List Sig := [q_rcount]
theorem ok_rvalid : check q_rvalid deps_rvalid heads_rvalid entry_rvalid trees_rvalid = true := by kernel_rfl
theorem rvalid_ok (n : Nat) : @Ok (I n) q_rvalid (okD n) := by
  letI := I n
  refine fn_ok (hphi n) ok_rvalid (by intro q hq; simp only [deps_rvalid, List.mem_singleton] at hq; subst hq; exact rcount_ok rdecode_ok n) (fun _ _ _ => False) (fun _ _ => 0) ?_ (fun j h t d ds hj => by simp [heads_rvalid] at hj)
  intro ds hf hp
  obtain ⟨s, rfl⟩ := one_str hf
  have hl := lim_sD.1 (okD_one.1 hp).2
  simp only [entry_rvalid, q_rvalid, Tree.holds, Out.den, E.den, E.denL, den1, den2, den3, den4, den5, den6, den7, den8, Bool.not_eq_true', Bool.not_eq_false', List.getD_cons_zero, List.getD_cons_succ, true_and, and_true, List.length_map, phi_1000, phi_rvalid, phi_rcount, row_at1, hp]
  rw [valid_count hl]
  rfl
end Go.Proofs.YtaeeblcdggjokaaGreatDoor.Vk
/- Contracts of the reference: the order of numbers, of values. -/
namespace Go.Proofs.YtaeeblcdggjokaaGreatDoor.Vk
open Go Go.Ab Go.RowKit
set_option maxRecDepth 100000
set_option linter.unusedVariables false
set_option linter.unusedSimpArgs false
set_option linter.unusedSectionVars false
set_option linter.constructorNameAsVariable false
/-- calamus/calamusref01.aligned: func 112, params [29, 29], ntmps 52. -/
def heads_raligned : List Hd := []
def entry_raligned : Tree :=
 (.giv (.app 1000 [(.pr (.iop .sub .i64) [(.pr (.cell 2) [(.var 0)]), (.pr .ite [(.pr (.icmp .lss) [(.pr (.cell 2) [(.var 1)]), (.pr (.cell 2) [(.var 0)])]), (.pr (.cell 2) [(.var 1)]), (.pr (.cell 2) [(.var 0)])])])])
 (.giv (.app 2037 [(.pr (.iop .sub .i64) [(.pr (.cell 2) [(.var 0)]), (.pr .ite [(.pr (.icmp .lss) [(.pr (.cell 2) [(.var 1)]), (.pr (.cell 2) [(.var 0)])]), (.pr (.cell 2) [(.var 1)]), (.pr (.cell 2) [(.var 0)])])])])
 (.giv (.pr (.icmp .leq) [(.pr .slen [(.pr (.cell 1) [(.var 0)])]), (.lit (.int .i64 1099511627776))])
 (.giv (.pr (.icmp .leq) [(.pr .slen [(.app 37 [(.pr (.iop .sub .i64) [(.pr (.cell 2) [(.var 0)]), (.pr .ite [(.pr (.icmp .lss) [(.pr (.cell 2) [(.var 1)]), (.pr (.cell 2) [(.var 0)])]), (.pr (.cell 2) [(.var 1)]), (.pr (.cell 2) [(.var 0)])])])])]), (.lit (.int .i64 1099511627776))])
 (.giv (.app 1000 [(.pr (.iop .sub .i64) [(.pr (.cell 2) [(.var 1)]), (.pr .ite [(.pr (.icmp .lss) [(.pr (.cell 2) [(.var 1)]), (.pr (.cell 2) [(.var 0)])]), (.pr (.cell 2) [(.var 1)]), (.pr (.cell 2) [(.var 0)])])])])
 (.giv (.app 2037 [(.pr (.iop .sub .i64) [(.pr (.cell 2) [(.var 1)]), (.pr .ite [(.pr (.icmp .lss) [(.pr (.cell 2) [(.var 1)]), (.pr (.cell 2) [(.var 0)])]), (.pr (.cell 2) [(.var 1)]), (.pr (.cell 2) [(.var 0)])])])])
 (.giv (.pr (.icmp .leq) [(.pr .slen [(.pr (.cell 1) [(.var 1)])]), (.lit (.int .i64 1099511627776))])
 (.giv (.pr (.icmp .leq) [(.pr .slen [(.app 37 [(.pr (.iop .sub .i64) [(.pr (.cell 2) [(.var 1)]), (.pr .ite [(.pr (.icmp .lss) [(.pr (.cell 2) [(.var 1)]), (.pr (.cell 2) [(.var 0)])]), (.pr (.cell 2) [(.var 1)]), (.pr (.cell 2) [(.var 0)])])])])]), (.lit (.int .i64 1099511627776))])
 (.giv (.app 1000 [(.pr (.iop .sub .i64) [(.pr .ite [(.pr (.icmp .gtr) [(.pr .slen [(.pr .scat [(.pr (.cell 1) [(.var 1)]), (.app 37 [(.pr (.iop .sub .i64) [(.pr (.cell 2) [(.var 1)]), (.pr .ite [(.pr (.icmp .lss) [(.pr (.cell 2) [(.var 1)]), (.pr (.cell 2) [(.var 0)])]), (.pr (.cell 2) [(.var 1)]), (.pr (.cell 2) [(.var 0)])])])])])]), (.pr .slen [(.pr .scat [(.pr (.cell 1) [(.var 0)]), (.app 37 [(.pr (.iop .sub .i64) [(.pr (.cell 2) [(.var 0)]), (.pr .ite [(.pr (.icmp .lss) [(.pr (.cell 2) [(.var 1)]), (.pr (.cell 2) [(.var 0)])]), (.pr (.cell 2) [(.var 1)]), (.pr (.cell 2) [(.var 0)])])])])])])]), (.pr .slen [(.pr .scat [(.pr (.cell 1) [(.var 1)]), (.app 37 [(.pr (.iop .sub .i64) [(.pr (.cell 2) [(.var 1)]), (.pr .ite [(.pr (.icmp .lss) [(.pr (.cell 2) [(.var 1)]), (.pr (.cell 2) [(.var 0)])]), (.pr (.cell 2) [(.var 1)]), (.pr (.cell 2) [(.var 0)])])])])])]), (.pr .slen [(.pr .scat [(.pr (.cell 1) [(.var 0)]), (.app 37 [(.pr (.iop .sub .i64) [(.pr (.cell 2) [(.var 0)]), (.pr .ite [(.pr (.icmp .lss) [(.pr (.cell 2) [(.var 1)]), (.pr (.cell 2) [(.var 0)])]), (.pr (.cell 2) [(.var 1)]), (.pr (.cell 2) [(.var 0)])])])])])])]), (.pr .slen [(.pr .scat [(.pr (.cell 1) [(.var 0)]), (.app 37 [(.pr (.iop .sub .i64) [(.pr (.cell 2) [(.var 0)]), (.pr .ite [(.pr (.icmp .lss) [(.pr (.cell 2) [(.var 1)]), (.pr (.cell 2) [(.var 0)])]), (.pr (.cell 2) [(.var 1)]), (.pr (.cell 2) [(.var 0)])])])])])])])])
 (.giv (.app 2037 [(.pr (.iop .sub .i64) [(.pr .ite [(.pr (.icmp .gtr) [(.pr .slen [(.pr .scat [(.pr (.cell 1) [(.var 1)]), (.app 37 [(.pr (.iop .sub .i64) [(.pr (.cell 2) [(.var 1)]), (.pr .ite [(.pr (.icmp .lss) [(.pr (.cell 2) [(.var 1)]), (.pr (.cell 2) [(.var 0)])]), (.pr (.cell 2) [(.var 1)]), (.pr (.cell 2) [(.var 0)])])])])])]), (.pr .slen [(.pr .scat [(.pr (.cell 1) [(.var 0)]), (.app 37 [(.pr (.iop .sub .i64) [(.pr (.cell 2) [(.var 0)]), (.pr .ite [(.pr (.icmp .lss) [(.pr (.cell 2) [(.var 1)]), (.pr (.cell 2) [(.var 0)])]), (.pr (.cell 2) [(.var 1)]), (.pr (.cell 2) [(.var 0)])])])])])])]), (.pr .slen [(.pr .scat [(.pr (.cell 1) [(.var 1)]), (.app 37 [(.pr (.iop .sub .i64) [(.pr (.cell 2) [(.var 1)]), (.pr .ite [(.pr (.icmp .lss) [(.pr (.cell 2) [(.var 1)]), (.pr (.cell 2) [(.var 0)])]), (.pr (.cell 2) [(.var 1)]), (.pr (.cell 2) [(.var 0)])])])])])]), (.pr .slen [(.pr .scat [(.pr (.cell 1) [(.var 0)]), (.app 37 [(.pr (.iop .sub .i64) [(.pr (.cell 2) [(.var 0)]), (.pr .ite [(.pr (.icmp .lss) [(.pr (.cell 2) [(.var 1)]), (.pr (.cell 2) [(.var 0)])]), (.pr (.cell 2) [(.var 1)]), (.pr (.cell 2) [(.var 0)])])])])])])]), (.pr .slen [(.pr .scat [(.pr (.cell 1) [(.var 0)]), (.app 37 [(.pr (.iop .sub .i64) [(.pr (.cell 2) [(.var 0)]), (.pr .ite [(.pr (.icmp .lss) [(.pr (.cell 2) [(.var 1)]), (.pr (.cell 2) [(.var 0)])]), (.pr (.cell 2) [(.var 1)]), (.pr (.cell 2) [(.var 0)])])])])])])])])
 (.giv (.pr (.icmp .leq) [(.pr .slen [(.app 37 [(.pr (.iop .sub .i64) [(.pr .ite [(.pr (.icmp .gtr) [(.pr .slen [(.pr .scat [(.pr (.cell 1) [(.var 1)]), (.app 37 [(.pr (.iop .sub .i64) [(.pr (.cell 2) [(.var 1)]), (.pr .ite [(.pr (.icmp .lss) [(.pr (.cell 2) [(.var 1)]), (.pr (.cell 2) [(.var 0)])]), (.pr (.cell 2) [(.var 1)]), (.pr (.cell 2) [(.var 0)])])])])])]), (.pr .slen [(.pr .scat [(.pr (.cell 1) [(.var 0)]), (.app 37 [(.pr (.iop .sub .i64) [(.pr (.cell 2) [(.var 0)]), (.pr .ite [(.pr (.icmp .lss) [(.pr (.cell 2) [(.var 1)]), (.pr (.cell 2) [(.var 0)])]), (.pr (.cell 2) [(.var 1)]), (.pr (.cell 2) [(.var 0)])])])])])])]), (.pr .slen [(.pr .scat [(.pr (.cell 1) [(.var 1)]), (.app 37 [(.pr (.iop .sub .i64) [(.pr (.cell 2) [(.var 1)]), (.pr .ite [(.pr (.icmp .lss) [(.pr (.cell 2) [(.var 1)]), (.pr (.cell 2) [(.var 0)])]), (.pr (.cell 2) [(.var 1)]), (.pr (.cell 2) [(.var 0)])])])])])]), (.pr .slen [(.pr .scat [(.pr (.cell 1) [(.var 0)]), (.app 37 [(.pr (.iop .sub .i64) [(.pr (.cell 2) [(.var 0)]), (.pr .ite [(.pr (.icmp .lss) [(.pr (.cell 2) [(.var 1)]), (.pr (.cell 2) [(.var 0)])]), (.pr (.cell 2) [(.var 1)]), (.pr (.cell 2) [(.var 0)])])])])])])]), (.pr .slen [(.pr .scat [(.pr (.cell 1) [(.var 0)]), (.app 37 [(.pr (.iop .sub .i64) [(.pr (.cell 2) [(.var 0)]), (.pr .ite [(.pr (.icmp .lss) [(.pr (.cell 2) [(.var 1)]), (.pr (.cell 2) [(.var 0)])]), (.pr (.cell 2) [(.var 1)]), (.pr (.cell 2) [(.var 0)])])])])])])])])]), (.lit (.int .i64 1099511627776))])
 (.giv (.pr (.icmp .leq) [(.pr .slen [(.pr .scat [(.pr (.cell 1) [(.var 0)]), (.app 37 [(.pr (.iop .sub .i64) [(.pr (.cell 2) [(.var 0)]), (.pr .ite [(.pr (.icmp .lss) [(.pr (.cell 2) [(.var 1)]), (.pr (.cell 2) [(.var 0)])]), (.pr (.cell 2) [(.var 1)]), (.pr (.cell 2) [(.var 0)])])])])])]), (.lit (.int .i64 1099511627776))])
 (.giv (.app 1000 [(.pr (.iop .sub .i64) [(.pr .ite [(.pr (.icmp .gtr) [(.pr .slen [(.pr .scat [(.pr (.cell 1) [(.var 1)]), (.app 37 [(.pr (.iop .sub .i64) [(.pr (.cell 2) [(.var 1)]), (.pr .ite [(.pr (.icmp .lss) [(.pr (.cell 2) [(.var 1)]), (.pr (.cell 2) [(.var 0)])]), (.pr (.cell 2) [(.var 1)]), (.pr (.cell 2) [(.var 0)])])])])])]), (.pr .slen [(.pr .scat [(.pr (.cell 1) [(.var 0)]), (.app 37 [(.pr (.iop .sub .i64) [(.pr (.cell 2) [(.var 0)]), (.pr .ite [(.pr (.icmp .lss) [(.pr (.cell 2) [(.var 1)]), (.pr (.cell 2) [(.var 0)])]), (.pr (.cell 2) [(.var 1)]), (.pr (.cell 2) [(.var 0)])])])])])])]), (.pr .slen [(.pr .scat [(.pr (.cell 1) [(.var 1)]), (.app 37 [(.pr (.iop .sub .i64) [(.pr (.cell 2) [(.var 1)]), (.pr .ite [(.pr (.icmp .lss) [(.pr (.cell 2) [(.var 1)]), (.pr (.cell 2) [(.var 0)])]), (.pr (.cell 2) [(.var 1)]), (.pr (.cell 2) [(.var 0)])])])])])]), (.pr .slen [(.pr .scat [(.pr (.cell 1) [(.var 0)]), (.app 37 [(.pr (.iop .sub .i64) [(.pr (.cell 2) [(.var 0)]), (.pr .ite [(.pr (.icmp .lss) [(.pr (.cell 2) [(.var 1)]), (.pr (.cell 2) [(.var 0)])]), (.pr (.cell 2) [(.var 1)]), (.pr (.cell 2) [(.var 0)])])])])])])]), (.pr .slen [(.pr .scat [(.pr (.cell 1) [(.var 1)]), (.app 37 [(.pr (.iop .sub .i64) [(.pr (.cell 2) [(.var 1)]), (.pr .ite [(.pr (.icmp .lss) [(.pr (.cell 2) [(.var 1)]), (.pr (.cell 2) [(.var 0)])]), (.pr (.cell 2) [(.var 1)]), (.pr (.cell 2) [(.var 0)])])])])])])])])
 (.giv (.app 2037 [(.pr (.iop .sub .i64) [(.pr .ite [(.pr (.icmp .gtr) [(.pr .slen [(.pr .scat [(.pr (.cell 1) [(.var 1)]), (.app 37 [(.pr (.iop .sub .i64) [(.pr (.cell 2) [(.var 1)]), (.pr .ite [(.pr (.icmp .lss) [(.pr (.cell 2) [(.var 1)]), (.pr (.cell 2) [(.var 0)])]), (.pr (.cell 2) [(.var 1)]), (.pr (.cell 2) [(.var 0)])])])])])]), (.pr .slen [(.pr .scat [(.pr (.cell 1) [(.var 0)]), (.app 37 [(.pr (.iop .sub .i64) [(.pr (.cell 2) [(.var 0)]), (.pr .ite [(.pr (.icmp .lss) [(.pr (.cell 2) [(.var 1)]), (.pr (.cell 2) [(.var 0)])]), (.pr (.cell 2) [(.var 1)]), (.pr (.cell 2) [(.var 0)])])])])])])]), (.pr .slen [(.pr .scat [(.pr (.cell 1) [(.var 1)]), (.app 37 [(.pr (.iop .sub .i64) [(.pr (.cell 2) [(.var 1)]), (.pr .ite [(.pr (.icmp .lss) [(.pr (.cell 2) [(.var 1)]), (.pr (.cell 2) [(.var 0)])]), (.pr (.cell 2) [(.var 1)]), (.pr (.cell 2) [(.var 0)])])])])])]), (.pr .slen [(.pr .scat [(.pr (.cell 1) [(.var 0)]), (.app 37 [(.pr (.iop .sub .i64) [(.pr (.cell 2) [(.var 0)]), (.pr .ite [(.pr (.icmp .lss) [(.pr (.cell 2) [(.var 1)]), (.pr (.cell 2) [(.var 0)])]), (.pr (.cell 2) [(.var 1)]), (.pr (.cell 2) [(.var 0)])])])])])])]), (.pr .slen [(.pr .scat [(.pr (.cell 1) [(.var 1)]), (.app 37 [(.pr (.iop .sub .i64) [(.pr (.cell 2) [(.var 1)]), (.pr .ite [(.pr (.icmp .lss) [(.pr (.cell 2) [(.var 1)]), (.pr (.cell 2) [(.var 0)])]), (.pr (.cell 2) [(.var 1)]), (.pr (.cell 2) [(.var 0)])])])])])])])])
 (.giv (.pr (.icmp .leq) [(.pr .slen [(.app 37 [(.pr (.iop .sub .i64) [(.pr .ite [(.pr (.icmp .gtr) [(.pr .slen [(.pr .scat [(.pr (.cell 1) [(.var 1)]), (.app 37 [(.pr (.iop .sub .i64) [(.pr (.cell 2) [(.var 1)]), (.pr .ite [(.pr (.icmp .lss) [(.pr (.cell 2) [(.var 1)]), (.pr (.cell 2) [(.var 0)])]), (.pr (.cell 2) [(.var 1)]), (.pr (.cell 2) [(.var 0)])])])])])]), (.pr .slen [(.pr .scat [(.pr (.cell 1) [(.var 0)]), (.app 37 [(.pr (.iop .sub .i64) [(.pr (.cell 2) [(.var 0)]), (.pr .ite [(.pr (.icmp .lss) [(.pr (.cell 2) [(.var 1)]), (.pr (.cell 2) [(.var 0)])]), (.pr (.cell 2) [(.var 1)]), (.pr (.cell 2) [(.var 0)])])])])])])]), (.pr .slen [(.pr .scat [(.pr (.cell 1) [(.var 1)]), (.app 37 [(.pr (.iop .sub .i64) [(.pr (.cell 2) [(.var 1)]), (.pr .ite [(.pr (.icmp .lss) [(.pr (.cell 2) [(.var 1)]), (.pr (.cell 2) [(.var 0)])]), (.pr (.cell 2) [(.var 1)]), (.pr (.cell 2) [(.var 0)])])])])])]), (.pr .slen [(.pr .scat [(.pr (.cell 1) [(.var 0)]), (.app 37 [(.pr (.iop .sub .i64) [(.pr (.cell 2) [(.var 0)]), (.pr .ite [(.pr (.icmp .lss) [(.pr (.cell 2) [(.var 1)]), (.pr (.cell 2) [(.var 0)])]), (.pr (.cell 2) [(.var 1)]), (.pr (.cell 2) [(.var 0)])])])])])])]), (.pr .slen [(.pr .scat [(.pr (.cell 1) [(.var 1)]), (.app 37 [(.pr (.iop .sub .i64) [(.pr (.cell 2) [(.var 1)]), (.pr .ite [(.pr (.icmp .lss) [(.pr (.cell 2) [(.var 1)]), (.pr (.cell 2) [(.var 0)])]), (.pr (.cell 2) [(.var 1)]), (.pr (.cell 2) [(.var 0)])])])])])])])])]), (.lit (.int .i64 1099511627776))])
 (.giv (.pr (.icmp .leq) [(.pr .slen [(.pr .scat [(.pr (.cell 1) [(.var 1)]), (.app 37 [(.pr (.iop .sub .i64) [(.pr (.cell 2) [(.var 1)]), (.pr .ite [(.pr (.icmp .lss) [(.pr (.cell 2) [(.var 1)]), (.pr (.cell 2) [(.var 0)])]), (.pr (.cell 2) [(.var 1)]), (.pr (.cell 2) [(.var 0)])])])])])]), (.lit (.int .i64 1099511627776))])
 (.leaf (.ret (.pr .row [(.pr .scat [(.app 37 [(.pr (.iop .sub .i64) [(.pr .ite [(.pr (.icmp .gtr) [(.pr .slen [(.pr .scat [(.pr (.cell 1) [(.var 1)]), (.app 37 [(.pr (.iop .sub .i64) [(.pr (.cell 2) [(.var 1)]), (.pr .ite [(.pr (.icmp .lss) [(.pr (.cell 2) [(.var 1)]), (.pr (.cell 2) [(.var 0)])]), (.pr (.cell 2) [(.var 1)]), (.pr (.cell 2) [(.var 0)])])])])])]), (.pr .slen [(.pr .scat [(.pr (.cell 1) [(.var 0)]), (.app 37 [(.pr (.iop .sub .i64) [(.pr (.cell 2) [(.var 0)]), (.pr .ite [(.pr (.icmp .lss) [(.pr (.cell 2) [(.var 1)]), (.pr (.cell 2) [(.var 0)])]), (.pr (.cell 2) [(.var 1)]), (.pr (.cell 2) [(.var 0)])])])])])])]), (.pr .slen [(.pr .scat [(.pr (.cell 1) [(.var 1)]), (.app 37 [(.pr (.iop .sub .i64) [(.pr (.cell 2) [(.var 1)]), (.pr .ite [(.pr (.icmp .lss) [(.pr (.cell 2) [(.var 1)]), (.pr (.cell 2) [(.var 0)])]), (.pr (.cell 2) [(.var 1)]), (.pr (.cell 2) [(.var 0)])])])])])]), (.pr .slen [(.pr .scat [(.pr (.cell 1) [(.var 0)]), (.app 37 [(.pr (.iop .sub .i64) [(.pr (.cell 2) [(.var 0)]), (.pr .ite [(.pr (.icmp .lss) [(.pr (.cell 2) [(.var 1)]), (.pr (.cell 2) [(.var 0)])]), (.pr (.cell 2) [(.var 1)]), (.pr (.cell 2) [(.var 0)])])])])])])]), (.pr .slen [(.pr .scat [(.pr (.cell 1) [(.var 0)]), (.app 37 [(.pr (.iop .sub .i64) [(.pr (.cell 2) [(.var 0)]), (.pr .ite [(.pr (.icmp .lss) [(.pr (.cell 2) [(.var 1)]), (.pr (.cell 2) [(.var 0)])]), (.pr (.cell 2) [(.var 1)]), (.pr (.cell 2) [(.var 0)])])])])])])])]), (.pr .scat [(.pr (.cell 1) [(.var 0)]), (.app 37 [(.pr (.iop .sub .i64) [(.pr (.cell 2) [(.var 0)]), (.pr .ite [(.pr (.icmp .lss) [(.pr (.cell 2) [(.var 1)]), (.pr (.cell 2) [(.var 0)])]), (.pr (.cell 2) [(.var 1)]), (.pr (.cell 2) [(.var 0)])])])])])]), (.pr .scat [(.app 37 [(.pr (.iop .sub .i64) [(.pr .ite [(.pr (.icmp .gtr) [(.pr .slen [(.pr .scat [(.pr (.cell 1) [(.var 1)]), (.app 37 [(.pr (.iop .sub .i64) [(.pr (.cell 2) [(.var 1)]), (.pr .ite [(.pr (.icmp .lss) [(.pr (.cell 2) [(.var 1)]), (.pr (.cell 2) [(.var 0)])]), (.pr (.cell 2) [(.var 1)]), (.pr (.cell 2) [(.var 0)])])])])])]), (.pr .slen [(.pr .scat [(.pr (.cell 1) [(.var 0)]), (.app 37 [(.pr (.iop .sub .i64) [(.pr (.cell 2) [(.var 0)]), (.pr .ite [(.pr (.icmp .lss) [(.pr (.cell 2) [(.var 1)]), (.pr (.cell 2) [(.var 0)])]), (.pr (.cell 2) [(.var 1)]), (.pr (.cell 2) [(.var 0)])])])])])])]), (.pr .slen [(.pr .scat [(.pr (.cell 1) [(.var 1)]), (.app 37 [(.pr (.iop .sub .i64) [(.pr (.cell 2) [(.var 1)]), (.pr .ite [(.pr (.icmp .lss) [(.pr (.cell 2) [(.var 1)]), (.pr (.cell 2) [(.var 0)])]), (.pr (.cell 2) [(.var 1)]), (.pr (.cell 2) [(.var 0)])])])])])]), (.pr .slen [(.pr .scat [(.pr (.cell 1) [(.var 0)]), (.app 37 [(.pr (.iop .sub .i64) [(.pr (.cell 2) [(.var 0)]), (.pr .ite [(.pr (.icmp .lss) [(.pr (.cell 2) [(.var 1)]), (.pr (.cell 2) [(.var 0)])]), (.pr (.cell 2) [(.var 1)]), (.pr (.cell 2) [(.var 0)])])])])])])]), (.pr .slen [(.pr .scat [(.pr (.cell 1) [(.var 1)]), (.app 37 [(.pr (.iop .sub .i64) [(.pr (.cell 2) [(.var 1)]), (.pr .ite [(.pr (.icmp .lss) [(.pr (.cell 2) [(.var 1)]), (.pr (.cell 2) [(.var 0)])]), (.pr (.cell 2) [(.var 1)]), (.pr (.cell 2) [(.var 0)])])])])])])])]), (.pr .scat [(.pr (.cell 1) [(.var 1)]), (.app 37 [(.pr (.iop .sub .i64) [(.pr (.cell 2) [(.var 1)]), (.pr .ite [(.pr (.icmp .lss) [(.pr (.cell 2) [(.var 1)]), (.pr (.cell 2) [(.var 0)])]), (.pr (.cell 2) [(.var 1)]), (.pr (.cell 2) [(.var 0)])])])])])]), (.pr .ite [(.pr (.icmp .lss) [(.pr (.cell 2) [(.var 1)]), (.pr (.cell 2) [(.var 0)])]), (.pr (.cell 2) [(.var 1)]), (.pr (.cell 2) [(.var 0)])])])))))))))))))))))))
def trees_raligned : List Tree := []
noncomputable def deps_raligned : List Sig := [q_rzeros]
theorem ok_raligned : check q_raligned deps_raligned heads_raligned entry_raligned trees_raligned = true := by kernel_rfl
theorem levQ_size (p q : ByteArray) (hp : p.size ≤ 10000) (hq : q.size ≤ 10000) : (levQ p q).size = max p.size q.size := by
  have wz : IntKind.i64.wrap ((q.size : Int) - p.size) = (q.size : Int) - p.size := wrap_id (by omega) (by omega)
  show (zer (if 0 < IntKind.i64.wrap ((q.size : Int) - p.size) then IntKind.i64.wrap ((q.size : Int) - p.size) else 0) ++ p).size = _
  rw [cat_size, zer_size, wz]
  split <;> omega
theorem levP_size {d : ByteArray} {e x : Int} (h : d.size ≤ 40) (h1 : x ≤ e) (h2 : e - x ≤ 800) : (levP d e x).size = d.size + (e - x).toNat := by
  have w1 : IntKind.i64.wrap (e - x) = e - x := wrap_id (by omega) (by omega)
  show (d ++ zer (IntKind.i64.wrap (e - x))).size = _
  rw [cat_size, zer_size, w1]
theorem raligned_ok (n : Nat) : @Ok (I n) q_raligned (@okS (I n) n q_raligned.g) := by
  letI := I n
  refine fn_okS (hphi n) ok_raligned (by
    intro q hq
    simp only [deps_raligned, List.mem_singleton] at hq
    subst hq
    exact rzeros_ok n) (fun _ _ _ => False) (fun _ _ => 0) ?_ (fun j h t d ds hj => by simp [heads_raligned] at hj)
  intro ds hf hp
  obtain ⟨a, d, e, a', d', e', rfl⟩ := num_two hf
  obtain ⟨p1, p2, p3, p4, p5, p6⟩ := (pre_raligned n _ _ _ _ _ _).1 (hp.2 rfl)
  obtain ⟨h1, h2, h3⟩ := okD_two.1 hp.1
  simp only [D.sz, D.szL] at h1
  obtain ⟨x1, x2, x3⟩ := levX_le e e'
  have hr : ∀ i : Int, okD n [iD i] := fun i => okD_one.2 ⟨by simp only [D.sz]; omega, trivial⟩
  have w1 : IntKind.i64.wrap (e - levX e e') = e - levX e e' := wrap_id (by omega) (by omega)
  have w2 : IntKind.i64.wrap (e' - levX e e') = e' - levX e e' := wrap_id (by omega) (by omega)
  have s1 := levP_size (x := levX e e') p1 x1 (by omega)
  have s2 := levP_size (x := levX e e') p2 x2 (by omega)
  have f1 : (if e' < e then e' else e) = levX e e' := rfl
  have f2 : d ++ zer (IntKind.i64.wrap (e - levX e e')) = levP d e (levX e e') := rfl
  have f3 : d' ++ zer (IntKind.i64.wrap (e' - levX e e')) = levP d' e' (levX e e') := rfl
  simp only [entry_raligned, q_raligned, Tree.holds, Out.den, E.den, E.denL, den1, den2, den3, den4, den5, den6, den7, den8, Bool.not_eq_true', Bool.not_eq_false', List.getD_cons_zero, List.getD_cons_succ, true_and, and_true, List.length_map, phi_1000, phi_rzeros, phi_raligned, pre_rzeros, row_at0, row_at1, row_at2, bif_iD, f1, f2, f3]
  have u1 : ((e - levX e e').toNat : Int) = e - levX e e' := Int.toNat_of_nonneg (by omega)
  have u2 : ((e' - levX e e').toNat : Int) = e' - levX e e' := Int.toNat_of_nonneg (by omega)
  rw [w1, w2]
  generalize levX e e' = x at *
  have q1 : (levP d e x).size ≤ 1000 := by omega
  have q2 : (levP d' e' x).size ≤ 1000 := by omega
  have q3 : (levQ (levP d e x) (levP d' e' x)).size ≤ 1000 := by rw [levQ_size _ _ (by omega) (by omega)]; omega
  have wz : ∀ a b : Nat, a ≤ 10000 → b ≤ 10000 → IntKind.i64.wrap ((a : Int) - b) = (a : Int) - b := fun a b _ _ => wrap_id (by omega) (by omega)
  have hm : (if (levP d e x).size < (levP d' e' x).size then ((levP d' e' x).size : Int) else (levP d e x).size) = ((max (levP d e x).size (levP d' e' x).size : Nat) : Int) := by split <;> omega
  have lq : ∀ p q : ByteArray, p.size ≤ 1000 → q.size ≤ 1000 → zer (((max p.size q.size : Nat) : Int) - p.size) ++ p = levQ p q := fun p q hp hq => by
    show _ = zer (if 0 < IntKind.i64.wrap ((q.size : Int) - p.size) then IntKind.i64.wrap ((q.size : Int) - p.size) else 0) ++ p
    rw [wz _ _ (by omega) (by omega)]
    have : ((max p.size q.size : Nat) : Int) - p.size = (if 0 < (q.size : Int) - p.size then (q.size : Int) - p.size else 0) := by split <;> omega
    rw [this]
  have e1 := lq _ _ q1 q2
  have e2 : zer (((max (levP d e x).size (levP d' e' x).size : Nat) : Int) - (levP d' e' x).size) ++ levP d' e' x = levQ (levP d' e' x) (levQ (levP d e x) (levP d' e' x)) := by
    rw [← lq _ _ q2 q3, levQ_size _ _ (by omega) (by omega)]
    have : max (levP d' e' x).size (max (levP d e x).size (levP d' e' x).size) = max (levP d e x).size (levP d' e' x).size := by omega
    rw [this]
  have hc : ∀ a b : Nat, ((b : Int) < (a : Int)) ↔ b < a := fun a b => by omega
  simp only [hc, hm]
  generalize hM : max (levP d e x).size (levP d' e' x).size = M at *
  rw [wz M _ (by omega) (by omega), wz M _ (by omega) (by omega), e1, e2]
  simp only [zer_size]
  exact ⟨hr _, ⟨by omega, by omega⟩, by omega, by omega, hr _, ⟨by omega, by omega⟩, by omega, by omega,
    hr _, ⟨by omega, by omega⟩, by omega, by omega, hr _, ⟨by omega, by omega⟩, by omega, by omega, trivial⟩
/-- calamus/calamusref01.Less: func 103, params [29, 29], ntmps 30. -/
def heads_rnumless : List Hd := []
def entry_rnumless : Tree :=
 (.ite (.pr (.bcmp .neq) [(.pr (.cell 0) [(.var 0)]), (.pr (.cell 0) [(.var 1)])])
 (.leaf (.ret (.pr (.cell 0) [(.var 0)])))
 (.giv (.app 1000 [(.pr .row [(.pr (.cell 0) [(.var 0)]), (.pr (.cell 1) [(.var 0)]), (.pr (.cell 2) [(.var 0)])]), (.pr .row [(.pr (.cell 0) [(.var 1)]), (.pr (.cell 1) [(.var 1)]), (.pr (.cell 2) [(.var 1)])])])
 (.giv (.app 2056 [(.pr .row [(.pr (.cell 0) [(.var 0)]), (.pr (.cell 1) [(.var 0)]), (.pr (.cell 2) [(.var 0)])]), (.pr .row [(.pr (.cell 0) [(.var 1)]), (.pr (.cell 1) [(.var 1)]), (.pr (.cell 2) [(.var 1)])])])
 (.ite (.pr (.cell 0) [(.var 0)])
 (.ite (.pr (.bcmp .neq) [(.lit (.bool true)), (.pr (.cell 0) [(.var 1)])])
 (.leaf (.ret (.lit (.bool true))))
 (.giv (.app 1000 [(.pr (.cell 1) [(.app 56 [(.pr .row [(.pr (.cell 0) [(.var 0)]), (.pr (.cell 1) [(.var 0)]), (.pr (.cell 2) [(.var 0)])]), (.pr .row [(.pr (.cell 0) [(.var 1)]), (.pr (.cell 1) [(.var 1)]), (.pr (.cell 2) [(.var 1)])])])]), (.pr (.cell 0) [(.app 56 [(.pr .row [(.pr (.cell 0) [(.var 0)]), (.pr (.cell 1) [(.var 0)]), (.pr (.cell 2) [(.var 0)])]), (.pr .row [(.pr (.cell 0) [(.var 1)]), (.pr (.cell 1) [(.var 1)]), (.pr (.cell 2) [(.var 1)])])])])])
 (.giv (.app 2038 [(.pr (.cell 1) [(.app 56 [(.pr .row [(.pr (.cell 0) [(.var 0)]), (.pr (.cell 1) [(.var 0)]), (.pr (.cell 2) [(.var 0)])]), (.pr .row [(.pr (.cell 0) [(.var 1)]), (.pr (.cell 1) [(.var 1)]), (.pr (.cell 2) [(.var 1)])])])]), (.pr (.cell 0) [(.app 56 [(.pr .row [(.pr (.cell 0) [(.var 0)]), (.pr (.cell 1) [(.var 0)]), (.pr (.cell 2) [(.var 0)])]), (.pr .row [(.pr (.cell 0) [(.var 1)]), (.pr (.cell 1) [(.var 1)]), (.pr (.cell 2) [(.var 1)])])])])])
 (.leaf (.ret (.app 38 [(.pr (.cell 1) [(.app 56 [(.pr .row [(.pr (.cell 0) [(.var 0)]), (.pr (.cell 1) [(.var 0)]), (.pr (.cell 2) [(.var 0)])]), (.pr .row [(.pr (.cell 0) [(.var 1)]), (.pr (.cell 1) [(.var 1)]), (.pr (.cell 2) [(.var 1)])])])]), (.pr (.cell 0) [(.app 56 [(.pr .row [(.pr (.cell 0) [(.var 0)]), (.pr (.cell 1) [(.var 0)]), (.pr (.cell 2) [(.var 0)])]), (.pr .row [(.pr (.cell 0) [(.var 1)]), (.pr (.cell 1) [(.var 1)]), (.pr (.cell 2) [(.var 1)])])])])]))))))
 (.ite (.pr (.bcmp .neq) [(.lit (.bool false)), (.pr (.cell 0) [(.var 1)])])
 (.leaf (.ret (.lit (.bool false))))
 (.giv (.app 1000 [(.pr (.cell 0) [(.app 56 [(.pr .row [(.pr (.cell 0) [(.var 0)]), (.pr (.cell 1) [(.var 0)]), (.pr (.cell 2) [(.var 0)])]), (.pr .row [(.pr (.cell 0) [(.var 1)]), (.pr (.cell 1) [(.var 1)]), (.pr (.cell 2) [(.var 1)])])])]), (.pr (.cell 1) [(.app 56 [(.pr .row [(.pr (.cell 0) [(.var 0)]), (.pr (.cell 1) [(.var 0)]), (.pr (.cell 2) [(.var 0)])]), (.pr .row [(.pr (.cell 0) [(.var 1)]), (.pr (.cell 1) [(.var 1)]), (.pr (.cell 2) [(.var 1)])])])])])
 (.giv (.app 2038 [(.pr (.cell 0) [(.app 56 [(.pr .row [(.pr (.cell 0) [(.var 0)]), (.pr (.cell 1) [(.var 0)]), (.pr (.cell 2) [(.var 0)])]), (.pr .row [(.pr (.cell 0) [(.var 1)]), (.pr (.cell 1) [(.var 1)]), (.pr (.cell 2) [(.var 1)])])])]), (.pr (.cell 1) [(.app 56 [(.pr .row [(.pr (.cell 0) [(.var 0)]), (.pr (.cell 1) [(.var 0)]), (.pr (.cell 2) [(.var 0)])]), (.pr .row [(.pr (.cell 0) [(.var 1)]), (.pr (.cell 1) [(.var 1)]), (.pr (.cell 2) [(.var 1)])])])])])
 (.leaf (.ret (.app 38 [(.pr (.cell 0) [(.app 56 [(.pr .row [(.pr (.cell 0) [(.var 0)]), (.pr (.cell 1) [(.var 0)]), (.pr (.cell 2) [(.var 0)])]), (.pr .row [(.pr (.cell 0) [(.var 1)]), (.pr (.cell 1) [(.var 1)]), (.pr (.cell 2) [(.var 1)])])])]), (.pr (.cell 1) [(.app 56 [(.pr .row [(.pr (.cell 0) [(.var 0)]), (.pr (.cell 1) [(.var 0)]), (.pr (.cell 2) [(.var 0)])]), (.pr .row [(.pr (.cell 0) [(.var 1)]), (.pr (.cell 1) [(.var 1)]), (.pr (.cell 2) [(.var 1)])])])])]))))))))))
def trees_rnumless : List Tree := []
noncomputable def deps_rnumless : List Sig := [q_raligned, q_rless]
theorem ok_rnumless : check q_rnumless deps_rnumless heads_rnumless entry_rnumless trees_rnumless = true := by kernel_rfl
theorem rnumless_ok (n : Nat) : @Ok (I n) q_rnumless (@okS (I n) n q_rnumless.g) := by
  letI := I n
  refine fn_okS (hphi n) ok_rnumless (by
    intro q hq
    simp only [deps_rnumless, List.mem_cons, List.not_mem_nil, or_false] at hq
    rcases hq with rfl | rfl
    · exact raligned_ok n
    · exact rless_ok n) (fun _ _ _ => False) (fun _ _ => 0) ?_ (fun j h t d ds hj => by simp [heads_rnumless] at hj)
  intro ds hf hp
  obtain ⟨a, d, e, a', d', e', rfl⟩ := num_two hf
  obtain ⟨k1, k2⟩ := (pre_rnumless n _ _ _ _ _ _).1 (hp.2 rfl)
  obtain ⟨p1, p3, p4⟩ := numV_num k1
  obtain ⟨p2, p5, p6⟩ := numV_num k2
  obtain ⟨x1, x2, x3⟩ := levX_le e e'
  have s1 := levP_size (x := levX e e') p1 x1 (by omega)
  have s2 := levP_size (x := levX e e') p2 x2 (by omega)
  have z1 := levQ_size (levP d e (levX e e')) (levP d' e' (levX e e')) (by omega) (by omega)
  have z2 := levQ_size (levP d' e' (levX e e')) (levQ (levP d e (levX e e')) (levP d' e' (levX e e'))) (by omega) (by omega)
  have h0 := (okD_two.1 hp.1).1
  simp only [D.sz, D.szL] at h0
  have hk := numC_key (a, d, e) (a', d', e') k1 k2
  have hl := lev_cmp (numOk_dig (t := (a, d, e)) k1) (numOk_dig (t := (a', d', e')) k2) p1 p2 p3 p4 p5 p6
  have ha := (ord_cmpS (levQ (levP d e (levX e e')) (levP d' e' (levX e e')))).anti (levQ (levP d' e' (levX e e')) (levQ (levP d e (levX e e')) (levP d' e' (levX e e')))) trivial
  have hn : numC (a, d, e) (a', d', e') = (numcmpV a d e a' d' e').1 := rfl
  have zt := kN_zero (t := (a, d, e)) k1
  have zu := kN_zero (t := (a', d', e')) k2
  unfold keyN at hk
  simp only at zt zu hl hk
  rw [hn] at hk
  simp only [entry_rnumless, q_rnumless, Tree.holds, Out.den, E.den, E.denL, den1, den2, den3, den4, den5, den6, den7, den8, Bool.not_eq_true', Bool.not_eq_false', List.getD_cons_zero, List.getD_cons_succ, true_and, and_true, List.length_map, phi_1000, phi_raligned, phi_rless, phi_rnumless, pre_raligned, pre_rless, row_at0, row_at1, row_at2]
  have o3 : ∀ p q : ByteArray, p.size ≤ 10000 → q.size ≤ 10000 → okD n [sD p, sD q] := fun p q hp hq =>
    okD_two.2 ⟨by rw [sz_sD, sz_sD]; omega, lim_sD.2 (by have : 10000 ≤ lim := (by decide); omega), lim_sD.2 (by have : 10000 ≤ lim := (by decide); omega)⟩
  generalize levQ (levP d e (levX e e')) (levP d' e' (levX e e')) = P at *
  generalize levQ (levP d' e' (levX e e')) P = Q at *
  have l1 : P.size ≤ 10000 := by omega
  have l2 : Q.size ≤ 10000 := by omega
  have l3 : P.size = Q.size := by omega
  clear s1 s2 z1 z2 h0 x1 x2 x3
  have hcl := cmpZ_lt (a := (kN d e : Int)) (b := kN d' e')
  have hcl' := cmpZ_lt (a := -(kN d e : Int)) (b := -(kN d' e' : Int))
  have hcl2 := cmpZ_lt (a := -(kN d e : Int)) (b := (kN d' e' : Int))
  have hcl3 := cmpZ_lt (a := (kN d e : Int)) (b := -(kN d' e' : Int))
  have hr := cmpZ_rng (kN d e : Int) (kN d' e' : Int)
  have hcg := cmpZ_anti (kN d e : Int) (kN d' e' : Int)
  have hcg' := cmpZ_lt (a := (kN d' e' : Int)) (b := kN d e)
  rw [hk]
  have key : ∀ b c : Bool, (b = true ↔ c = true) → bD b = bD c := fun b c h => by rw [Bool.eq_iff_iff.2 h]
  cases a <;> cases a'
  · simp only [bne_self_eq_false, Bool.false_eq_true, false_implies, true_implies, true_and, and_true, if_false]
    refine ⟨hp.1, ⟨p1, p2, p3, p4, p5, p6⟩, o3 _ _ l1 l2, l3, ?_⟩
    rw [hl]
  · simp only [Bool.false_eq_true, false_implies, true_implies, true_and, and_true, if_false, if_true, bne, Bool.not_eq_true']
    have := zu.2 rfl
    simp only [Bool.false_beq, Bool.not_true, Bool.not_false, true_implies, Bool.true_eq_false, false_implies, and_true]
    apply key
    rw [decide_eq_true_iff]
    constructor
    · intro h; cases h
    · intro h; omega
  · have := zt.2 rfl
    simp only [Bool.false_eq_true, false_implies, true_implies, true_and, and_true, if_false, if_true, bne, Bool.not_eq_true', Bool.true_beq, Bool.not_false, Bool.not_true, Bool.true_eq_false]
    apply key
    rw [decide_eq_true_iff]
    constructor
    · intro _; omega
    · intro h; rfl
  · simp only [bne_self_eq_false, Bool.false_eq_true, Bool.true_eq_false, false_implies, true_implies, true_and, and_true, if_false, if_true]
    refine ⟨hp.1, ⟨p1, p2, p3, p4, p5, p6⟩, o3 _ _ l2 l1, l3.symm, ?_⟩
    apply key
    rw [decide_eq_true_iff, decide_eq_true_iff, ha, hl]
    omega
end Go.Proofs.YtaeeblcdggjokaaGreatDoor.Vk
/- Contracts of the reference: the order of values; the law ValueOrders. -/
namespace Go.Proofs.YtaeeblcdggjokaaGreatDoor.Vk
open Go Go.Ab Go.RowKit
set_option maxRecDepth 100000
set_option linter.unusedVariables false
set_option linter.unusedSimpArgs false
set_option linter.unusedSectionVars false
set_option linter.constructorNameAsVariable false
theorem bytesLess_eq : ∀ a b : List UInt8, Op.bytesLess a b = decide (Lib.compareBytes a b = -1)
  | [], [] => rfl
  | [], _ :: _ => rfl
  | _ :: _, [] => rfl
  | x :: a, y :: b => by
    have ih := bytesLess_eq a b
    have e : Lib.compareBytes (x :: a) (y :: b) = if x < y then -1 else if y < x then 1 else Lib.compareBytes a b := rfl
    show (decide (x < y) || (x == y && Op.bytesLess a b)) = _
    rw [e, ih]
    by_cases h1 : x < y
    · rw [decide_eq_true h1, if_pos h1]; rfl
    · rw [decide_eq_false h1, if_neg h1]
      by_cases h2 : y < x
      · rw [if_pos h2]
        have : (x == y) = false := by
          rw [beq_eq_false_iff_ne]
          rintro rfl
          exact h1 h2
        rw [this]; rfl
      · rw [if_neg h2]
        have : x = y := UInt8.toNat_inj.1 (by rw [ltb] at h1 h2; omega)
        subst this
        simp
theorem lessS_eq (a b : ByteArray) : lessS a b = decide (cmpS a b = -1) := by
  unfold lessS cmpS
  rw [bytesLess_eq, ByteArray.toList_eq, ByteArray.toList_eq]
theorem bD_iff {b : Bool} {p : Prop} [Decidable p] (h : b = true ↔ p) : bD b = bD (decide p) := by
  rw [show b = decide p by rw [Bool.eq_iff_iff, h, decide_eq_true_iff]]
/-- calamus/calamusref04.Less: func 50, params [33, 33], ntmps 104. -/
-- head 0 of loop 0: [t2 .rf 33, t3 .rf 33, t5 .sh (.cell (.sc (.i .i64)))]
def heads_rvless : List Hd := [⟨0, [.any, .any, .rf 33, .rf 33, .any, .sh (.cell (.sc (.i .i64))), .any, .any, .any, .any, .any, .any, .any, .any, .any, .any, .any, .any, .any, .any, .any, .any, .any, .any, .any, .any, .any, .any, .any, .any, .any, .any, .any, .any, .any, .any, .any, .any, .any, .any, .any, .any, .any, .any, .any, .any, .any, .any, .any, .any, .any, .any, .any, .any, .any, .any, .any, .any, .any, .any, .any, .any, .any, .any, .any, .any, .any, .any, .any, .any, .any, .any, .any, .any, .any, .any, .any, .any, .any, .any, .any, .any, .any, .any, .any, .any, .any, .any, .any, .any, .any, .any, .any, .any, .any, .any, .any, .any, .any, .any, .any, .any, .any, .any]⟩]
def entry_rvless : Tree :=
 (.ite (.pr (.icmp .neq) [(.pr (.cell 0) [(.var 0)]), (.pr (.cell 0) [(.var 1)])])
 (.leaf (.ret (.pr (.icmp .lss) [(.pr (.cell 0) [(.var 0)]), (.pr (.cell 0) [(.var 1)])])))
 (.ite (.pr (.icmp .lss) [(.pr (.cell 0) [(.var 0)]), (.lit (.int .i64 7))])
 (.ite (.pr (.icmp .eql) [(.pr (.cell 0) [(.var 0)]), (.lit (.int .i64 2))])
 (.ite (.pr (.cell 1) [(.var 0)])
 (.leaf (.ret (.lit (.bool false))))
 (.leaf (.ret (.pr (.cell 1) [(.var 1)]))))
 (.ite (.pr (.icmp .eql) [(.pr (.cell 0) [(.var 0)]), (.lit (.int .i64 3))])
 (.giv (.app 1000 [(.pr .row [(.pr (.cell 2) [(.var 0)]), (.pr (.cell 3) [(.var 0)]), (.pr (.cell 4) [(.var 0)])]), (.pr .row [(.pr (.cell 2) [(.var 1)]), (.pr (.cell 3) [(.var 1)]), (.pr (.cell 4) [(.var 1)])])])
 (.giv (.app 2039 [(.pr .row [(.pr (.cell 2) [(.var 0)]), (.pr (.cell 3) [(.var 0)]), (.pr (.cell 4) [(.var 0)])]), (.pr .row [(.pr (.cell 2) [(.var 1)]), (.pr (.cell 3) [(.var 1)]), (.pr (.cell 4) [(.var 1)])])])
 (.leaf (.ret (.app 39 [(.pr .row [(.pr (.cell 2) [(.var 0)]), (.pr (.cell 3) [(.var 0)]), (.pr (.cell 4) [(.var 0)])]), (.pr .row [(.pr (.cell 2) [(.var 1)]), (.pr (.cell 3) [(.var 1)]), (.pr (.cell 4) [(.var 1)])])])))))
 (.ite (.pr (.icmp .eql) [(.pr (.cell 0) [(.var 0)]), (.lit (.int .i64 4))])
 (.leaf (.ret (.pr (.icmp .lss) [(.pr (.cell 5) [(.var 0)]), (.pr (.cell 5) [(.var 1)])])))
 (.leaf (.ret (.pr (.scmp .lss) [(.pr (.cell 6) [(.var 0)]), (.pr (.cell 6) [(.var 1)])]))))))
 (.ite (.pr (.icmp .eql) [(.pr (.cell 0) [(.var 0)]), (.lit (.int .i64 9))])
 (.ite (.pr (.scmp .neq) [(.pr (.cell 6) [(.var 0)]), (.pr (.cell 6) [(.var 1)])])
 (.ite (.pr (.icmp .eql) [(.pr (.cell 0) [(.var 0)]), (.lit (.int .i64 2))])
 (.ite (.pr (.cell 1) [(.var 0)])
 (.leaf (.ret (.lit (.bool false))))
 (.leaf (.ret (.pr (.cell 1) [(.var 1)]))))
 (.ite (.pr (.icmp .eql) [(.pr (.cell 0) [(.var 0)]), (.lit (.int .i64 3))])
 (.giv (.app 1000 [(.pr .row [(.pr (.cell 2) [(.var 0)]), (.pr (.cell 3) [(.var 0)]), (.pr (.cell 4) [(.var 0)])]), (.pr .row [(.pr (.cell 2) [(.var 1)]), (.pr (.cell 3) [(.var 1)]), (.pr (.cell 4) [(.var 1)])])])
 (.giv (.app 2039 [(.pr .row [(.pr (.cell 2) [(.var 0)]), (.pr (.cell 3) [(.var 0)]), (.pr (.cell 4) [(.var 0)])]), (.pr .row [(.pr (.cell 2) [(.var 1)]), (.pr (.cell 3) [(.var 1)]), (.pr (.cell 4) [(.var 1)])])])
 (.leaf (.ret (.app 39 [(.pr .row [(.pr (.cell 2) [(.var 0)]), (.pr (.cell 3) [(.var 0)]), (.pr (.cell 4) [(.var 0)])]), (.pr .row [(.pr (.cell 2) [(.var 1)]), (.pr (.cell 3) [(.var 1)]), (.pr (.cell 4) [(.var 1)])])])))))
 (.ite (.pr (.icmp .eql) [(.pr (.cell 0) [(.var 0)]), (.lit (.int .i64 4))])
 (.leaf (.ret (.pr (.icmp .lss) [(.pr (.cell 5) [(.var 0)]), (.pr (.cell 5) [(.var 1)])])))
 (.leaf (.ret (.pr (.scmp .lss) [(.pr (.cell 6) [(.var 0)]), (.pr (.cell 6) [(.var 1)])]))))))
 (.leaf (.go 0 [(.pr .row [(.pr (.cell 0) [(.var 0)]), (.pr (.cell 1) [(.var 0)]), (.pr (.cell 2) [(.var 0)]), (.pr (.cell 3) [(.var 0)]), (.pr (.cell 4) [(.var 0)]), (.pr (.cell 5) [(.var 0)]), (.pr (.cell 6) [(.var 0)]), (.pr (.cell 7) [(.var 0)]), (.pr (.cell 8) [(.var 0)])]), (.pr .row [(.pr (.cell 0) [(.var 1)]), (.pr (.cell 1) [(.var 1)]), (.pr (.cell 2) [(.var 1)]), (.pr (.cell 3) [(.var 1)]), (.pr (.cell 4) [(.var 1)]), (.pr (.cell 5) [(.var 1)]), (.pr (.cell 6) [(.var 1)]), (.pr (.cell 7) [(.var 1)]), (.pr (.cell 8) [(.var 1)])]), (.lit (.int .i64 0))])))
 (.leaf (.go 0 [(.pr .row [(.pr (.cell 0) [(.var 0)]), (.pr (.cell 1) [(.var 0)]), (.pr (.cell 2) [(.var 0)]), (.pr (.cell 3) [(.var 0)]), (.pr (.cell 4) [(.var 0)]), (.pr (.cell 5) [(.var 0)]), (.pr (.cell 6) [(.var 0)]), (.pr (.cell 7) [(.var 0)]), (.pr (.cell 8) [(.var 0)])]), (.pr .row [(.pr (.cell 0) [(.var 1)]), (.pr (.cell 1) [(.var 1)]), (.pr (.cell 2) [(.var 1)]), (.pr (.cell 3) [(.var 1)]), (.pr (.cell 4) [(.var 1)]), (.pr (.cell 5) [(.var 1)]), (.pr (.cell 6) [(.var 1)]), (.pr (.cell 7) [(.var 1)]), (.pr (.cell 8) [(.var 1)])]), (.lit (.int .i64 0))])))))
def head_rvless_0 : Tree :=
 (.ite (.pr (.icmp .lss) [(.var 2), (.pr .len [(.pr (.cell 8) [(.var 0)])])])
 (.ite (.pr (.icmp .lss) [(.var 2), (.pr .len [(.pr (.cell 8) [(.var 1)])])])
 (.ite (.pr (.icmp .eql) [(.pr (.cell 0) [(.var 0)]), (.lit (.int .i64 8))])
 (.giv (.pr (.icmp .leq) [(.lit (.int .i64 0)), (.var 2)])
 (.giv (.pr (.icmp .lss) [(.var 2), (.pr .len [(.pr (.cell 7) [(.var 0)])])])
 (.giv (.pr (.icmp .lss) [(.var 2), (.pr .len [(.pr (.cell 7) [(.var 1)])])])
 (.ite (.pr (.scmp .neq) [(.pr (.cell 0) [(.pr .at [(.pr (.cell 7) [(.var 0)]), (.var 2)])]), (.pr (.cell 0) [(.pr .at [(.pr (.cell 7) [(.var 1)]), (.var 2)])])])
 (.leaf (.ret (.pr (.scmp .lss) [(.pr (.cell 0) [(.pr .at [(.pr (.cell 7) [(.var 0)]), (.var 2)])]), (.pr (.cell 0) [(.pr .at [(.pr (.cell 7) [(.var 1)]), (.var 2)])])])))
 (.giv (.app 1000 [(.pr .row [(.pr (.cell 0) [(.pr .at [(.pr (.cell 8) [(.var 0)]), (.var 2)])]), (.pr (.cell 1) [(.pr .at [(.pr (.cell 8) [(.var 0)]), (.var 2)])]), (.pr (.cell 2) [(.pr .at [(.pr (.cell 8) [(.var 0)]), (.var 2)])]), (.pr (.cell 3) [(.pr .at [(.pr (.cell 8) [(.var 0)]), (.var 2)])]), (.pr (.cell 4) [(.pr .at [(.pr (.cell 8) [(.var 0)]), (.var 2)])]), (.pr (.cell 5) [(.pr .at [(.pr (.cell 8) [(.var 0)]), (.var 2)])]), (.pr (.cell 6) [(.pr .at [(.pr (.cell 8) [(.var 0)]), (.var 2)])]), (.pr (.cell 7) [(.pr .at [(.pr (.cell 8) [(.var 0)]), (.var 2)])]), (.pr (.cell 8) [(.pr .at [(.pr (.cell 8) [(.var 0)]), (.var 2)])])]), (.pr .row [(.pr (.cell 0) [(.pr .at [(.pr (.cell 8) [(.var 1)]), (.var 2)])]), (.pr (.cell 1) [(.pr .at [(.pr (.cell 8) [(.var 1)]), (.var 2)])]), (.pr (.cell 2) [(.pr .at [(.pr (.cell 8) [(.var 1)]), (.var 2)])]), (.pr (.cell 3) [(.pr .at [(.pr (.cell 8) [(.var 1)]), (.var 2)])]), (.pr (.cell 4) [(.pr .at [(.pr (.cell 8) [(.var 1)]), (.var 2)])]), (.pr (.cell 5) [(.pr .at [(.pr (.cell 8) [(.var 1)]), (.var 2)])]), (.pr (.cell 6) [(.pr .at [(.pr (.cell 8) [(.var 1)]), (.var 2)])]), (.pr (.cell 7) [(.pr .at [(.pr (.cell 8) [(.var 1)]), (.var 2)])]), (.pr (.cell 8) [(.pr .at [(.pr (.cell 8) [(.var 1)]), (.var 2)])])])])
 (.giv (.app 2049 [(.pr .row [(.pr (.cell 0) [(.pr .at [(.pr (.cell 8) [(.var 0)]), (.var 2)])]), (.pr (.cell 1) [(.pr .at [(.pr (.cell 8) [(.var 0)]), (.var 2)])]), (.pr (.cell 2) [(.pr .at [(.pr (.cell 8) [(.var 0)]), (.var 2)])]), (.pr (.cell 3) [(.pr .at [(.pr (.cell 8) [(.var 0)]), (.var 2)])]), (.pr (.cell 4) [(.pr .at [(.pr (.cell 8) [(.var 0)]), (.var 2)])]), (.pr (.cell 5) [(.pr .at [(.pr (.cell 8) [(.var 0)]), (.var 2)])]), (.pr (.cell 6) [(.pr .at [(.pr (.cell 8) [(.var 0)]), (.var 2)])]), (.pr (.cell 7) [(.pr .at [(.pr (.cell 8) [(.var 0)]), (.var 2)])]), (.pr (.cell 8) [(.pr .at [(.pr (.cell 8) [(.var 0)]), (.var 2)])])]), (.pr .row [(.pr (.cell 0) [(.pr .at [(.pr (.cell 8) [(.var 1)]), (.var 2)])]), (.pr (.cell 1) [(.pr .at [(.pr (.cell 8) [(.var 1)]), (.var 2)])]), (.pr (.cell 2) [(.pr .at [(.pr (.cell 8) [(.var 1)]), (.var 2)])]), (.pr (.cell 3) [(.pr .at [(.pr (.cell 8) [(.var 1)]), (.var 2)])]), (.pr (.cell 4) [(.pr .at [(.pr (.cell 8) [(.var 1)]), (.var 2)])]), (.pr (.cell 5) [(.pr .at [(.pr (.cell 8) [(.var 1)]), (.var 2)])]), (.pr (.cell 6) [(.pr .at [(.pr (.cell 8) [(.var 1)]), (.var 2)])]), (.pr (.cell 7) [(.pr .at [(.pr (.cell 8) [(.var 1)]), (.var 2)])]), (.pr (.cell 8) [(.pr .at [(.pr (.cell 8) [(.var 1)]), (.var 2)])])])])
 (.ite (.app 49 [(.pr .row [(.pr (.cell 0) [(.pr .at [(.pr (.cell 8) [(.var 0)]), (.var 2)])]), (.pr (.cell 1) [(.pr .at [(.pr (.cell 8) [(.var 0)]), (.var 2)])]), (.pr (.cell 2) [(.pr .at [(.pr (.cell 8) [(.var 0)]), (.var 2)])]), (.pr (.cell 3) [(.pr .at [(.pr (.cell 8) [(.var 0)]), (.var 2)])]), (.pr (.cell 4) [(.pr .at [(.pr (.cell 8) [(.var 0)]), (.var 2)])]), (.pr (.cell 5) [(.pr .at [(.pr (.cell 8) [(.var 0)]), (.var 2)])]), (.pr (.cell 6) [(.pr .at [(.pr (.cell 8) [(.var 0)]), (.var 2)])]), (.pr (.cell 7) [(.pr .at [(.pr (.cell 8) [(.var 0)]), (.var 2)])]), (.pr (.cell 8) [(.pr .at [(.pr (.cell 8) [(.var 0)]), (.var 2)])])]), (.pr .row [(.pr (.cell 0) [(.pr .at [(.pr (.cell 8) [(.var 1)]), (.var 2)])]), (.pr (.cell 1) [(.pr .at [(.pr (.cell 8) [(.var 1)]), (.var 2)])]), (.pr (.cell 2) [(.pr .at [(.pr (.cell 8) [(.var 1)]), (.var 2)])]), (.pr (.cell 3) [(.pr .at [(.pr (.cell 8) [(.var 1)]), (.var 2)])]), (.pr (.cell 4) [(.pr .at [(.pr (.cell 8) [(.var 1)]), (.var 2)])]), (.pr (.cell 5) [(.pr .at [(.pr (.cell 8) [(.var 1)]), (.var 2)])]), (.pr (.cell 6) [(.pr .at [(.pr (.cell 8) [(.var 1)]), (.var 2)])]), (.pr (.cell 7) [(.pr .at [(.pr (.cell 8) [(.var 1)]), (.var 2)])]), (.pr (.cell 8) [(.pr .at [(.pr (.cell 8) [(.var 1)]), (.var 2)])])])])
 (.leaf (.ret (.lit (.bool true))))
 (.giv (.app 1000 [(.pr .row [(.pr (.cell 0) [(.pr .at [(.pr (.cell 8) [(.var 1)]), (.var 2)])]), (.pr (.cell 1) [(.pr .at [(.pr (.cell 8) [(.var 1)]), (.var 2)])]), (.pr (.cell 2) [(.pr .at [(.pr (.cell 8) [(.var 1)]), (.var 2)])]), (.pr (.cell 3) [(.pr .at [(.pr (.cell 8) [(.var 1)]), (.var 2)])]), (.pr (.cell 4) [(.pr .at [(.pr (.cell 8) [(.var 1)]), (.var 2)])]), (.pr (.cell 5) [(.pr .at [(.pr (.cell 8) [(.var 1)]), (.var 2)])]), (.pr (.cell 6) [(.pr .at [(.pr (.cell 8) [(.var 1)]), (.var 2)])]), (.pr (.cell 7) [(.pr .at [(.pr (.cell 8) [(.var 1)]), (.var 2)])]), (.pr (.cell 8) [(.pr .at [(.pr (.cell 8) [(.var 1)]), (.var 2)])])]), (.pr .row [(.pr (.cell 0) [(.pr .at [(.pr (.cell 8) [(.var 0)]), (.var 2)])]), (.pr (.cell 1) [(.pr .at [(.pr (.cell 8) [(.var 0)]), (.var 2)])]), (.pr (.cell 2) [(.pr .at [(.pr (.cell 8) [(.var 0)]), (.var 2)])]), (.pr (.cell 3) [(.pr .at [(.pr (.cell 8) [(.var 0)]), (.var 2)])]), (.pr (.cell 4) [(.pr .at [(.pr (.cell 8) [(.var 0)]), (.var 2)])]), (.pr (.cell 5) [(.pr .at [(.pr (.cell 8) [(.var 0)]), (.var 2)])]), (.pr (.cell 6) [(.pr .at [(.pr (.cell 8) [(.var 0)]), (.var 2)])]), (.pr (.cell 7) [(.pr .at [(.pr (.cell 8) [(.var 0)]), (.var 2)])]), (.pr (.cell 8) [(.pr .at [(.pr (.cell 8) [(.var 0)]), (.var 2)])])])])
 (.giv (.app 2049 [(.pr .row [(.pr (.cell 0) [(.pr .at [(.pr (.cell 8) [(.var 1)]), (.var 2)])]), (.pr (.cell 1) [(.pr .at [(.pr (.cell 8) [(.var 1)]), (.var 2)])]), (.pr (.cell 2) [(.pr .at [(.pr (.cell 8) [(.var 1)]), (.var 2)])]), (.pr (.cell 3) [(.pr .at [(.pr (.cell 8) [(.var 1)]), (.var 2)])]), (.pr (.cell 4) [(.pr .at [(.pr (.cell 8) [(.var 1)]), (.var 2)])]), (.pr (.cell 5) [(.pr .at [(.pr (.cell 8) [(.var 1)]), (.var 2)])]), (.pr (.cell 6) [(.pr .at [(.pr (.cell 8) [(.var 1)]), (.var 2)])]), (.pr (.cell 7) [(.pr .at [(.pr (.cell 8) [(.var 1)]), (.var 2)])]), (.pr (.cell 8) [(.pr .at [(.pr (.cell 8) [(.var 1)]), (.var 2)])])]), (.pr .row [(.pr (.cell 0) [(.pr .at [(.pr (.cell 8) [(.var 0)]), (.var 2)])]), (.pr (.cell 1) [(.pr .at [(.pr (.cell 8) [(.var 0)]), (.var 2)])]), (.pr (.cell 2) [(.pr .at [(.pr (.cell 8) [(.var 0)]), (.var 2)])]), (.pr (.cell 3) [(.pr .at [(.pr (.cell 8) [(.var 0)]), (.var 2)])]), (.pr (.cell 4) [(.pr .at [(.pr (.cell 8) [(.var 0)]), (.var 2)])]), (.pr (.cell 5) [(.pr .at [(.pr (.cell 8) [(.var 0)]), (.var 2)])]), (.pr (.cell 6) [(.pr .at [(.pr (.cell 8) [(.var 0)]), (.var 2)])]), (.pr (.cell 7) [(.pr .at [(.pr (.cell 8) [(.var 0)]), (.var 2)])]), (.pr (.cell 8) [(.pr .at [(.pr (.cell 8) [(.var 0)]), (.var 2)])])])])
 (.ite (.app 49 [(.pr .row [(.pr (.cell 0) [(.pr .at [(.pr (.cell 8) [(.var 1)]), (.var 2)])]), (.pr (.cell 1) [(.pr .at [(.pr (.cell 8) [(.var 1)]), (.var 2)])]), (.pr (.cell 2) [(.pr .at [(.pr (.cell 8) [(.var 1)]), (.var 2)])]), (.pr (.cell 3) [(.pr .at [(.pr (.cell 8) [(.var 1)]), (.var 2)])]), (.pr (.cell 4) [(.pr .at [(.pr (.cell 8) [(.var 1)]), (.var 2)])]), (.pr (.cell 5) [(.pr .at [(.pr (.cell 8) [(.var 1)]), (.var 2)])]), (.pr (.cell 6) [(.pr .at [(.pr (.cell 8) [(.var 1)]), (.var 2)])]), (.pr (.cell 7) [(.pr .at [(.pr (.cell 8) [(.var 1)]), (.var 2)])]), (.pr (.cell 8) [(.pr .at [(.pr (.cell 8) [(.var 1)]), (.var 2)])])]), (.pr .row [(.pr (.cell 0) [(.pr .at [(.pr (.cell 8) [(.var 0)]), (.var 2)])]), (.pr (.cell 1) [(.pr .at [(.pr (.cell 8) [(.var 0)]), (.var 2)])]), (.pr (.cell 2) [(.pr .at [(.pr (.cell 8) [(.var 0)]), (.var 2)])]), (.pr (.cell 3) [(.pr .at [(.pr (.cell 8) [(.var 0)]), (.var 2)])]), (.pr (.cell 4) [(.pr .at [(.pr (.cell 8) [(.var 0)]), (.var 2)])]), (.pr (.cell 5) [(.pr .at [(.pr (.cell 8) [(.var 0)]), (.var 2)])]), (.pr (.cell 6) [(.pr .at [(.pr (.cell 8) [(.var 0)]), (.var 2)])]), (.pr (.cell 7) [(.pr .at [(.pr (.cell 8) [(.var 0)]), (.var 2)])]), (.pr (.cell 8) [(.pr .at [(.pr (.cell 8) [(.var 0)]), (.var 2)])])])])
 (.leaf (.ret (.lit (.bool false))))
 (.leaf (.go 0 [(.var 0), (.var 1), (.pr (.iop .add .i64) [(.var 2), (.lit (.int .i64 1))])]))))))))))))
 (.giv (.pr (.icmp .leq) [(.lit (.int .i64 0)), (.var 2)])
 (.giv (.app 1000 [(.pr .row [(.pr (.cell 0) [(.pr .at [(.pr (.cell 8) [(.var 0)]), (.var 2)])]), (.pr (.cell 1) [(.pr .at [(.pr (.cell 8) [(.var 0)]), (.var 2)])]), (.pr (.cell 2) [(.pr .at [(.pr (.cell 8) [(.var 0)]), (.var 2)])]), (.pr (.cell 3) [(.pr .at [(.pr (.cell 8) [(.var 0)]), (.var 2)])]), (.pr (.cell 4) [(.pr .at [(.pr (.cell 8) [(.var 0)]), (.var 2)])]), (.pr (.cell 5) [(.pr .at [(.pr (.cell 8) [(.var 0)]), (.var 2)])]), (.pr (.cell 6) [(.pr .at [(.pr (.cell 8) [(.var 0)]), (.var 2)])]), (.pr (.cell 7) [(.pr .at [(.pr (.cell 8) [(.var 0)]), (.var 2)])]), (.pr (.cell 8) [(.pr .at [(.pr (.cell 8) [(.var 0)]), (.var 2)])])]), (.pr .row [(.pr (.cell 0) [(.pr .at [(.pr (.cell 8) [(.var 1)]), (.var 2)])]), (.pr (.cell 1) [(.pr .at [(.pr (.cell 8) [(.var 1)]), (.var 2)])]), (.pr (.cell 2) [(.pr .at [(.pr (.cell 8) [(.var 1)]), (.var 2)])]), (.pr (.cell 3) [(.pr .at [(.pr (.cell 8) [(.var 1)]), (.var 2)])]), (.pr (.cell 4) [(.pr .at [(.pr (.cell 8) [(.var 1)]), (.var 2)])]), (.pr (.cell 5) [(.pr .at [(.pr (.cell 8) [(.var 1)]), (.var 2)])]), (.pr (.cell 6) [(.pr .at [(.pr (.cell 8) [(.var 1)]), (.var 2)])]), (.pr (.cell 7) [(.pr .at [(.pr (.cell 8) [(.var 1)]), (.var 2)])]), (.pr (.cell 8) [(.pr .at [(.pr (.cell 8) [(.var 1)]), (.var 2)])])])])
 (.giv (.app 2049 [(.pr .row [(.pr (.cell 0) [(.pr .at [(.pr (.cell 8) [(.var 0)]), (.var 2)])]), (.pr (.cell 1) [(.pr .at [(.pr (.cell 8) [(.var 0)]), (.var 2)])]), (.pr (.cell 2) [(.pr .at [(.pr (.cell 8) [(.var 0)]), (.var 2)])]), (.pr (.cell 3) [(.pr .at [(.pr (.cell 8) [(.var 0)]), (.var 2)])]), (.pr (.cell 4) [(.pr .at [(.pr (.cell 8) [(.var 0)]), (.var 2)])]), (.pr (.cell 5) [(.pr .at [(.pr (.cell 8) [(.var 0)]), (.var 2)])]), (.pr (.cell 6) [(.pr .at [(.pr (.cell 8) [(.var 0)]), (.var 2)])]), (.pr (.cell 7) [(.pr .at [(.pr (.cell 8) [(.var 0)]), (.var 2)])]), (.pr (.cell 8) [(.pr .at [(.pr (.cell 8) [(.var 0)]), (.var 2)])])]), (.pr .row [(.pr (.cell 0) [(.pr .at [(.pr (.cell 8) [(.var 1)]), (.var 2)])]), (.pr (.cell 1) [(.pr .at [(.pr (.cell 8) [(.var 1)]), (.var 2)])]), (.pr (.cell 2) [(.pr .at [(.pr (.cell 8) [(.var 1)]), (.var 2)])]), (.pr (.cell 3) [(.pr .at [(.pr (.cell 8) [(.var 1)]), (.var 2)])]), (.pr (.cell 4) [(.pr .at [(.pr (.cell 8) [(.var 1)]), (.var 2)])]), (.pr (.cell 5) [(.pr .at [(.pr (.cell 8) [(.var 1)]), (.var 2)])]), (.pr (.cell 6) [(.pr .at [(.pr (.cell 8) [(.var 1)]), (.var 2)])]), (.pr (.cell 7) [(.pr .at [(.pr (.cell 8) [(.var 1)]), (.var 2)])]), (.pr (.cell 8) [(.pr .at [(.pr (.cell 8) [(.var 1)]), (.var 2)])])])])
 (.ite (.app 49 [(.pr .row [(.pr (.cell 0) [(.pr .at [(.pr (.cell 8) [(.var 0)]), (.var 2)])]), (.pr (.cell 1) [(.pr .at [(.pr (.cell 8) [(.var 0)]), (.var 2)])]), (.pr (.cell 2) [(.pr .at [(.pr (.cell 8) [(.var 0)]), (.var 2)])]), (.pr (.cell 3) [(.pr .at [(.pr (.cell 8) [(.var 0)]), (.var 2)])]), (.pr (.cell 4) [(.pr .at [(.pr (.cell 8) [(.var 0)]), (.var 2)])]), (.pr (.cell 5) [(.pr .at [(.pr (.cell 8) [(.var 0)]), (.var 2)])]), (.pr (.cell 6) [(.pr .at [(.pr (.cell 8) [(.var 0)]), (.var 2)])]), (.pr (.cell 7) [(.pr .at [(.pr (.cell 8) [(.var 0)]), (.var 2)])]), (.pr (.cell 8) [(.pr .at [(.pr (.cell 8) [(.var 0)]), (.var 2)])])]), (.pr .row [(.pr (.cell 0) [(.pr .at [(.pr (.cell 8) [(.var 1)]), (.var 2)])]), (.pr (.cell 1) [(.pr .at [(.pr (.cell 8) [(.var 1)]), (.var 2)])]), (.pr (.cell 2) [(.pr .at [(.pr (.cell 8) [(.var 1)]), (.var 2)])]), (.pr (.cell 3) [(.pr .at [(.pr (.cell 8) [(.var 1)]), (.var 2)])]), (.pr (.cell 4) [(.pr .at [(.pr (.cell 8) [(.var 1)]), (.var 2)])]), (.pr (.cell 5) [(.pr .at [(.pr (.cell 8) [(.var 1)]), (.var 2)])]), (.pr (.cell 6) [(.pr .at [(.pr (.cell 8) [(.var 1)]), (.var 2)])]), (.pr (.cell 7) [(.pr .at [(.pr (.cell 8) [(.var 1)]), (.var 2)])]), (.pr (.cell 8) [(.pr .at [(.pr (.cell 8) [(.var 1)]), (.var 2)])])])])
 (.leaf (.ret (.lit (.bool true))))
 (.giv (.app 1000 [(.pr .row [(.pr (.cell 0) [(.pr .at [(.pr (.cell 8) [(.var 1)]), (.var 2)])]), (.pr (.cell 1) [(.pr .at [(.pr (.cell 8) [(.var 1)]), (.var 2)])]), (.pr (.cell 2) [(.pr .at [(.pr (.cell 8) [(.var 1)]), (.var 2)])]), (.pr (.cell 3) [(.pr .at [(.pr (.cell 8) [(.var 1)]), (.var 2)])]), (.pr (.cell 4) [(.pr .at [(.pr (.cell 8) [(.var 1)]), (.var 2)])]), (.pr (.cell 5) [(.pr .at [(.pr (.cell 8) [(.var 1)]), (.var 2)])]), (.pr (.cell 6) [(.pr .at [(.pr (.cell 8) [(.var 1)]), (.var 2)])]), (.pr (.cell 7) [(.pr .at [(.pr (.cell 8) [(.var 1)]), (.var 2)])]), (.pr (.cell 8) [(.pr .at [(.pr (.cell 8) [(.var 1)]), (.var 2)])])]), (.pr .row [(.pr (.cell 0) [(.pr .at [(.pr (.cell 8) [(.var 0)]), (.var 2)])]), (.pr (.cell 1) [(.pr .at [(.pr (.cell 8) [(.var 0)]), (.var 2)])]), (.pr (.cell 2) [(.pr .at [(.pr (.cell 8) [(.var 0)]), (.var 2)])]), (.pr (.cell 3) [(.pr .at [(.pr (.cell 8) [(.var 0)]), (.var 2)])]), (.pr (.cell 4) [(.pr .at [(.pr (.cell 8) [(.var 0)]), (.var 2)])]), (.pr (.cell 5) [(.pr .at [(.pr (.cell 8) [(.var 0)]), (.var 2)])]), (.pr (.cell 6) [(.pr .at [(.pr (.cell 8) [(.var 0)]), (.var 2)])]), (.pr (.cell 7) [(.pr .at [(.pr (.cell 8) [(.var 0)]), (.var 2)])]), (.pr (.cell 8) [(.pr .at [(.pr (.cell 8) [(.var 0)]), (.var 2)])])])])
 (.giv (.app 2049 [(.pr .row [(.pr (.cell 0) [(.pr .at [(.pr (.cell 8) [(.var 1)]), (.var 2)])]), (.pr (.cell 1) [(.pr .at [(.pr (.cell 8) [(.var 1)]), (.var 2)])]), (.pr (.cell 2) [(.pr .at [(.pr (.cell 8) [(.var 1)]), (.var 2)])]), (.pr (.cell 3) [(.pr .at [(.pr (.cell 8) [(.var 1)]), (.var 2)])]), (.pr (.cell 4) [(.pr .at [(.pr (.cell 8) [(.var 1)]), (.var 2)])]), (.pr (.cell 5) [(.pr .at [(.pr (.cell 8) [(.var 1)]), (.var 2)])]), (.pr (.cell 6) [(.pr .at [(.pr (.cell 8) [(.var 1)]), (.var 2)])]), (.pr (.cell 7) [(.pr .at [(.pr (.cell 8) [(.var 1)]), (.var 2)])]), (.pr (.cell 8) [(.pr .at [(.pr (.cell 8) [(.var 1)]), (.var 2)])])]), (.pr .row [(.pr (.cell 0) [(.pr .at [(.pr (.cell 8) [(.var 0)]), (.var 2)])]), (.pr (.cell 1) [(.pr .at [(.pr (.cell 8) [(.var 0)]), (.var 2)])]), (.pr (.cell 2) [(.pr .at [(.pr (.cell 8) [(.var 0)]), (.var 2)])]), (.pr (.cell 3) [(.pr .at [(.pr (.cell 8) [(.var 0)]), (.var 2)])]), (.pr (.cell 4) [(.pr .at [(.pr (.cell 8) [(.var 0)]), (.var 2)])]), (.pr (.cell 5) [(.pr .at [(.pr (.cell 8) [(.var 0)]), (.var 2)])]), (.pr (.cell 6) [(.pr .at [(.pr (.cell 8) [(.var 0)]), (.var 2)])]), (.pr (.cell 7) [(.pr .at [(.pr (.cell 8) [(.var 0)]), (.var 2)])]), (.pr (.cell 8) [(.pr .at [(.pr (.cell 8) [(.var 0)]), (.var 2)])])])])
 (.ite (.app 49 [(.pr .row [(.pr (.cell 0) [(.pr .at [(.pr (.cell 8) [(.var 1)]), (.var 2)])]), (.pr (.cell 1) [(.pr .at [(.pr (.cell 8) [(.var 1)]), (.var 2)])]), (.pr (.cell 2) [(.pr .at [(.pr (.cell 8) [(.var 1)]), (.var 2)])]), (.pr (.cell 3) [(.pr .at [(.pr (.cell 8) [(.var 1)]), (.var 2)])]), (.pr (.cell 4) [(.pr .at [(.pr (.cell 8) [(.var 1)]), (.var 2)])]), (.pr (.cell 5) [(.pr .at [(.pr (.cell 8) [(.var 1)]), (.var 2)])]), (.pr (.cell 6) [(.pr .at [(.pr (.cell 8) [(.var 1)]), (.var 2)])]), (.pr (.cell 7) [(.pr .at [(.pr (.cell 8) [(.var 1)]), (.var 2)])]), (.pr (.cell 8) [(.pr .at [(.pr (.cell 8) [(.var 1)]), (.var 2)])])]), (.pr .row [(.pr (.cell 0) [(.pr .at [(.pr (.cell 8) [(.var 0)]), (.var 2)])]), (.pr (.cell 1) [(.pr .at [(.pr (.cell 8) [(.var 0)]), (.var 2)])]), (.pr (.cell 2) [(.pr .at [(.pr (.cell 8) [(.var 0)]), (.var 2)])]), (.pr (.cell 3) [(.pr .at [(.pr (.cell 8) [(.var 0)]), (.var 2)])]), (.pr (.cell 4) [(.pr .at [(.pr (.cell 8) [(.var 0)]), (.var 2)])]), (.pr (.cell 5) [(.pr .at [(.pr (.cell 8) [(.var 0)]), (.var 2)])]), (.pr (.cell 6) [(.pr .at [(.pr (.cell 8) [(.var 0)]), (.var 2)])]), (.pr (.cell 7) [(.pr .at [(.pr (.cell 8) [(.var 0)]), (.var 2)])]), (.pr (.cell 8) [(.pr .at [(.pr (.cell 8) [(.var 0)]), (.var 2)])])])])
 (.leaf (.ret (.lit (.bool false))))
 (.leaf (.go 0 [(.var 0), (.var 1), (.pr (.iop .add .i64) [(.var 2), (.lit (.int .i64 1))])]))))))))))
 (.leaf (.ret (.pr (.icmp .lss) [(.pr .len [(.pr (.cell 8) [(.var 0)])]), (.pr .len [(.pr (.cell 8) [(.var 1)])])]))))
 (.leaf (.ret (.pr (.icmp .lss) [(.pr .len [(.pr (.cell 8) [(.var 0)])]), (.pr .len [(.pr (.cell 8) [(.var 1)])])]))))
def trees_rvless : List Tree := [head_rvless_0]
noncomputable def deps_rvless : List Sig := [q_rvless, q_rnumless]
theorem ok_rvless : check q_rvless deps_rvless heads_rvless entry_rvless trees_rvless = true := by kernel_rfl
theorem rvless_step (n : Nat) (ih : @Ok (I n) q_rvless (@okS (I n) n q_rvless.g)) : @Ok (I n) q_rvless (@okS (I n) (n + 1) q_rvless.g) := by
  letI := I n
  refine fn_okS (hphi n) ok_rvless (by
    intro q hq
    simp only [deps_rvless, List.mem_cons, List.not_mem_nil, or_false] at hq
    rcases hq with rfl | rfl
    · exact ih
    · exact rnumless_ok n)
    (fun _ d ds => ∃ (a b : Val) (i : Nat), ds = [a.toD, b.toD, iD i] ∧ good a = true ∧ good b = true ∧ a.kind = b.kind ∧ i ≤ a.list.length ∧ i ≤ b.list.length ∧ a.list.length ≤ lim ∧
      (∀ x y, x ∈ a.list → y ∈ b.list → okD n [x.toD, y.toD]) ∧ (∀ x y, x ∈ a.list → y ∈ b.list → okD n [y.toD, x.toD]) ∧ d = bD (decide (orderV a b = -1)) ∧
      orderV a b = if a.kind = 8 then rowsG (pairC orderV) ((a.names.zip a.list).drop i) ((b.names.zip b.list).drop i) else rowsG orderV (a.list.drop i) (b.list.drop i))
    (fun _ ds => (ds.getD 0 .nil).val1.list.length - (ds.getD 2 .nil).int.toNat) ?_ ?_
  · intro ds hf hp
    obtain ⟨a, b, rfl⟩ := two_val hf
    obtain ⟨g1, g2⟩ := (pre_rvless n a b).1 (hp.2 rfl)
    obtain ⟨h1, h2, h3⟩ := okD_two.1 hp.1
    obtain ⟨l1, l2, l3, l4⟩ := (lim_toD a).1 h2
    obtain ⟨m1, m2, m3, m4⟩ := (lim_toD b).1 h3
    have e1 := sz_toD a
    have e2 := sz_toD b
    have o1 : okD n [.row [bD a.neg, sD a.dig, iD a.exp], .row [bD b.neg, sD b.dig, iD b.exp]] := okD_two.2 ⟨by simp only [D.sz, D.szL]; have := D.sz_pos (strsD a.names); have := D.sz_pos (valsD a.list); have := D.sz_pos (strsD b.names); have := D.sz_pos (valsD b.list); omega, by simp only [D.Lim, D.LimL, and_true, true_and]; exact l1, by simp only [D.Lim, D.LimL, and_true, true_and]; exact m1⟩
    have hs : ∀ x y, x ∈ a.list → y ∈ b.list → okD n [x.toD, y.toD] := fun x y hx hy => okD_two.2 ⟨by
      have := sz_vals_mem hx
      have := sz_vals_mem hy
      omega, (lim_vals.1 l4).2 x hx, (lim_vals.1 m4).2 y hy⟩
    have hs' : ∀ x y, x ∈ a.list → y ∈ b.list → okD n [y.toD, x.toD] := fun x y hx hy => okD_two.2 ⟨by
      have := (okD_two.1 (hs x y hx hy)).1
      omega, (lim_vals.1 m4).2 y hy, (lim_vals.1 l4).2 x hx⟩
    have fa := formed_parts (good_iff.1 g1).1
    have fb := formed_parts (good_iff.1 g2).1
    have pa := formed_plain (good_iff.1 g1).1
    have hkd := fun (k : Int) => orderV_eq a b
    have hne : a.kind ≠ b.kind → (orderV a b = -1 ↔ a.kind < b.kind) := fun h => by
      rw [orderV_eq]
      by_cases c : a.kind < b.kind
      · rw [if_pos c]; exact ⟨fun _ => c, fun _ => rfl⟩
      · rw [if_neg c, if_pos (by omega)]; exact ⟨fun h => by omega, fun h => absurd h c⟩
    have hgen : ∀ j : Int, a.kind = b.kind → a.kind = j → orderV a b = if j = 2 then (if a.flag = b.flag then 0 else if b.flag then -1 else 1)
        else if j = 3 then (numcmpV a.neg a.dig a.exp b.neg b.dig b.exp).1
        else if j = 4 then cmpZ a.bits b.bits
        else if j = 5 then cmpS a.text b.text
        else if j = 6 then cmpS a.text b.text
        else if j = 8 then rowsG (pairC orderV) (a.names.zip a.list) (b.names.zip b.list)
        else if j = 9 then (if cmpS a.text b.text = 0 then rowsG orderV a.list b.list else cmpS a.text b.text)
        else rowsG orderV a.list b.list := fun j h hj => by
      subst hj
      rw [orderV_eq, if_neg (by omega), if_neg (by omega)]
    have hgo : a.kind = b.kind → ¬ a.kind < 7 → (a.kind = 9 → a.text = b.text) → ∃ (a' b' : Val) (i : Nat), [a.toD, b.toD, iD 0] = [a'.toD, b'.toD, iD i] ∧ good a' = true ∧ good b' = true ∧ a'.kind = b'.kind ∧ i ≤ a'.list.length ∧ i ≤ b'.list.length ∧ a'.list.length ≤ lim ∧
      (∀ x y, x ∈ a'.list → y ∈ b'.list → okD n [x.toD, y.toD]) ∧ (∀ x y, x ∈ a'.list → y ∈ b'.list → okD n [y.toD, x.toD]) ∧ bD (decide (orderV a b = -1)) = bD (decide (orderV a' b' = -1)) ∧
      orderV a' b' = if a'.kind = 8 then rowsG (pairC orderV) ((a'.names.zip a'.list).drop i) ((b'.names.zip b'.list).drop i) else rowsG orderV (a'.list.drop i) (b'.list.drop i) := fun hk h7 h9 => by
      refine ⟨a, b, 0, rfl, g1, g2, hk, Nat.zero_le _, Nat.zero_le _, (lim_vals.1 l4).1, hs, hs', rfl, ?_⟩
      rw [hgen _ hk rfl, if_neg (by omega), if_neg (by omega), if_neg (by omega), if_neg (by omega), if_neg (by omega)]
      simp only [List.drop_zero]
      by_cases c8 : a.kind = 8
      · rw [if_pos c8, if_pos c8]
      rw [if_neg c8, if_neg c8]
      by_cases c9 : a.kind = 9
      · rw [if_pos c9, if_pos (by rw [h9 c9]; exact cmpS_self _)]
      · rw [if_neg c9]
    simp only [entry_rvless, q_rvless, Tree.holds, Out.den, E.den, E.denL, den1, den2, den3, den4, den5, den6, den7, den8, Bool.not_eq_true', Bool.not_eq_false', List.getD_cons_zero, List.getD_cons_succ, true_and, and_true, List.length_map, phi_1000, phi_rnumless, phi_rvless, pre_rnumless, o1]
    refine ⟨fun hk => ?_, fun hk => ⟨fun h7 => ⟨fun h2 => ⟨fun hf => ?_, fun hf => ?_⟩, fun h2 => ⟨fun h3 => ⟨⟨fa.2.2 h3, fb.2.2 (by omega)⟩, ?_⟩, fun h3 => ⟨fun h4 => ?_, fun h4 => ?_⟩⟩⟩, fun h7 => ⟨fun h9 => ⟨fun ht => ⟨fun h2 => by omega, fun h2 => ⟨fun h3 => by omega, fun h3 => ⟨fun h4 => by omega, fun h4 => ?_⟩⟩⟩, fun ht => ?_⟩, fun h9 => ?_⟩⟩⟩
    · exact bD_iff (by rw [ltI_t, hne hk])
    · rw [hgen 2 hk h2]
      refine bD_iff ⟨fun h => (by cases h), fun h => ?_⟩
      rw [if_pos rfl, hf] at h
      split at h
      · omega
      · rename_i hx
        cases hb : b.flag with
        | true => rw [hb] at hx; exact absurd rfl hx
        | false => rw [hb] at h; exact absurd h (by decide)
    · rw [hgen 2 hk h2]
      refine bD_iff ⟨fun h => ?_, fun h => ?_⟩
      · rw [if_pos rfl, hf, h]; rfl
      · rw [if_pos rfl, hf] at h
        cases hb : b.flag with
        | true => rfl
        | false => rw [hb] at h; exact absurd h (by decide)
    · rw [hgen 3 hk h3]; rfl
    · rw [hgen 4 hk h4]
      exact bD_iff (by rw [ltI_t]; exact cmpZ_lt.symm)
    · rw [lessS_eq]
      refine bD_iff ?_
      rw [decide_eq_true_iff]
      by_cases c5 : a.kind = 5
      · rw [hgen 5 hk c5]; rfl
      by_cases c6 : a.kind = 6
      · rw [hgen 6 hk c6]; rfl
      · rw [pa.2.2.2.1 c5 c6 (by omega)]
        have pb := formed_plain (good_iff.1 g2).1
        rw [pb.2.2.2.1 (by omega) (by omega) (by omega)]
        rw [hgen _ hk rfl, if_neg h2, if_neg h3, if_neg h4, if_neg c5, if_neg c6, if_neg (by omega), if_neg (by omega), pa.2.2.2.2.2 (by omega) (by omega) (by omega), pb.2.2.2.2.2 (by omega) (by omega) (by omega)]
        exact ⟨fun h => absurd h (by decide), fun h => absurd h (by decide)⟩
    · rw [lessS_eq]
      refine bD_iff ?_
      rw [decide_eq_true_iff, hgen 9 hk h9]
      have : cmpS a.text b.text ≠ 0 := fun h => ht ((ord_cmpS a.text).zero _ trivial h)
      simp [this]
    · exact hgo hk h7 fun _ => ht
    · exact hgo hk h7 fun h => absurd h h9
  · rintro j h t d ds hj ht hf ⟨a, b, i, rfl, g1, g2, hk, hi, hi', hl, hs, hs', rfl, hord⟩
    obtain rfl : t = head_rvless_0 := by
      match j, ht with
      | 0, ht => exact (Option.some.inj ht).symm
    have fa := formed_parts (good_iff.1 g1).1
    have fb := formed_parts (good_iff.1 g2).1
    have hend : a.list.length ≤ i ∨ b.list.length ≤ i → bD (ltI (a.list.length : Int) b.list.length) = bD (decide (orderV a b = -1)) := fun he => by
      refine bD_iff ?_
      rw [ltI_t, hord]
      by_cases c8 : a.kind = 8
      · rw [if_pos c8]
        have z1 : (a.names.zip a.list).length = a.list.length := by rw [List.length_zip, fa.2.1 c8]; omega
        have z2 : (b.names.zip b.list).length = b.list.length := by rw [List.length_zip, fb.2.1 (by omega)]; omega
        rw [rowsG_end (by omega) (by omega) (by omega), z1, z2]
        exact cmpZ_lt.symm
      · rw [if_neg c8, rowsG_end he hi hi']
        exact cmpZ_lt.symm
    simp only [head_rvless_0, Tree.holds, Out.den, E.den, E.denL, den1, den2, den3, den4, den5, den6, den7, den8, Bool.not_eq_true', Bool.not_eq_false', List.getD_cons_zero, List.getD_cons_succ, true_and, and_true, List.length_map, phi_1000, val1_toD]
    refine ⟨fun h1 => ⟨fun h2 => ?_, fun h2 => hend (by omega)⟩, fun h1 => hend (by omega)⟩
    have h1 : i < a.list.length := by omega
    have h2 : i < b.list.length := by omega
    obtain ⟨x, hx, hxm, hd⟩ := drop_get h1
    obtain ⟨y, hy, hym, hd'⟩ := drop_get h2
    have gx := good_mem g1 hxm
    have gy := good_mem g2 hym
    have oxy := ord_val x gx
    have hr := oxy.rng y gy
    have ha := oxy.anti y gy
    have hw : IntKind.i64.wrap ((i : Int) + 1) = ((i + 1 : Nat) : Int) := wrap_succ h1 hl
    by_cases c8 : a.kind = 8
    · have n1 := fa.2.1 c8
      have n2 := fb.2.1 (by omega)
      obtain ⟨nx, hnx, _, _⟩ := drop_get (show i < a.names.length by omega)
      obtain ⟨ny, hny, _, _⟩ := drop_get (show i < b.names.length by omega)
      obtain ⟨p, hp, _, hdp⟩ := drop_get (show i < (a.names.zip a.list).length by rw [List.length_zip]; omega)
      obtain ⟨q, hq, _, hdq⟩ := drop_get (show i < (b.names.zip b.list).length by rw [List.length_zip]; omega)
      have ep : p = (nx, x) := by
        rw [List.getElem?_zip_eq_some] at hp
        rw [hnx, hx] at hp
        exact Prod.ext (Option.some.inj hp.1).symm (Option.some.inj hp.2).symm
      have eq : q = (ny, y) := by
        rw [List.getElem?_zip_eq_some] at hq
        rw [hny, hy] at hq
        exact Prod.ext (Option.some.inj hq.1).symm (Option.some.inj hq.2).symm
      subst ep eq
      rw [if_pos c8, hdp, hdq, rowsG] at hord
      unfold pairC at hord
      simp only at hord
      simp only [rowAt_map hnx, rowAt_map hny, rowAt_map hx, rowAt_map hy, Tree.holds, Out.den, E.den, E.denL, den1, den2, den3, den4, den5, den6, den7, den8, Bool.not_eq_true', Bool.not_eq_false', List.getD_cons_zero, List.getD_cons_succ, true_and, and_true, List.length_map, phi_1000, phi_rvless, pre_rvless, hs x y hxm hym, hs' x y hxm hym, hw]
      refine ⟨fun _ => ⟨by omega, by omega, by omega, fun hn => ?_, fun hn => ⟨⟨gx, gy⟩, fun hlt => ?_, fun hge => ⟨⟨gy, gx⟩, fun hgt => ?_, fun hle => ⟨⟨a, b, i + 1, rfl, g1, g2, hk, h1, h2, hl, hs, hs', rfl, ?_⟩, by omega⟩⟩⟩⟩, fun h => absurd c8 h⟩
      · have : cmpS nx ny ≠ 0 := fun h => hn ((ord_cmpS nx).zero _ trivial h)
        rw [lessS_eq]
        refine bD_iff ?_
        rw [decide_eq_true_iff, hord]
        simp [this]
      · have hlt := of_decide_eq_true hlt
        rw [hord, hn, cmpS_self]
        simp [hlt]
      · have hgt := of_decide_eq_true hgt
        rw [hord, hn, cmpS_self]
        have : orderV x y = 1 := by omega
        simp [this]
      · have hge := of_decide_eq_false hge
        have hle := of_decide_eq_false hle
        have h0 : orderV x y = 0 := by omega
        rw [if_pos c8, hord, hn, cmpS_self, if_pos (rfl : (0 : Int) = 0), if_pos h0]
        rfl
    · rw [if_neg c8, hd, hd', rowsG] at hord
      simp only [rowAt_map hx, rowAt_map hy, Tree.holds, Out.den, E.den, E.denL, den1, den2, den3, den4, den5, den6, den7, den8, Bool.not_eq_true', Bool.not_eq_false', List.getD_cons_zero, List.getD_cons_succ, true_and, and_true, List.length_map, phi_1000, phi_rvless, pre_rvless, hs x y hxm hym, hs' x y hxm hym, hw]
      refine ⟨fun h => absurd h c8, fun _ => ⟨by omega, ⟨gx, gy⟩, fun hlt => ?_, fun hge => ⟨⟨gy, gx⟩, fun hgt => ?_, fun hle => ⟨⟨a, b, i + 1, rfl, g1, g2, hk, h1, h2, hl, hs, hs', rfl, ?_⟩, by omega⟩⟩⟩⟩
      · have hlt := of_decide_eq_true hlt
        rw [hord]
        simp [hlt]
      · have hgt := of_decide_eq_true hgt
        rw [hord]
        have : orderV x y = 1 := by omega
        simp [this]
      · have hge := of_decide_eq_false hge
        have hle := of_decide_eq_false hle
        have h0 : orderV x y = 0 := by omega
        rw [if_neg c8, hord]
        simp [h0]
theorem rvless_ok : ∀ (n : Nat), @Ok (I n) q_rvless (@okS (I n) n q_rvless.g)
  | 0 => fun W J vs ds hL hI ha hp => absurd hp.1.1 (Nat.not_lt_zero _)
  | n + 1 => ok_irrel (by decide) (rvless_step n (rvless_ok n))
/-- calamus/calamusref04.Cmp: func 25, params [33, 33], ntmps 25. -/
def heads_rcmp : List Hd := []
def entry_rcmp : Tree :=
 (.giv (.app 1000 [(.pr .row [(.pr (.cell 0) [(.var 0)]), (.pr (.cell 1) [(.var 0)]), (.pr (.cell 2) [(.var 0)]), (.pr (.cell 3) [(.var 0)]), (.pr (.cell 4) [(.var 0)]), (.pr (.cell 5) [(.var 0)]), (.pr (.cell 6) [(.var 0)]), (.pr (.cell 7) [(.var 0)]), (.pr (.cell 8) [(.var 0)])])])
 (.giv (.app 2047 [(.pr .row [(.pr (.cell 0) [(.var 0)]), (.pr (.cell 1) [(.var 0)]), (.pr (.cell 2) [(.var 0)]), (.pr (.cell 3) [(.var 0)]), (.pr (.cell 4) [(.var 0)]), (.pr (.cell 5) [(.var 0)]), (.pr (.cell 6) [(.var 0)]), (.pr (.cell 7) [(.var 0)]), (.pr (.cell 8) [(.var 0)])])])
 (.ite (.pr (.icmp .eql) [(.app 47 [(.pr .row [(.pr (.cell 0) [(.var 0)]), (.pr (.cell 1) [(.var 0)]), (.pr (.cell 2) [(.var 0)]), (.pr (.cell 3) [(.var 0)]), (.pr (.cell 4) [(.var 0)]), (.pr (.cell 5) [(.var 0)]), (.pr (.cell 6) [(.var 0)]), (.pr (.cell 7) [(.var 0)]), (.pr (.cell 8) [(.var 0)])])]), (.lit (.int .i64 0))])
 (.giv (.app 1000 [(.pr .row [(.pr (.cell 0) [(.var 1)]), (.pr (.cell 1) [(.var 1)]), (.pr (.cell 2) [(.var 1)]), (.pr (.cell 3) [(.var 1)]), (.pr (.cell 4) [(.var 1)]), (.pr (.cell 5) [(.var 1)]), (.pr (.cell 6) [(.var 1)]), (.pr (.cell 7) [(.var 1)]), (.pr (.cell 8) [(.var 1)])])])
 (.giv (.app 2047 [(.pr .row [(.pr (.cell 0) [(.var 1)]), (.pr (.cell 1) [(.var 1)]), (.pr (.cell 2) [(.var 1)]), (.pr (.cell 3) [(.var 1)]), (.pr (.cell 4) [(.var 1)]), (.pr (.cell 5) [(.var 1)]), (.pr (.cell 6) [(.var 1)]), (.pr (.cell 7) [(.var 1)]), (.pr (.cell 8) [(.var 1)])])])
 (.ite (.pr (.icmp .neq) [(.app 47 [(.pr .row [(.pr (.cell 0) [(.var 1)]), (.pr (.cell 1) [(.var 1)]), (.pr (.cell 2) [(.var 1)]), (.pr (.cell 3) [(.var 1)]), (.pr (.cell 4) [(.var 1)]), (.pr (.cell 5) [(.var 1)]), (.pr (.cell 6) [(.var 1)]), (.pr (.cell 7) [(.var 1)]), (.pr (.cell 8) [(.var 1)])])]), (.lit (.int .i64 0))])
 (.leaf (.ret (.pr .row [(.lit (.int .i64 0)), (.app 47 [(.pr .row [(.pr (.cell 0) [(.var 1)]), (.pr (.cell 1) [(.var 1)]), (.pr (.cell 2) [(.var 1)]), (.pr (.cell 3) [(.var 1)]), (.pr (.cell 4) [(.var 1)]), (.pr (.cell 5) [(.var 1)]), (.pr (.cell 6) [(.var 1)]), (.pr (.cell 7) [(.var 1)]), (.pr (.cell 8) [(.var 1)])])])])))
 (.giv (.app 1000 [(.pr .row [(.pr (.cell 0) [(.var 0)]), (.pr (.cell 1) [(.var 0)]), (.pr (.cell 2) [(.var 0)]), (.pr (.cell 3) [(.var 0)]), (.pr (.cell 4) [(.var 0)]), (.pr (.cell 5) [(.var 0)]), (.pr (.cell 6) [(.var 0)]), (.pr (.cell 7) [(.var 0)]), (.pr (.cell 8) [(.var 0)])]), (.pr .row [(.pr (.cell 0) [(.var 1)]), (.pr (.cell 1) [(.var 1)]), (.pr (.cell 2) [(.var 1)]), (.pr (.cell 3) [(.var 1)]), (.pr (.cell 4) [(.var 1)]), (.pr (.cell 5) [(.var 1)]), (.pr (.cell 6) [(.var 1)]), (.pr (.cell 7) [(.var 1)]), (.pr (.cell 8) [(.var 1)])])])
 (.giv (.app 2049 [(.pr .row [(.pr (.cell 0) [(.var 0)]), (.pr (.cell 1) [(.var 0)]), (.pr (.cell 2) [(.var 0)]), (.pr (.cell 3) [(.var 0)]), (.pr (.cell 4) [(.var 0)]), (.pr (.cell 5) [(.var 0)]), (.pr (.cell 6) [(.var 0)]), (.pr (.cell 7) [(.var 0)]), (.pr (.cell 8) [(.var 0)])]), (.pr .row [(.pr (.cell 0) [(.var 1)]), (.pr (.cell 1) [(.var 1)]), (.pr (.cell 2) [(.var 1)]), (.pr (.cell 3) [(.var 1)]), (.pr (.cell 4) [(.var 1)]), (.pr (.cell 5) [(.var 1)]), (.pr (.cell 6) [(.var 1)]), (.pr (.cell 7) [(.var 1)]), (.pr (.cell 8) [(.var 1)])])])
 (.ite (.app 49 [(.pr .row [(.pr (.cell 0) [(.var 0)]), (.pr (.cell 1) [(.var 0)]), (.pr (.cell 2) [(.var 0)]), (.pr (.cell 3) [(.var 0)]), (.pr (.cell 4) [(.var 0)]), (.pr (.cell 5) [(.var 0)]), (.pr (.cell 6) [(.var 0)]), (.pr (.cell 7) [(.var 0)]), (.pr (.cell 8) [(.var 0)])]), (.pr .row [(.pr (.cell 0) [(.var 1)]), (.pr (.cell 1) [(.var 1)]), (.pr (.cell 2) [(.var 1)]), (.pr (.cell 3) [(.var 1)]), (.pr (.cell 4) [(.var 1)]), (.pr (.cell 5) [(.var 1)]), (.pr (.cell 6) [(.var 1)]), (.pr (.cell 7) [(.var 1)]), (.pr (.cell 8) [(.var 1)])])])
 (.leaf (.ret (.pr .row [(.lit (.int .i64 (-1))), (.lit (.int .i64 0))])))
 (.giv (.app 1000 [(.pr .row [(.pr (.cell 0) [(.var 1)]), (.pr (.cell 1) [(.var 1)]), (.pr (.cell 2) [(.var 1)]), (.pr (.cell 3) [(.var 1)]), (.pr (.cell 4) [(.var 1)]), (.pr (.cell 5) [(.var 1)]), (.pr (.cell 6) [(.var 1)]), (.pr (.cell 7) [(.var 1)]), (.pr (.cell 8) [(.var 1)])]), (.pr .row [(.pr (.cell 0) [(.var 0)]), (.pr (.cell 1) [(.var 0)]), (.pr (.cell 2) [(.var 0)]), (.pr (.cell 3) [(.var 0)]), (.pr (.cell 4) [(.var 0)]), (.pr (.cell 5) [(.var 0)]), (.pr (.cell 6) [(.var 0)]), (.pr (.cell 7) [(.var 0)]), (.pr (.cell 8) [(.var 0)])])])
 (.giv (.app 2049 [(.pr .row [(.pr (.cell 0) [(.var 1)]), (.pr (.cell 1) [(.var 1)]), (.pr (.cell 2) [(.var 1)]), (.pr (.cell 3) [(.var 1)]), (.pr (.cell 4) [(.var 1)]), (.pr (.cell 5) [(.var 1)]), (.pr (.cell 6) [(.var 1)]), (.pr (.cell 7) [(.var 1)]), (.pr (.cell 8) [(.var 1)])]), (.pr .row [(.pr (.cell 0) [(.var 0)]), (.pr (.cell 1) [(.var 0)]), (.pr (.cell 2) [(.var 0)]), (.pr (.cell 3) [(.var 0)]), (.pr (.cell 4) [(.var 0)]), (.pr (.cell 5) [(.var 0)]), (.pr (.cell 6) [(.var 0)]), (.pr (.cell 7) [(.var 0)]), (.pr (.cell 8) [(.var 0)])])])
 (.ite (.app 49 [(.pr .row [(.pr (.cell 0) [(.var 1)]), (.pr (.cell 1) [(.var 1)]), (.pr (.cell 2) [(.var 1)]), (.pr (.cell 3) [(.var 1)]), (.pr (.cell 4) [(.var 1)]), (.pr (.cell 5) [(.var 1)]), (.pr (.cell 6) [(.var 1)]), (.pr (.cell 7) [(.var 1)]), (.pr (.cell 8) [(.var 1)])]), (.pr .row [(.pr (.cell 0) [(.var 0)]), (.pr (.cell 1) [(.var 0)]), (.pr (.cell 2) [(.var 0)]), (.pr (.cell 3) [(.var 0)]), (.pr (.cell 4) [(.var 0)]), (.pr (.cell 5) [(.var 0)]), (.pr (.cell 6) [(.var 0)]), (.pr (.cell 7) [(.var 0)]), (.pr (.cell 8) [(.var 0)])])])
 (.leaf (.ret (.pr .row [(.lit (.int .i64 1)), (.lit (.int .i64 0))])))
 (.leaf (.ret (.pr .row [(.lit (.int .i64 0)), (.lit (.int .i64 0))]))))))))))))
 (.ite (.pr (.icmp .neq) [(.app 47 [(.pr .row [(.pr (.cell 0) [(.var 0)]), (.pr (.cell 1) [(.var 0)]), (.pr (.cell 2) [(.var 0)]), (.pr (.cell 3) [(.var 0)]), (.pr (.cell 4) [(.var 0)]), (.pr (.cell 5) [(.var 0)]), (.pr (.cell 6) [(.var 0)]), (.pr (.cell 7) [(.var 0)]), (.pr (.cell 8) [(.var 0)])])]), (.lit (.int .i64 0))])
 (.leaf (.ret (.pr .row [(.lit (.int .i64 0)), (.app 47 [(.pr .row [(.pr (.cell 0) [(.var 0)]), (.pr (.cell 1) [(.var 0)]), (.pr (.cell 2) [(.var 0)]), (.pr (.cell 3) [(.var 0)]), (.pr (.cell 4) [(.var 0)]), (.pr (.cell 5) [(.var 0)]), (.pr (.cell 6) [(.var 0)]), (.pr (.cell 7) [(.var 0)]), (.pr (.cell 8) [(.var 0)])])])])))
 (.giv (.app 1000 [(.pr .row [(.pr (.cell 0) [(.var 0)]), (.pr (.cell 1) [(.var 0)]), (.pr (.cell 2) [(.var 0)]), (.pr (.cell 3) [(.var 0)]), (.pr (.cell 4) [(.var 0)]), (.pr (.cell 5) [(.var 0)]), (.pr (.cell 6) [(.var 0)]), (.pr (.cell 7) [(.var 0)]), (.pr (.cell 8) [(.var 0)])]), (.pr .row [(.pr (.cell 0) [(.var 1)]), (.pr (.cell 1) [(.var 1)]), (.pr (.cell 2) [(.var 1)]), (.pr (.cell 3) [(.var 1)]), (.pr (.cell 4) [(.var 1)]), (.pr (.cell 5) [(.var 1)]), (.pr (.cell 6) [(.var 1)]), (.pr (.cell 7) [(.var 1)]), (.pr (.cell 8) [(.var 1)])])])
 (.giv (.app 2049 [(.pr .row [(.pr (.cell 0) [(.var 0)]), (.pr (.cell 1) [(.var 0)]), (.pr (.cell 2) [(.var 0)]), (.pr (.cell 3) [(.var 0)]), (.pr (.cell 4) [(.var 0)]), (.pr (.cell 5) [(.var 0)]), (.pr (.cell 6) [(.var 0)]), (.pr (.cell 7) [(.var 0)]), (.pr (.cell 8) [(.var 0)])]), (.pr .row [(.pr (.cell 0) [(.var 1)]), (.pr (.cell 1) [(.var 1)]), (.pr (.cell 2) [(.var 1)]), (.pr (.cell 3) [(.var 1)]), (.pr (.cell 4) [(.var 1)]), (.pr (.cell 5) [(.var 1)]), (.pr (.cell 6) [(.var 1)]), (.pr (.cell 7) [(.var 1)]), (.pr (.cell 8) [(.var 1)])])])
 (.ite (.app 49 [(.pr .row [(.pr (.cell 0) [(.var 0)]), (.pr (.cell 1) [(.var 0)]), (.pr (.cell 2) [(.var 0)]), (.pr (.cell 3) [(.var 0)]), (.pr (.cell 4) [(.var 0)]), (.pr (.cell 5) [(.var 0)]), (.pr (.cell 6) [(.var 0)]), (.pr (.cell 7) [(.var 0)]), (.pr (.cell 8) [(.var 0)])]), (.pr .row [(.pr (.cell 0) [(.var 1)]), (.pr (.cell 1) [(.var 1)]), (.pr (.cell 2) [(.var 1)]), (.pr (.cell 3) [(.var 1)]), (.pr (.cell 4) [(.var 1)]), (.pr (.cell 5) [(.var 1)]), (.pr (.cell 6) [(.var 1)]), (.pr (.cell 7) [(.var 1)]), (.pr (.cell 8) [(.var 1)])])])
 (.leaf (.ret (.pr .row [(.lit (.int .i64 (-1))), (.lit (.int .i64 0))])))
 (.giv (.app 1000 [(.pr .row [(.pr (.cell 0) [(.var 1)]), (.pr (.cell 1) [(.var 1)]), (.pr (.cell 2) [(.var 1)]), (.pr (.cell 3) [(.var 1)]), (.pr (.cell 4) [(.var 1)]), (.pr (.cell 5) [(.var 1)]), (.pr (.cell 6) [(.var 1)]), (.pr (.cell 7) [(.var 1)]), (.pr (.cell 8) [(.var 1)])]), (.pr .row [(.pr (.cell 0) [(.var 0)]), (.pr (.cell 1) [(.var 0)]), (.pr (.cell 2) [(.var 0)]), (.pr (.cell 3) [(.var 0)]), (.pr (.cell 4) [(.var 0)]), (.pr (.cell 5) [(.var 0)]), (.pr (.cell 6) [(.var 0)]), (.pr (.cell 7) [(.var 0)]), (.pr (.cell 8) [(.var 0)])])])
 (.giv (.app 2049 [(.pr .row [(.pr (.cell 0) [(.var 1)]), (.pr (.cell 1) [(.var 1)]), (.pr (.cell 2) [(.var 1)]), (.pr (.cell 3) [(.var 1)]), (.pr (.cell 4) [(.var 1)]), (.pr (.cell 5) [(.var 1)]), (.pr (.cell 6) [(.var 1)]), (.pr (.cell 7) [(.var 1)]), (.pr (.cell 8) [(.var 1)])]), (.pr .row [(.pr (.cell 0) [(.var 0)]), (.pr (.cell 1) [(.var 0)]), (.pr (.cell 2) [(.var 0)]), (.pr (.cell 3) [(.var 0)]), (.pr (.cell 4) [(.var 0)]), (.pr (.cell 5) [(.var 0)]), (.pr (.cell 6) [(.var 0)]), (.pr (.cell 7) [(.var 0)]), (.pr (.cell 8) [(.var 0)])])])
 (.ite (.app 49 [(.pr .row [(.pr (.cell 0) [(.var 1)]), (.pr (.cell 1) [(.var 1)]), (.pr (.cell 2) [(.var 1)]), (.pr (.cell 3) [(.var 1)]), (.pr (.cell 4) [(.var 1)]), (.pr (.cell 5) [(.var 1)]), (.pr (.cell 6) [(.var 1)]), (.pr (.cell 7) [(.var 1)]), (.pr (.cell 8) [(.var 1)])]), (.pr .row [(.pr (.cell 0) [(.var 0)]), (.pr (.cell 1) [(.var 0)]), (.pr (.cell 2) [(.var 0)]), (.pr (.cell 3) [(.var 0)]), (.pr (.cell 4) [(.var 0)]), (.pr (.cell 5) [(.var 0)]), (.pr (.cell 6) [(.var 0)]), (.pr (.cell 7) [(.var 0)]), (.pr (.cell 8) [(.var 0)])])])
 (.leaf (.ret (.pr .row [(.lit (.int .i64 1)), (.lit (.int .i64 0))])))
 (.leaf (.ret (.pr .row [(.lit (.int .i64 0)), (.lit (.int .i64 0))])))))))))))))
def trees_rcmp : List Tree := []
noncomputable def deps_rcmp : List Sig := [q_rcheck, q_rvless]
theorem ok_rcmp : check q_rcmp deps_rcmp heads_rcmp entry_rcmp trees_rcmp = true := by kernel_rfl
theorem rcmp_ok (n : Nat) : @Ok (I n) q_rcmp (@okS (I n) n q_rcmp.g) := by
  letI := I n
  refine fn_okS (hphi n) ok_rcmp (by
    intro q hq
    simp only [deps_rcmp, List.mem_cons, List.not_mem_nil, or_false] at hq
    rcases hq with rfl | rfl
    · exact rcheck_ok rvalid_ok n
    · exact rvless_ok n) (fun _ _ _ => False) (fun _ _ => 0) ?_ (fun j h t d ds hj => by simp [heads_rcmp] at hj)
  intro ds hf hp
  obtain ⟨a, b, rfl⟩ := two_val hf
  have hz := (pre_rcmp n _).1 (hp.2 rfl)
  obtain ⟨h1, h2, h3⟩ := okD_two.1 hp.1
  have oa : okD n [a.toD] := okD_one.2 ⟨by omega, h2⟩
  have ob : okD n [b.toD] := okD_one.2 ⟨by omega, h3⟩
  have oba : okD n [b.toD, a.toD] := okD_two.2 ⟨by omega, h3, h2⟩
  have za : D.szL [a.toD] + 4 < n := by simp only [D.szL] at hz ⊢; omega
  have zb : D.szL [b.toD] + 4 < n := by simp only [D.szL] at hz ⊢; omega
  have hord := fun h => @vcmp_fst a b h
  have hsnd := vcmp_snd a b
  have hga := @check_good a
  have hgb := @check_good b
  have hn : D.row [D.v (.int .i64 (-1)), D.v (.int .i64 0)] = .row [iD ((-1 : Int), (0 : Int)).1, iD ((-1 : Int), (0 : Int)).2] := rfl
  simp only [entry_rcmp, q_rcmp, Tree.holds, Out.den, E.den, E.denL, den1, den2, den3, den4, den5, den6, den7, den8, Bool.not_eq_true', Bool.not_eq_false', List.getD_cons_zero, List.getD_cons_succ, true_and, and_true, List.length_map, phi_1000, phi_rcheck, phi_rvless, phi_rcmp, pre_rcheck, pre_rvless, oa, ob, oba, hp.1, za, zb, decide_eq_true_eq, decide_eq_false_iff_not]
  unfold vcmpV
  by_cases ka : checkV a = 0
  · have ga := hga ka
    by_cases kb : checkV b = 0
    · have gb := hgb kb
      have oab := ord_val a ga
      have hr := oab.rng b gb
      have ha := oab.anti b gb
      rw [if_neg (by simp [ka]), if_neg (by simp [kb])]
      simp only [ka, kb, ga, gb, not_true_eq_false, false_implies, true_implies, true_and, and_true, and_self]
      refine ⟨fun h => by rw [h], fun h => ⟨fun h' => ?_, fun h' => ?_⟩⟩
      · rw [show orderV a b = 1 by omega]
      · rw [show orderV a b = 0 by omega]
    · rw [if_neg (by simp [ka]), if_pos kb]
      simp only [ka, kb, ga, not_true_eq_false, not_false_eq_true, false_implies, true_implies, true_and, and_true]
  · rw [if_pos ka]
    simp only [ka, not_true_eq_false, not_false_eq_true, false_implies, true_implies, true_and, and_true]
/-- calamus/calamuslaw04.ValueOrders: func 5, params [33, 33], ntmps 47. -/
def heads_orders : List Hd := []
def entry_orders : Tree :=
 (.giv (.app 1000 [(.pr .row [(.pr (.cell 0) [(.var 0)]), (.pr (.cell 1) [(.var 0)]), (.pr (.cell 2) [(.var 0)]), (.pr (.cell 3) [(.var 0)]), (.pr (.cell 4) [(.var 0)]), (.pr (.cell 5) [(.var 0)]), (.pr (.cell 6) [(.var 0)]), (.pr (.cell 7) [(.var 0)]), (.pr (.cell 8) [(.var 0)])]), (.lit (.int .i64 0)), (.lit (.int .i64 65536)), (.lit (.int .i64 0))])
 (.ite (.pr (.icmp .gtr) [(.app 11 [(.pr .row [(.pr (.cell 0) [(.var 0)]), (.pr (.cell 1) [(.var 0)]), (.pr (.cell 2) [(.var 0)]), (.pr (.cell 3) [(.var 0)]), (.pr (.cell 4) [(.var 0)]), (.pr (.cell 5) [(.var 0)]), (.pr (.cell 6) [(.var 0)]), (.pr (.cell 7) [(.var 0)]), (.pr (.cell 8) [(.var 0)])]), (.lit (.int .i64 0)), (.lit (.int .i64 65536)), (.lit (.int .i64 0))]), (.lit (.int .i64 65536))])
 (.leaf (.ret (.lit (.bool true))))
 (.giv (.app 1000 [(.pr .row [(.pr (.cell 0) [(.var 0)]), (.pr (.cell 1) [(.var 0)]), (.pr (.cell 2) [(.var 0)]), (.pr (.cell 3) [(.var 0)]), (.pr (.cell 4) [(.var 0)]), (.pr (.cell 5) [(.var 0)]), (.pr (.cell 6) [(.var 0)]), (.pr (.cell 7) [(.var 0)]), (.pr (.cell 8) [(.var 0)])])])
 (.ite (.app 12 [(.pr .row [(.pr (.cell 0) [(.var 0)]), (.pr (.cell 1) [(.var 0)]), (.pr (.cell 2) [(.var 0)]), (.pr (.cell 3) [(.var 0)]), (.pr (.cell 4) [(.var 0)]), (.pr (.cell 5) [(.var 0)]), (.pr (.cell 6) [(.var 0)]), (.pr (.cell 7) [(.var 0)]), (.pr (.cell 8) [(.var 0)])])])
 (.leaf (.ret (.lit (.bool true))))
 (.giv (.app 1000 [(.pr .row [(.pr (.cell 0) [(.var 1)]), (.pr (.cell 1) [(.var 1)]), (.pr (.cell 2) [(.var 1)]), (.pr (.cell 3) [(.var 1)]), (.pr (.cell 4) [(.var 1)]), (.pr (.cell 5) [(.var 1)]), (.pr (.cell 6) [(.var 1)]), (.pr (.cell 7) [(.var 1)]), (.pr (.cell 8) [(.var 1)])]), (.lit (.int .i64 0)), (.lit (.int .i64 65536)), (.lit (.int .i64 0))])
 (.ite (.pr (.icmp .gtr) [(.app 11 [(.pr .row [(.pr (.cell 0) [(.var 1)]), (.pr (.cell 1) [(.var 1)]), (.pr (.cell 2) [(.var 1)]), (.pr (.cell 3) [(.var 1)]), (.pr (.cell 4) [(.var 1)]), (.pr (.cell 5) [(.var 1)]), (.pr (.cell 6) [(.var 1)]), (.pr (.cell 7) [(.var 1)]), (.pr (.cell 8) [(.var 1)])]), (.lit (.int .i64 0)), (.lit (.int .i64 65536)), (.lit (.int .i64 0))]), (.lit (.int .i64 65536))])
 (.leaf (.ret (.lit (.bool true))))
 (.giv (.app 1000 [(.pr .row [(.pr (.cell 0) [(.var 1)]), (.pr (.cell 1) [(.var 1)]), (.pr (.cell 2) [(.var 1)]), (.pr (.cell 3) [(.var 1)]), (.pr (.cell 4) [(.var 1)]), (.pr (.cell 5) [(.var 1)]), (.pr (.cell 6) [(.var 1)]), (.pr (.cell 7) [(.var 1)]), (.pr (.cell 8) [(.var 1)])])])
 (.ite (.app 12 [(.pr .row [(.pr (.cell 0) [(.var 1)]), (.pr (.cell 1) [(.var 1)]), (.pr (.cell 2) [(.var 1)]), (.pr (.cell 3) [(.var 1)]), (.pr (.cell 4) [(.var 1)]), (.pr (.cell 5) [(.var 1)]), (.pr (.cell 6) [(.var 1)]), (.pr (.cell 7) [(.var 1)]), (.pr (.cell 8) [(.var 1)])])])
 (.leaf (.ret (.lit (.bool true))))
 (.giv (.app 1000 [(.pr .row [(.pr (.cell 0) [(.var 0)]), (.pr (.cell 1) [(.var 0)]), (.pr (.cell 2) [(.var 0)]), (.pr (.cell 3) [(.var 0)]), (.pr (.cell 4) [(.var 0)]), (.pr (.cell 5) [(.var 0)]), (.pr (.cell 6) [(.var 0)]), (.pr (.cell 7) [(.var 0)]), (.pr (.cell 8) [(.var 0)])]), (.pr .row [(.pr (.cell 0) [(.var 1)]), (.pr (.cell 1) [(.var 1)]), (.pr (.cell 2) [(.var 1)]), (.pr (.cell 3) [(.var 1)]), (.pr (.cell 4) [(.var 1)]), (.pr (.cell 5) [(.var 1)]), (.pr (.cell 6) [(.var 1)]), (.pr (.cell 7) [(.var 1)]), (.pr (.cell 8) [(.var 1)])])])
 (.giv (.app 2050 [(.pr .row [(.pr (.cell 0) [(.var 0)]), (.pr (.cell 1) [(.var 0)]), (.pr (.cell 2) [(.var 0)]), (.pr (.cell 3) [(.var 0)]), (.pr (.cell 4) [(.var 0)]), (.pr (.cell 5) [(.var 0)]), (.pr (.cell 6) [(.var 0)]), (.pr (.cell 7) [(.var 0)]), (.pr (.cell 8) [(.var 0)])]), (.pr .row [(.pr (.cell 0) [(.var 1)]), (.pr (.cell 1) [(.var 1)]), (.pr (.cell 2) [(.var 1)]), (.pr (.cell 3) [(.var 1)]), (.pr (.cell 4) [(.var 1)]), (.pr (.cell 5) [(.var 1)]), (.pr (.cell 6) [(.var 1)]), (.pr (.cell 7) [(.var 1)]), (.pr (.cell 8) [(.var 1)])])])
 (.giv (.app 1000 [])
 (.ite (.app 14 [])
 (.ite (.pr (.icmp .eql) [(.pr (.cell 0) [(.app 27 [(.pr .row [(.pr (.cell 0) [(.var 0)]), (.pr (.cell 1) [(.var 0)]), (.pr (.cell 2) [(.var 0)]), (.pr (.cell 3) [(.var 0)]), (.pr (.cell 4) [(.var 0)]), (.pr (.cell 5) [(.var 0)]), (.pr (.cell 6) [(.var 0)]), (.pr (.cell 7) [(.var 0)]), (.pr (.cell 8) [(.var 0)])]), (.pr .row [(.pr (.cell 0) [(.var 1)]), (.pr (.cell 1) [(.var 1)]), (.pr (.cell 2) [(.var 1)]), (.pr (.cell 3) [(.var 1)]), (.pr (.cell 4) [(.var 1)]), (.pr (.cell 5) [(.var 1)]), (.pr (.cell 6) [(.var 1)]), (.pr (.cell 7) [(.var 1)]), (.pr (.cell 8) [(.var 1)])])])]), (.pr (.cell 0) [(.app 50 [(.pr .row [(.pr (.cell 0) [(.var 0)]), (.pr (.cell 1) [(.var 0)]), (.pr (.cell 2) [(.var 0)]), (.pr (.cell 3) [(.var 0)]), (.pr (.cell 4) [(.var 0)]), (.pr (.cell 5) [(.var 0)]), (.pr (.cell 6) [(.var 0)]), (.pr (.cell 7) [(.var 0)]), (.pr (.cell 8) [(.var 0)])]), (.pr .row [(.pr (.cell 0) [(.var 1)]), (.pr (.cell 1) [(.var 1)]), (.pr (.cell 2) [(.var 1)]), (.pr (.cell 3) [(.var 1)]), (.pr (.cell 4) [(.var 1)]), (.pr (.cell 5) [(.var 1)]), (.pr (.cell 6) [(.var 1)]), (.pr (.cell 7) [(.var 1)]), (.pr (.cell 8) [(.var 1)])])])])])
 (.ite (.pr (.icmp .eql) [(.pr (.cell 1) [(.app 27 [(.pr .row [(.pr (.cell 0) [(.var 0)]), (.pr (.cell 1) [(.var 0)]), (.pr (.cell 2) [(.var 0)]), (.pr (.cell 3) [(.var 0)]), (.pr (.cell 4) [(.var 0)]), (.pr (.cell 5) [(.var 0)]), (.pr (.cell 6) [(.var 0)]), (.pr (.cell 7) [(.var 0)]), (.pr (.cell 8) [(.var 0)])]), (.pr .row [(.pr (.cell 0) [(.var 1)]), (.pr (.cell 1) [(.var 1)]), (.pr (.cell 2) [(.var 1)]), (.pr (.cell 3) [(.var 1)]), (.pr (.cell 4) [(.var 1)]), (.pr (.cell 5) [(.var 1)]), (.pr (.cell 6) [(.var 1)]), (.pr (.cell 7) [(.var 1)]), (.pr (.cell 8) [(.var 1)])])])]), (.pr (.cell 1) [(.app 50 [(.pr .row [(.pr (.cell 0) [(.var 0)]), (.pr (.cell 1) [(.var 0)]), (.pr (.cell 2) [(.var 0)]), (.pr (.cell 3) [(.var 0)]), (.pr (.cell 4) [(.var 0)]), (.pr (.cell 5) [(.var 0)]), (.pr (.cell 6) [(.var 0)]), (.pr (.cell 7) [(.var 0)]), (.pr (.cell 8) [(.var 0)])]), (.pr .row [(.pr (.cell 0) [(.var 1)]), (.pr (.cell 1) [(.var 1)]), (.pr (.cell 2) [(.var 1)]), (.pr (.cell 3) [(.var 1)]), (.pr (.cell 4) [(.var 1)]), (.pr (.cell 5) [(.var 1)]), (.pr (.cell 6) [(.var 1)]), (.pr (.cell 7) [(.var 1)]), (.pr (.cell 8) [(.var 1)])])])])])
 (.leaf (.ret (.pr (.bcmp .eql) [(.app 17 [(.pr .row [(.pr (.cell 0) [(.var 0)]), (.pr (.cell 1) [(.var 0)]), (.pr (.cell 2) [(.var 0)]), (.pr (.cell 3) [(.var 0)]), (.pr (.cell 4) [(.var 0)]), (.pr (.cell 5) [(.var 0)]), (.pr (.cell 6) [(.var 0)]), (.pr (.cell 7) [(.var 0)]), (.pr (.cell 8) [(.var 0)])]), (.pr .row [(.pr (.cell 0) [(.var 1)]), (.pr (.cell 1) [(.var 1)]), (.pr (.cell 2) [(.var 1)]), (.pr (.cell 3) [(.var 1)]), (.pr (.cell 4) [(.var 1)]), (.pr (.cell 5) [(.var 1)]), (.pr (.cell 6) [(.var 1)]), (.pr (.cell 7) [(.var 1)]), (.pr (.cell 8) [(.var 1)])])]), (.app 48 [(.pr .row [(.pr (.cell 0) [(.var 0)]), (.pr (.cell 1) [(.var 0)]), (.pr (.cell 2) [(.var 0)]), (.pr (.cell 3) [(.var 0)]), (.pr (.cell 4) [(.var 0)]), (.pr (.cell 5) [(.var 0)]), (.pr (.cell 6) [(.var 0)]), (.pr (.cell 7) [(.var 0)]), (.pr (.cell 8) [(.var 0)])]), (.pr .row [(.pr (.cell 0) [(.var 1)]), (.pr (.cell 1) [(.var 1)]), (.pr (.cell 2) [(.var 1)]), (.pr (.cell 3) [(.var 1)]), (.pr (.cell 4) [(.var 1)]), (.pr (.cell 5) [(.var 1)]), (.pr (.cell 6) [(.var 1)]), (.pr (.cell 7) [(.var 1)]), (.pr (.cell 8) [(.var 1)])])])])))
 (.leaf (.ret (.lit (.bool false)))))
 (.leaf (.ret (.lit (.bool false)))))
 (.leaf (.ret (.lit (.bool false))))))))))))))))
def trees_orders : List Tree := []
noncomputable def deps_orders : List Sig := [q_parts, q_many, q_vcmp, q_rcmp, q_equal, q_requal, q_awake]
theorem ok_orders : check q_orders deps_orders heads_orders entry_orders trees_orders = true := by kernel_rfl
def preO (n : Nat) (ds : List D) : Prop := D.szL ds + 100 < n ∧ D.LimL ds
theorem orders_ok (n : Nat) : @Ok (I n) q_orders (preO n) := by
  letI := I n
  refine fn_okS (hphi n) ok_orders (by
    intro q hq
    simp only [deps_orders, List.mem_cons, List.not_mem_nil, or_false] at hq
    rcases hq with rfl | rfl | rfl | rfl | rfl | rfl | rfl
    · exact okS_of (parts_ok n)
    · exact okS_of (many_ok n)
    · exact okS_of (vcmp_ok n)
    · exact rcmp_ok n
    · exact okS_of (equal_ok n)
    · exact okS_of (requal_ok n)
    · exact okS_of (awake_ok n _)) (fun _ _ _ => False) (fun _ _ => 0) ?_ (fun j h t d ds hj => by simp [heads_orders] at hj)
  intro ds hf hp
  obtain ⟨a, b, rfl⟩ := two_val hf
  obtain ⟨hp1, hp2⟩ := hp
  simp only [D.szL, D.LimL, and_true] at hp1 hp2
  have o1 : okD n [a.toD, iD 0, iD 65536, iD 0] := okD_val3.2 ⟨by omega, hp2.1⟩
  have o2 : okD n [b.toD, iD 0, iD 65536, iD 0] := okD_val3.2 ⟨by omega, hp2.2⟩
  have o3 : okD n [a.toD] := okD_one.2 ⟨by omega, hp2.1⟩
  have o4 : okD n [b.toD] := okD_one.2 ⟨by omega, hp2.2⟩
  have o5 : okD n [] := ⟨by simp only [D.szL]; omega, by simp only [D.LimL]⟩
  have o6 : okD n [a.toD, b.toD] := okD_two.2 ⟨by omega, hp2.1, hp2.2⟩
  have o7 : D.szL [a.toD, b.toD] + 4 < n := by simp only [D.szL]; omega
  simp only [entry_orders, q_orders, Tree.holds, Out.den, E.den, E.denL, den1, den2, den3, den4, den5, den6, den7, den8, Bool.not_eq_true', Bool.not_eq_false', List.getD_cons_zero, List.getD_cons_succ, true_and, and_true, List.length_map, phi_1000, phi_parts, phi_many, phi_vcmp, phi_rcmp, phi_equal, phi_requal, phi_awake, phi_orders, pre_rcmp, o1, o2, o3, o4, o5, o6, o7, row_at0, row_at1]
  simp
end Go.Proofs.YtaeeblcdggjokaaGreatDoor.Vk
/- The law ValueOrders: whatever is handed in, the law's function answers true and leaves it as it was. Conditions: those of the row alone. -/
namespace Go.Proofs.YtaeeblcdggjokaaGreatDoor.VkValueOrders
open Go Go.Ab Go.RowKit Go.ChangeShapes Go.WideShapes Go.ChangeAt Go.Proofs.YtaeeblcdggjokaaGreatDoor.Vk
set_option maxRecDepth 100000
set_option linter.unusedVariables false
set_option linter.unusedSimpArgs false
set_option linter.unusedSectionVars false
set_option linter.constructorNameAsVariable false

theorem own : ownKnob Tryz.prog.godebug = none := by kernel_rfl
theorem laidOut : laidOutB Tryz.prog = true := by kernel_rfl
theorem met {W : World} (h : laidMetH Tryz.prog Rows.valueOrdersRow.laid W) : TabsMet tabs W := by
  rw [MakeChecks.laidMetH_plain _ _ _ (by kernel_rfl)] at h
  obtain ⟨ps, h, _, _⟩ := h
  haveI : Interp := ⟨fun _ _ => .nil⟩
  exact tabs_of_laid h
theorem tbIs : tbOk Tryz.prog tb = true := by kernel_rfl
theorem argsAre : argsOk Tryz.prog tb Tryz.f5.params.toList q_orders.args = true := by kernel_rfl

theorem trodAll_len {H : Type} {enc : TypeId × Value → H} {P : Program} {w : World} {sp : Nat → Bool} {held : Bool} : ∀ {ts : List TypeId} {vs : List Value} {ds : List (DataW H)} {ps : List MemPlace}, DataW.TrodAll enc P w 0 sp held ts vs ds ps → ds.length = ts.length
  | [], [], [], _, _ => rfl
  | t :: ts, v :: vs, d :: ds, ps, h => by
    obtain ⟨p, q, h1, h2, rfl⟩ := h
    rw [List.length_cons, List.length_cons, trodAll_len h2]
  | [], [], _ :: _, _, h => h.elim
  | [], _ :: _, [], _, h => h.elim
  | [], _ :: _, _ :: _, _, h => h.elim
  | _ :: _, [], [], _, h => h.elim
  | _ :: _, [], _ :: _, _, h => h.elim
  | _ :: _, _ :: _, [], _, h => h.elim

theorem len_two {α : Type} {l : List α} (h : l.length = 2) : ∃ a b, l = [a, b] := by
  match l, h with
  | [a, b], _ => exact ⟨a, b, rfl⟩
theorem len_three {α : Type} {l : List α} (h : l.length = 3) : ∃ a b c, l = [a, b, c] := by
  match l, h with
  | [a, b, c], _ => exact ⟨a, b, c, rfl⟩
theorem contract (H : Type) (enc : TypeId × Value → H) (W : World) (base : Nat) (args : Array Value) (ds gs : List (DataW H)) (before : List MemPlace)
    (hval : ∀ (j : Nat) t v, Tryz.f5.params[j]? = some t → args[j]? = some v → Value.okWide Tryz.prog W .any base t v)
    (hW : DataW.Whole enc Tryz.prog Tryz.f5.params.toList Rows.valueOrdersSpec.vars false W args.toList ds gs before)
    (hR : (DataW.weightsEach Tryz.prog (Tryz.f5.params.toList ++ (OpenSpec.ofChange Rows.valueOrdersSpec).bare.plain.varTypes Tryz.prog) (ds ++ gs)).all (· ≤ reachBytes) = true)
    (hL : laidMetH Tryz.prog Rows.valueOrdersRow.laid W) :
    Calls Tryz.prog 5 args W fun e W' => ∃ v, e = .returned v ∧ Rows.valueOrdersSpec.post enc Tryz.prog Tryz.f5 false true false false W args v W' := by
  have hW' := hW
  obtain ⟨p, q, hA0, hV, rfl, hfz, hnd⟩ := hW
  have hA : DataW.TrodAll enc Tryz.prog W 0 (fun _ => true) true Tryz.f5.params.toList args.toList ds p := hA0
  obtain ⟨rfl, rfl⟩ := trodVars_none hV
  have hw : ∀ m, m ∈ DataW.weightsEach Tryz.prog Tryz.f5.params.toList ds → m ≤ lim := fun m hm => by
    have h1 : m ∈ DataW.weightsEach Tryz.prog (Tryz.f5.params.toList ++ (OpenSpec.ofChange Rows.valueOrdersSpec).bare.plain.varTypes Tryz.prog) (ds ++ []) := by
      rw [show (OpenSpec.ofChange Rows.valueOrdersSpec).bare.plain.varTypes Tryz.prog = [] from rfl, List.append_nil, List.append_nil]; exact hm
    have h2 := List.all_eq_true.1 hR m h1
    exact Nat.le_trans (of_decide_eq_true h2) (by show 0x7ffffffff000 ≤ lim; decide)
  obtain ⟨xs, hx, hlim⟩ := args_read (P := Tryz.prog) tbIs argsAre (fun j t v h1 h2 => hval j t v (by simpa using h1) (by simpa using h2)) hA hw
  letI := I (4 * D.szL xs + 200)
  have hok := orders_ok (4 * D.szL xs + 200) W (fun _ _ => True) args xs (met hL) (fun _ _ _ _ _ => trivial) hx ⟨by omega, hlim⟩
  refine (callsIn_wide.1 hok).mono fun e' W' hq => ?_
  obtain ⟨v, rfl, hb, hr⟩ := hq
  refine ⟨v, rfl, ?_⟩
  obtain rfl : v = .bool true := by
    have e : @Interp.phi (I (4 * D.szL xs + 200)) q_orders.g xs = bD true := phi_orders _ _
    rw [e] at hr
    have := hr.1
    unfold bD DV at this
    exact this.1
  obtain ⟨d0, d1, rfl⟩ := len_two (trodAll_len hA)
  exact post_true (t := 4) laidOut (by kernel_rfl) (by kernel_rfl) Tryz.underlying4 hW' rfl rfl rfl rfl hb

/- A world for the witness: the settled one, each listed table holding what its initialiser lays. -/
noncomputable def wargs : Array Value := #[.agg #[.int .i64 0, .bool false, .bool false, .string ByteArray.empty, .int .i64 0, .int .u64 0, .string ByteArray.empty, .slice none 0 0, .slice none 0 0], .agg #[.int .i64 0, .bool false, .bool false, .string ByteArray.empty, .int .i64 0, .int .u64 0, .string ByteArray.empty, .slice none 0 0, .slice none 0 0]]
theorem laid_met (os : Os) (args : Array Value) : laidMetH Tryz.prog Rows.valueOrdersRow.laid ((World.laidAll Tryz.prog os Rows.valueOrdersRow.laid).forCall (fun _ _ => 0) ⟨#[], args, []⟩).memory := by
  rw [MakeChecks.laidMetH_plain _ _ _ (by kernel_rfl)]
  exact laidMet_laidAll _ (by kernel_rfl) (by kernel_rfl)
noncomputable def wds (os : Os) {H : Type} (enc : TypeId × Value → H) : List (DataW H) :=
  match DataW.whole enc Tryz.prog ((World.laidAll Tryz.prog os Rows.valueOrdersRow.laid).forCall (fun _ _ => 0) ⟨#[], wargs, []⟩).memory Tryz.f5.params.toList Rows.valueOrdersSpec.vars false wargs.toList 16 with
  | some (ds, _, _) => ds
  | none => []
theorem reads (os : Os) {H : Type} (enc : TypeId × Value → H) : DataW.whole enc Tryz.prog ((World.laidAll Tryz.prog os Rows.valueOrdersRow.laid).forCall (fun _ _ => 0) ⟨#[], wargs, []⟩).memory Tryz.f5.params.toList Rows.valueOrdersSpec.vars false wargs.toList 16 =
    some (wds os enc, [], []) := by kernel_rfl

theorem lifted (os : Os) (started : os.Started) (H : Type) (enc : TypeId × Value → H) (F : Stop.Interp) :
    ReturnsInHanded {} Tryz.checked os 5 .any ((OpenSpec.ofChange Rows.valueOrdersSpec).preRow enc Tryz.prog Tryz.f5 Rows.valueOrdersRow.domain false Rows.valueOrdersRow.laid) (((OpenSpec.ofChange Rows.valueOrdersSpec).at F).post enc Tryz.prog Tryz.f5 false true false false) := by
  refine returnsInHanded_of_row (C := Tryz.checked) (s := OpenSpec.ofChange Rows.valueOrdersSpec) own started (by kernel_rfl) Tryz.func5
    (witness_row_at (enc := enc) (C := Tryz.checked) false (World.laidAll Tryz.prog os Rows.valueOrdersRow.laid) wargs (World.laidAll_os _ _ _) (by kernel_rfl) (by kernel_rfl) (by kernel_rfl)
      (OpenSpec.preRow_of_cond 16 (reads os enc) (by kernel_rfl) (fun k hk => by cases hk) (by kernel_rfl) (laid_met os _))) ?_
  intro W base args ds gs before hval hW _ _ hR hL _ _
  exact contract H enc W base args ds gs before hval hW hR hL

theorem said : Rows.ValueOrdersSaid :=
  OpenClaim.holds_of_cond 5 Tryz.f5 rfl rfl rfl rfl rfl rfl rfl ⟨rfl, rfl, rfl, rfl, rfl⟩ rfl rfl rfl rfl rfl (by kernel_rfl) Tryz.func5 (by kernel_rfl)
    (of_decide_eq_true (by kernel_rfl)) (by unfold Func.isWrapper; first | (rw [if_pos (by decide +kernel)]; kernel_rfl) | (rw [if_neg (by decide +kernel)]; exact ⟨rfl, rfl⟩))
    (fun os started H enc _ F => by rw [OpenClaim.pre_eq_preRow]; exact lifted os started H enc F)

theorem plain (f : FuncId) (fn : Func) (hf : Tryz.pinned.checked.prog.funcNamed "calamus/calamuslaw04.ValueOrders" = some f) (hfn : Tryz.pinned.checked.prog.funcs[f]? = some fn) :
    false = Tryz.pinned.checked.prog.looks [] ∧ ∀ (j : Nat) t, fn.params[j]? = some t → Tryz.pinned.checked.prog.wantsStandIn t = false := by
  obtain rfl : f = 5 := Option.some.inj ((show Tryz.prog.funcNamed "calamus/calamuslaw04.ValueOrders" = some 5 by kernel_rfl).symm.trans hf) |>.symm
  obtain rfl : fn = Tryz.f5 := (Option.some.inj (Tryz.func5.symm.trans hfn)).symm
  refine ⟨by kernel_rfl, fun j t ht => ?_⟩
  have h : (Tryz.f5.params.all fun t => !Tryz.prog.wantsStandIn t) = true := by kernel_rfl
  have := Array.all_eq_true_iff_forall_mem.1 h t (Array.mem_of_getElem? ht)
  show Tryz.prog.wantsStandIn t = false
  simpa using this

/-- THE CARD. -/
theorem card : Rows.ValueOrdersCardSaid :=
  Claim7.holds_tied_plain_at .later [] _ _ _ _ said (fun _ h => by cases h) (by kernel_rfl) (fun _ h => by cases h) valueOrders_row_tie rfl ⟨rfl, rfl⟩ (by kernel_rfl) rfl plain (by kernel_rfl)
end Go.Proofs.YtaeeblcdggjokaaGreatDoor.VkValueOrders
