/- Contracts: strings.Compare, strings.Repeat, num.Cmp, value.pairs. -/
import Derived.Test.YtaeeblcdggjokaaDoorVkO1
import Derived.Lib.Repeat
namespace Go.Proofs.YtaeeblcdggjokaaDoor.Vk
open Go Go.Ab Go.RowKit
set_option maxRecDepth 100000
set_option linter.unusedVariables false
set_option linter.unusedSimpArgs false
set_option linter.unusedSectionVars false
set_option linter.constructorNameAsVariable false
theorem scmp_ok (n : Nat) : @Ok (I n) q_scmp (okD n) := by
  letI := I n
  refine ok_scalar (t := .i .i64) rfl fun W vs ds hL ha hp => ?_
  obtain ⟨v, u, d, e, rfl, rfl, h1, h2⟩ := args_two ha
  obtain ⟨s, rfl, rfl⟩ := arg_str h1
  obtain ⟨t, rfl, rfl⟩ := arg_str h2
  refine (Tryd.strings_Compare s t W).mono ?_
  rintro e W' ⟨rfl, rfl⟩
  exact ⟨_, rfl, Below.refl _ _, phi_scmp n s t, rfl⟩
theorem arg_int {C : Nat → Nat → Option Value} {J : Nat → Nat → Prop} {v : Value} {d : D} (h : ArgR (kn [] tb).shape C J (.cell (.sc (.i .i64))) v d) : ∃ i : Int, v = .int .i64 i ∧ d = iD i := by
  obtain ⟨h1, h2⟩ := h
  obtain ⟨z, rfl⟩ := fits_int h2
  unfold DV at h1
  exact ⟨z, h1.1, rfl⟩
theorem zer_eq (c : Nat) : zer (c : Int) = ⟨(Lib.repeatL one.data.toList c).toArray⟩ := by
  unfold zer
  have : ∀ c : Nat, List.replicate c (48 : UInt8) = Lib.repeatL one.data.toList c := by
    intro c
    induction c with
    | zero => rfl
    | succ c ih => rw [List.replicate_succ, ih]; rfl
  rw [Int.toNat_natCast, this]
theorem repeat_ok (n : Nat) : @Ok (I n) q_repeat (@okS (I n) n q_repeat.g) := by
  letI := I n
  refine ok_scalar (t := .s) rfl fun W vs ds hL ha hp => ?_
  obtain ⟨v, u, d, e, rfl, rfl, ⟨h1, h3⟩, h2⟩ := args_two ha
  obtain ⟨i, rfl, rfl⟩ := arg_int h2
  subst h1 h3
  have hi := (pre_repeat n _ i).1 (hp.2 rfl)
  obtain ⟨c, rfl⟩ : ∃ c : Nat, i = c := ⟨i.toNat, by omega⟩
  refine (Tryd.strings_Repeat one c W (by omega) (by show 1 * c ≤ _; omega)).mono ?_
  rintro e W' ⟨rfl, hb⟩
  exact ⟨_, rfl, hb, by rw [← zer_eq]; exact phi_repeat n _ _, rfl⟩
/-! ### num.level -/
theorem bif_iD (c : Bool) (x y : Int) : (bif c then iD x else iD y) = iD (if c = true then x else y) := by cases c <;> rfl
theorem zer_size (i : Int) : (zer i).size = i.toNat := by
  unfold zer
  show (List.replicate i.toNat (48 : UInt8)).toArray.size = _
  simp
theorem cat_size (a b : ByteArray) : (a ++ b).size = a.size + b.size := ByteArray.size_append
theorem levX_le (e e' : Int) : levX e e' ≤ e ∧ levX e e' ≤ e' ∧ (levX e e' = e ∨ levX e e' = e') := by
  unfold levX; split <;> omega
/-- calamus/num.level: func 87, params [37, 37], ntmps 49. -/
def heads_level : List Hd := []
def entry_level : Tree :=
  (.giv (.app 1000 [(.lit (.string (mkS [48]))), (.pr (.iop .sub .i64) [(.pr (.cell 2) [(.var 0)]), (.pr .ite [(.pr (.icmp .lss) [(.pr (.cell 2) [(.var 1)]), (.pr (.cell 2) [(.var 0)])]), (.pr (.cell 2) [(.var 1)]), (.pr (.cell 2) [(.var 0)])])])])
    (.giv (.app 2020 [(.lit (.string (mkS [48]))), (.pr (.iop .sub .i64) [(.pr (.cell 2) [(.var 0)]), (.pr .ite [(.pr (.icmp .lss) [(.pr (.cell 2) [(.var 1)]), (.pr (.cell 2) [(.var 0)])]), (.pr (.cell 2) [(.var 1)]), (.pr (.cell 2) [(.var 0)])])])])
      (.giv (.pr (.icmp .leq) [(.pr .slen [(.pr (.cell 1) [(.var 0)])]), (.lit (.int .i64 1099511627776))])
        (.giv (.pr (.icmp .leq) [(.pr .slen [(.app 20 [(.lit (.string (mkS [48]))), (.pr (.iop .sub .i64) [(.pr (.cell 2) [(.var 0)]), (.pr .ite [(.pr (.icmp .lss) [(.pr (.cell 2) [(.var 1)]), (.pr (.cell 2) [(.var 0)])]), (.pr (.cell 2) [(.var 1)]), (.pr (.cell 2) [(.var 0)])])])])]), (.lit (.int .i64 1099511627776))])
          (.giv (.app 1000 [(.lit (.string (mkS [48]))), (.pr (.iop .sub .i64) [(.pr (.cell 2) [(.var 1)]), (.pr .ite [(.pr (.icmp .lss) [(.pr (.cell 2) [(.var 1)]), (.pr (.cell 2) [(.var 0)])]), (.pr (.cell 2) [(.var 1)]), (.pr (.cell 2) [(.var 0)])])])])
            (.giv (.app 2020 [(.lit (.string (mkS [48]))), (.pr (.iop .sub .i64) [(.pr (.cell 2) [(.var 1)]), (.pr .ite [(.pr (.icmp .lss) [(.pr (.cell 2) [(.var 1)]), (.pr (.cell 2) [(.var 0)])]), (.pr (.cell 2) [(.var 1)]), (.pr (.cell 2) [(.var 0)])])])])
              (.giv (.pr (.icmp .leq) [(.pr .slen [(.pr (.cell 1) [(.var 1)])]), (.lit (.int .i64 1099511627776))])
                (.giv (.pr (.icmp .leq) [(.pr .slen [(.app 20 [(.lit (.string (mkS [48]))), (.pr (.iop .sub .i64) [(.pr (.cell 2) [(.var 1)]), (.pr .ite [(.pr (.icmp .lss) [(.pr (.cell 2) [(.var 1)]), (.pr (.cell 2) [(.var 0)])]), (.pr (.cell 2) [(.var 1)]), (.pr (.cell 2) [(.var 0)])])])])]), (.lit (.int .i64 1099511627776))])
                  (.giv (.app 1000 [(.lit (.string (mkS [48]))), (.pr .ite [(.pr (.icmp .gtr) [(.pr (.iop .sub .i64) [(.pr .slen [(.pr .scat [(.pr (.cell 1) [(.var 1)]), (.app 20 [(.lit (.string (mkS [48]))), (.pr (.iop .sub .i64) [(.pr (.cell 2) [(.var 1)]), (.pr .ite [(.pr (.icmp .lss) [(.pr (.cell 2) [(.var 1)]), (.pr (.cell 2) [(.var 0)])]), (.pr (.cell 2) [(.var 1)]), (.pr (.cell 2) [(.var 0)])])])])])]), (.pr .slen [(.pr .scat [(.pr (.cell 1) [(.var 0)]), (.app 20 [(.lit (.string (mkS [48]))), (.pr (.iop .sub .i64) [(.pr (.cell 2) [(.var 0)]), (.pr .ite [(.pr (.icmp .lss) [(.pr (.cell 2) [(.var 1)]), (.pr (.cell 2) [(.var 0)])]), (.pr (.cell 2) [(.var 1)]), (.pr (.cell 2) [(.var 0)])])])])])])]), (.lit (.int .i64 0))]), (.pr (.iop .sub .i64) [(.pr .slen [(.pr .scat [(.pr (.cell 1) [(.var 1)]), (.app 20 [(.lit (.string (mkS [48]))), (.pr (.iop .sub .i64) [(.pr (.cell 2) [(.var 1)]), (.pr .ite [(.pr (.icmp .lss) [(.pr (.cell 2) [(.var 1)]), (.pr (.cell 2) [(.var 0)])]), (.pr (.cell 2) [(.var 1)]), (.pr (.cell 2) [(.var 0)])])])])])]), (.pr .slen [(.pr .scat [(.pr (.cell 1) [(.var 0)]), (.app 20 [(.lit (.string (mkS [48]))), (.pr (.iop .sub .i64) [(.pr (.cell 2) [(.var 0)]), (.pr .ite [(.pr (.icmp .lss) [(.pr (.cell 2) [(.var 1)]), (.pr (.cell 2) [(.var 0)])]), (.pr (.cell 2) [(.var 1)]), (.pr (.cell 2) [(.var 0)])])])])])])]), (.lit (.int .i64 0))])])
                    (.giv (.app 2020 [(.lit (.string (mkS [48]))), (.pr .ite [(.pr (.icmp .gtr) [(.pr (.iop .sub .i64) [(.pr .slen [(.pr .scat [(.pr (.cell 1) [(.var 1)]), (.app 20 [(.lit (.string (mkS [48]))), (.pr (.iop .sub .i64) [(.pr (.cell 2) [(.var 1)]), (.pr .ite [(.pr (.icmp .lss) [(.pr (.cell 2) [(.var 1)]), (.pr (.cell 2) [(.var 0)])]), (.pr (.cell 2) [(.var 1)]), (.pr (.cell 2) [(.var 0)])])])])])]), (.pr .slen [(.pr .scat [(.pr (.cell 1) [(.var 0)]), (.app 20 [(.lit (.string (mkS [48]))), (.pr (.iop .sub .i64) [(.pr (.cell 2) [(.var 0)]), (.pr .ite [(.pr (.icmp .lss) [(.pr (.cell 2) [(.var 1)]), (.pr (.cell 2) [(.var 0)])]), (.pr (.cell 2) [(.var 1)]), (.pr (.cell 2) [(.var 0)])])])])])])]), (.lit (.int .i64 0))]), (.pr (.iop .sub .i64) [(.pr .slen [(.pr .scat [(.pr (.cell 1) [(.var 1)]), (.app 20 [(.lit (.string (mkS [48]))), (.pr (.iop .sub .i64) [(.pr (.cell 2) [(.var 1)]), (.pr .ite [(.pr (.icmp .lss) [(.pr (.cell 2) [(.var 1)]), (.pr (.cell 2) [(.var 0)])]), (.pr (.cell 2) [(.var 1)]), (.pr (.cell 2) [(.var 0)])])])])])]), (.pr .slen [(.pr .scat [(.pr (.cell 1) [(.var 0)]), (.app 20 [(.lit (.string (mkS [48]))), (.pr (.iop .sub .i64) [(.pr (.cell 2) [(.var 0)]), (.pr .ite [(.pr (.icmp .lss) [(.pr (.cell 2) [(.var 1)]), (.pr (.cell 2) [(.var 0)])]), (.pr (.cell 2) [(.var 1)]), (.pr (.cell 2) [(.var 0)])])])])])])]), (.lit (.int .i64 0))])])
                      (.giv (.pr (.icmp .leq) [(.pr .slen [(.app 20 [(.lit (.string (mkS [48]))), (.pr .ite [(.pr (.icmp .gtr) [(.pr (.iop .sub .i64) [(.pr .slen [(.pr .scat [(.pr (.cell 1) [(.var 1)]), (.app 20 [(.lit (.string (mkS [48]))), (.pr (.iop .sub .i64) [(.pr (.cell 2) [(.var 1)]), (.pr .ite [(.pr (.icmp .lss) [(.pr (.cell 2) [(.var 1)]), (.pr (.cell 2) [(.var 0)])]), (.pr (.cell 2) [(.var 1)]), (.pr (.cell 2) [(.var 0)])])])])])]), (.pr .slen [(.pr .scat [(.pr (.cell 1) [(.var 0)]), (.app 20 [(.lit (.string (mkS [48]))), (.pr (.iop .sub .i64) [(.pr (.cell 2) [(.var 0)]), (.pr .ite [(.pr (.icmp .lss) [(.pr (.cell 2) [(.var 1)]), (.pr (.cell 2) [(.var 0)])]), (.pr (.cell 2) [(.var 1)]), (.pr (.cell 2) [(.var 0)])])])])])])]), (.lit (.int .i64 0))]), (.pr (.iop .sub .i64) [(.pr .slen [(.pr .scat [(.pr (.cell 1) [(.var 1)]), (.app 20 [(.lit (.string (mkS [48]))), (.pr (.iop .sub .i64) [(.pr (.cell 2) [(.var 1)]), (.pr .ite [(.pr (.icmp .lss) [(.pr (.cell 2) [(.var 1)]), (.pr (.cell 2) [(.var 0)])]), (.pr (.cell 2) [(.var 1)]), (.pr (.cell 2) [(.var 0)])])])])])]), (.pr .slen [(.pr .scat [(.pr (.cell 1) [(.var 0)]), (.app 20 [(.lit (.string (mkS [48]))), (.pr (.iop .sub .i64) [(.pr (.cell 2) [(.var 0)]), (.pr .ite [(.pr (.icmp .lss) [(.pr (.cell 2) [(.var 1)]), (.pr (.cell 2) [(.var 0)])]), (.pr (.cell 2) [(.var 1)]), (.pr (.cell 2) [(.var 0)])])])])])])]), (.lit (.int .i64 0))])])]), (.lit (.int .i64 1099511627776))])
                        (.giv (.pr (.icmp .leq) [(.pr .slen [(.pr .scat [(.pr (.cell 1) [(.var 0)]), (.app 20 [(.lit (.string (mkS [48]))), (.pr (.iop .sub .i64) [(.pr (.cell 2) [(.var 0)]), (.pr .ite [(.pr (.icmp .lss) [(.pr (.cell 2) [(.var 1)]), (.pr (.cell 2) [(.var 0)])]), (.pr (.cell 2) [(.var 1)]), (.pr (.cell 2) [(.var 0)])])])])])]), (.lit (.int .i64 1099511627776))])
                          (.giv (.app 1000 [(.lit (.string (mkS [48]))), (.pr .ite [(.pr (.icmp .gtr) [(.pr (.iop .sub .i64) [(.pr .slen [(.pr .scat [(.app 20 [(.lit (.string (mkS [48]))), (.pr .ite [(.pr (.icmp .gtr) [(.pr (.iop .sub .i64) [(.pr .slen [(.pr .scat [(.pr (.cell 1) [(.var 1)]), (.app 20 [(.lit (.string (mkS [48]))), (.pr (.iop .sub .i64) [(.pr (.cell 2) [(.var 1)]), (.pr .ite [(.pr (.icmp .lss) [(.pr (.cell 2) [(.var 1)]), (.pr (.cell 2) [(.var 0)])]), (.pr (.cell 2) [(.var 1)]), (.pr (.cell 2) [(.var 0)])])])])])]), (.pr .slen [(.pr .scat [(.pr (.cell 1) [(.var 0)]), (.app 20 [(.lit (.string (mkS [48]))), (.pr (.iop .sub .i64) [(.pr (.cell 2) [(.var 0)]), (.pr .ite [(.pr (.icmp .lss) [(.pr (.cell 2) [(.var 1)]), (.pr (.cell 2) [(.var 0)])]), (.pr (.cell 2) [(.var 1)]), (.pr (.cell 2) [(.var 0)])])])])])])]), (.lit (.int .i64 0))]), (.pr (.iop .sub .i64) [(.pr .slen [(.pr .scat [(.pr (.cell 1) [(.var 1)]), (.app 20 [(.lit (.string (mkS [48]))), (.pr (.iop .sub .i64) [(.pr (.cell 2) [(.var 1)]), (.pr .ite [(.pr (.icmp .lss) [(.pr (.cell 2) [(.var 1)]), (.pr (.cell 2) [(.var 0)])]), (.pr (.cell 2) [(.var 1)]), (.pr (.cell 2) [(.var 0)])])])])])]), (.pr .slen [(.pr .scat [(.pr (.cell 1) [(.var 0)]), (.app 20 [(.lit (.string (mkS [48]))), (.pr (.iop .sub .i64) [(.pr (.cell 2) [(.var 0)]), (.pr .ite [(.pr (.icmp .lss) [(.pr (.cell 2) [(.var 1)]), (.pr (.cell 2) [(.var 0)])]), (.pr (.cell 2) [(.var 1)]), (.pr (.cell 2) [(.var 0)])])])])])])]), (.lit (.int .i64 0))])]), (.pr .scat [(.pr (.cell 1) [(.var 0)]), (.app 20 [(.lit (.string (mkS [48]))), (.pr (.iop .sub .i64) [(.pr (.cell 2) [(.var 0)]), (.pr .ite [(.pr (.icmp .lss) [(.pr (.cell 2) [(.var 1)]), (.pr (.cell 2) [(.var 0)])]), (.pr (.cell 2) [(.var 1)]), (.pr (.cell 2) [(.var 0)])])])])])])]), (.pr .slen [(.pr .scat [(.pr (.cell 1) [(.var 1)]), (.app 20 [(.lit (.string (mkS [48]))), (.pr (.iop .sub .i64) [(.pr (.cell 2) [(.var 1)]), (.pr .ite [(.pr (.icmp .lss) [(.pr (.cell 2) [(.var 1)]), (.pr (.cell 2) [(.var 0)])]), (.pr (.cell 2) [(.var 1)]), (.pr (.cell 2) [(.var 0)])])])])])])]), (.lit (.int .i64 0))]), (.pr (.iop .sub .i64) [(.pr .slen [(.pr .scat [(.app 20 [(.lit (.string (mkS [48]))), (.pr .ite [(.pr (.icmp .gtr) [(.pr (.iop .sub .i64) [(.pr .slen [(.pr .scat [(.pr (.cell 1) [(.var 1)]), (.app 20 [(.lit (.string (mkS [48]))), (.pr (.iop .sub .i64) [(.pr (.cell 2) [(.var 1)]), (.pr .ite [(.pr (.icmp .lss) [(.pr (.cell 2) [(.var 1)]), (.pr (.cell 2) [(.var 0)])]), (.pr (.cell 2) [(.var 1)]), (.pr (.cell 2) [(.var 0)])])])])])]), (.pr .slen [(.pr .scat [(.pr (.cell 1) [(.var 0)]), (.app 20 [(.lit (.string (mkS [48]))), (.pr (.iop .sub .i64) [(.pr (.cell 2) [(.var 0)]), (.pr .ite [(.pr (.icmp .lss) [(.pr (.cell 2) [(.var 1)]), (.pr (.cell 2) [(.var 0)])]), (.pr (.cell 2) [(.var 1)]), (.pr (.cell 2) [(.var 0)])])])])])])]), (.lit (.int .i64 0))]), (.pr (.iop .sub .i64) [(.pr .slen [(.pr .scat [(.pr (.cell 1) [(.var 1)]), (.app 20 [(.lit (.string (mkS [48]))), (.pr (.iop .sub .i64) [(.pr (.cell 2) [(.var 1)]), (.pr .ite [(.pr (.icmp .lss) [(.pr (.cell 2) [(.var 1)]), (.pr (.cell 2) [(.var 0)])]), (.pr (.cell 2) [(.var 1)]), (.pr (.cell 2) [(.var 0)])])])])])]), (.pr .slen [(.pr .scat [(.pr (.cell 1) [(.var 0)]), (.app 20 [(.lit (.string (mkS [48]))), (.pr (.iop .sub .i64) [(.pr (.cell 2) [(.var 0)]), (.pr .ite [(.pr (.icmp .lss) [(.pr (.cell 2) [(.var 1)]), (.pr (.cell 2) [(.var 0)])]), (.pr (.cell 2) [(.var 1)]), (.pr (.cell 2) [(.var 0)])])])])])])]), (.lit (.int .i64 0))])]), (.pr .scat [(.pr (.cell 1) [(.var 0)]), (.app 20 [(.lit (.string (mkS [48]))), (.pr (.iop .sub .i64) [(.pr (.cell 2) [(.var 0)]), (.pr .ite [(.pr (.icmp .lss) [(.pr (.cell 2) [(.var 1)]), (.pr (.cell 2) [(.var 0)])]), (.pr (.cell 2) [(.var 1)]), (.pr (.cell 2) [(.var 0)])])])])])])]), (.pr .slen [(.pr .scat [(.pr (.cell 1) [(.var 1)]), (.app 20 [(.lit (.string (mkS [48]))), (.pr (.iop .sub .i64) [(.pr (.cell 2) [(.var 1)]), (.pr .ite [(.pr (.icmp .lss) [(.pr (.cell 2) [(.var 1)]), (.pr (.cell 2) [(.var 0)])]), (.pr (.cell 2) [(.var 1)]), (.pr (.cell 2) [(.var 0)])])])])])])]), (.lit (.int .i64 0))])])
                            (.giv (.app 2020 [(.lit (.string (mkS [48]))), (.pr .ite [(.pr (.icmp .gtr) [(.pr (.iop .sub .i64) [(.pr .slen [(.pr .scat [(.app 20 [(.lit (.string (mkS [48]))), (.pr .ite [(.pr (.icmp .gtr) [(.pr (.iop .sub .i64) [(.pr .slen [(.pr .scat [(.pr (.cell 1) [(.var 1)]), (.app 20 [(.lit (.string (mkS [48]))), (.pr (.iop .sub .i64) [(.pr (.cell 2) [(.var 1)]), (.pr .ite [(.pr (.icmp .lss) [(.pr (.cell 2) [(.var 1)]), (.pr (.cell 2) [(.var 0)])]), (.pr (.cell 2) [(.var 1)]), (.pr (.cell 2) [(.var 0)])])])])])]), (.pr .slen [(.pr .scat [(.pr (.cell 1) [(.var 0)]), (.app 20 [(.lit (.string (mkS [48]))), (.pr (.iop .sub .i64) [(.pr (.cell 2) [(.var 0)]), (.pr .ite [(.pr (.icmp .lss) [(.pr (.cell 2) [(.var 1)]), (.pr (.cell 2) [(.var 0)])]), (.pr (.cell 2) [(.var 1)]), (.pr (.cell 2) [(.var 0)])])])])])])]), (.lit (.int .i64 0))]), (.pr (.iop .sub .i64) [(.pr .slen [(.pr .scat [(.pr (.cell 1) [(.var 1)]), (.app 20 [(.lit (.string (mkS [48]))), (.pr (.iop .sub .i64) [(.pr (.cell 2) [(.var 1)]), (.pr .ite [(.pr (.icmp .lss) [(.pr (.cell 2) [(.var 1)]), (.pr (.cell 2) [(.var 0)])]), (.pr (.cell 2) [(.var 1)]), (.pr (.cell 2) [(.var 0)])])])])])]), (.pr .slen [(.pr .scat [(.pr (.cell 1) [(.var 0)]), (.app 20 [(.lit (.string (mkS [48]))), (.pr (.iop .sub .i64) [(.pr (.cell 2) [(.var 0)]), (.pr .ite [(.pr (.icmp .lss) [(.pr (.cell 2) [(.var 1)]), (.pr (.cell 2) [(.var 0)])]), (.pr (.cell 2) [(.var 1)]), (.pr (.cell 2) [(.var 0)])])])])])])]), (.lit (.int .i64 0))])]), (.pr .scat [(.pr (.cell 1) [(.var 0)]), (.app 20 [(.lit (.string (mkS [48]))), (.pr (.iop .sub .i64) [(.pr (.cell 2) [(.var 0)]), (.pr .ite [(.pr (.icmp .lss) [(.pr (.cell 2) [(.var 1)]), (.pr (.cell 2) [(.var 0)])]), (.pr (.cell 2) [(.var 1)]), (.pr (.cell 2) [(.var 0)])])])])])])]), (.pr .slen [(.pr .scat [(.pr (.cell 1) [(.var 1)]), (.app 20 [(.lit (.string (mkS [48]))), (.pr (.iop .sub .i64) [(.pr (.cell 2) [(.var 1)]), (.pr .ite [(.pr (.icmp .lss) [(.pr (.cell 2) [(.var 1)]), (.pr (.cell 2) [(.var 0)])]), (.pr (.cell 2) [(.var 1)]), (.pr (.cell 2) [(.var 0)])])])])])])]), (.lit (.int .i64 0))]), (.pr (.iop .sub .i64) [(.pr .slen [(.pr .scat [(.app 20 [(.lit (.string (mkS [48]))), (.pr .ite [(.pr (.icmp .gtr) [(.pr (.iop .sub .i64) [(.pr .slen [(.pr .scat [(.pr (.cell 1) [(.var 1)]), (.app 20 [(.lit (.string (mkS [48]))), (.pr (.iop .sub .i64) [(.pr (.cell 2) [(.var 1)]), (.pr .ite [(.pr (.icmp .lss) [(.pr (.cell 2) [(.var 1)]), (.pr (.cell 2) [(.var 0)])]), (.pr (.cell 2) [(.var 1)]), (.pr (.cell 2) [(.var 0)])])])])])]), (.pr .slen [(.pr .scat [(.pr (.cell 1) [(.var 0)]), (.app 20 [(.lit (.string (mkS [48]))), (.pr (.iop .sub .i64) [(.pr (.cell 2) [(.var 0)]), (.pr .ite [(.pr (.icmp .lss) [(.pr (.cell 2) [(.var 1)]), (.pr (.cell 2) [(.var 0)])]), (.pr (.cell 2) [(.var 1)]), (.pr (.cell 2) [(.var 0)])])])])])])]), (.lit (.int .i64 0))]), (.pr (.iop .sub .i64) [(.pr .slen [(.pr .scat [(.pr (.cell 1) [(.var 1)]), (.app 20 [(.lit (.string (mkS [48]))), (.pr (.iop .sub .i64) [(.pr (.cell 2) [(.var 1)]), (.pr .ite [(.pr (.icmp .lss) [(.pr (.cell 2) [(.var 1)]), (.pr (.cell 2) [(.var 0)])]), (.pr (.cell 2) [(.var 1)]), (.pr (.cell 2) [(.var 0)])])])])])]), (.pr .slen [(.pr .scat [(.pr (.cell 1) [(.var 0)]), (.app 20 [(.lit (.string (mkS [48]))), (.pr (.iop .sub .i64) [(.pr (.cell 2) [(.var 0)]), (.pr .ite [(.pr (.icmp .lss) [(.pr (.cell 2) [(.var 1)]), (.pr (.cell 2) [(.var 0)])]), (.pr (.cell 2) [(.var 1)]), (.pr (.cell 2) [(.var 0)])])])])])])]), (.lit (.int .i64 0))])]), (.pr .scat [(.pr (.cell 1) [(.var 0)]), (.app 20 [(.lit (.string (mkS [48]))), (.pr (.iop .sub .i64) [(.pr (.cell 2) [(.var 0)]), (.pr .ite [(.pr (.icmp .lss) [(.pr (.cell 2) [(.var 1)]), (.pr (.cell 2) [(.var 0)])]), (.pr (.cell 2) [(.var 1)]), (.pr (.cell 2) [(.var 0)])])])])])])]), (.pr .slen [(.pr .scat [(.pr (.cell 1) [(.var 1)]), (.app 20 [(.lit (.string (mkS [48]))), (.pr (.iop .sub .i64) [(.pr (.cell 2) [(.var 1)]), (.pr .ite [(.pr (.icmp .lss) [(.pr (.cell 2) [(.var 1)]), (.pr (.cell 2) [(.var 0)])]), (.pr (.cell 2) [(.var 1)]), (.pr (.cell 2) [(.var 0)])])])])])])]), (.lit (.int .i64 0))])])
                              (.giv (.pr (.icmp .leq) [(.pr .slen [(.app 20 [(.lit (.string (mkS [48]))), (.pr .ite [(.pr (.icmp .gtr) [(.pr (.iop .sub .i64) [(.pr .slen [(.pr .scat [(.app 20 [(.lit (.string (mkS [48]))), (.pr .ite [(.pr (.icmp .gtr) [(.pr (.iop .sub .i64) [(.pr .slen [(.pr .scat [(.pr (.cell 1) [(.var 1)]), (.app 20 [(.lit (.string (mkS [48]))), (.pr (.iop .sub .i64) [(.pr (.cell 2) [(.var 1)]), (.pr .ite [(.pr (.icmp .lss) [(.pr (.cell 2) [(.var 1)]), (.pr (.cell 2) [(.var 0)])]), (.pr (.cell 2) [(.var 1)]), (.pr (.cell 2) [(.var 0)])])])])])]), (.pr .slen [(.pr .scat [(.pr (.cell 1) [(.var 0)]), (.app 20 [(.lit (.string (mkS [48]))), (.pr (.iop .sub .i64) [(.pr (.cell 2) [(.var 0)]), (.pr .ite [(.pr (.icmp .lss) [(.pr (.cell 2) [(.var 1)]), (.pr (.cell 2) [(.var 0)])]), (.pr (.cell 2) [(.var 1)]), (.pr (.cell 2) [(.var 0)])])])])])])]), (.lit (.int .i64 0))]), (.pr (.iop .sub .i64) [(.pr .slen [(.pr .scat [(.pr (.cell 1) [(.var 1)]), (.app 20 [(.lit (.string (mkS [48]))), (.pr (.iop .sub .i64) [(.pr (.cell 2) [(.var 1)]), (.pr .ite [(.pr (.icmp .lss) [(.pr (.cell 2) [(.var 1)]), (.pr (.cell 2) [(.var 0)])]), (.pr (.cell 2) [(.var 1)]), (.pr (.cell 2) [(.var 0)])])])])])]), (.pr .slen [(.pr .scat [(.pr (.cell 1) [(.var 0)]), (.app 20 [(.lit (.string (mkS [48]))), (.pr (.iop .sub .i64) [(.pr (.cell 2) [(.var 0)]), (.pr .ite [(.pr (.icmp .lss) [(.pr (.cell 2) [(.var 1)]), (.pr (.cell 2) [(.var 0)])]), (.pr (.cell 2) [(.var 1)]), (.pr (.cell 2) [(.var 0)])])])])])])]), (.lit (.int .i64 0))])]), (.pr .scat [(.pr (.cell 1) [(.var 0)]), (.app 20 [(.lit (.string (mkS [48]))), (.pr (.iop .sub .i64) [(.pr (.cell 2) [(.var 0)]), (.pr .ite [(.pr (.icmp .lss) [(.pr (.cell 2) [(.var 1)]), (.pr (.cell 2) [(.var 0)])]), (.pr (.cell 2) [(.var 1)]), (.pr (.cell 2) [(.var 0)])])])])])])]), (.pr .slen [(.pr .scat [(.pr (.cell 1) [(.var 1)]), (.app 20 [(.lit (.string (mkS [48]))), (.pr (.iop .sub .i64) [(.pr (.cell 2) [(.var 1)]), (.pr .ite [(.pr (.icmp .lss) [(.pr (.cell 2) [(.var 1)]), (.pr (.cell 2) [(.var 0)])]), (.pr (.cell 2) [(.var 1)]), (.pr (.cell 2) [(.var 0)])])])])])])]), (.lit (.int .i64 0))]), (.pr (.iop .sub .i64) [(.pr .slen [(.pr .scat [(.app 20 [(.lit (.string (mkS [48]))), (.pr .ite [(.pr (.icmp .gtr) [(.pr (.iop .sub .i64) [(.pr .slen [(.pr .scat [(.pr (.cell 1) [(.var 1)]), (.app 20 [(.lit (.string (mkS [48]))), (.pr (.iop .sub .i64) [(.pr (.cell 2) [(.var 1)]), (.pr .ite [(.pr (.icmp .lss) [(.pr (.cell 2) [(.var 1)]), (.pr (.cell 2) [(.var 0)])]), (.pr (.cell 2) [(.var 1)]), (.pr (.cell 2) [(.var 0)])])])])])]), (.pr .slen [(.pr .scat [(.pr (.cell 1) [(.var 0)]), (.app 20 [(.lit (.string (mkS [48]))), (.pr (.iop .sub .i64) [(.pr (.cell 2) [(.var 0)]), (.pr .ite [(.pr (.icmp .lss) [(.pr (.cell 2) [(.var 1)]), (.pr (.cell 2) [(.var 0)])]), (.pr (.cell 2) [(.var 1)]), (.pr (.cell 2) [(.var 0)])])])])])])]), (.lit (.int .i64 0))]), (.pr (.iop .sub .i64) [(.pr .slen [(.pr .scat [(.pr (.cell 1) [(.var 1)]), (.app 20 [(.lit (.string (mkS [48]))), (.pr (.iop .sub .i64) [(.pr (.cell 2) [(.var 1)]), (.pr .ite [(.pr (.icmp .lss) [(.pr (.cell 2) [(.var 1)]), (.pr (.cell 2) [(.var 0)])]), (.pr (.cell 2) [(.var 1)]), (.pr (.cell 2) [(.var 0)])])])])])]), (.pr .slen [(.pr .scat [(.pr (.cell 1) [(.var 0)]), (.app 20 [(.lit (.string (mkS [48]))), (.pr (.iop .sub .i64) [(.pr (.cell 2) [(.var 0)]), (.pr .ite [(.pr (.icmp .lss) [(.pr (.cell 2) [(.var 1)]), (.pr (.cell 2) [(.var 0)])]), (.pr (.cell 2) [(.var 1)]), (.pr (.cell 2) [(.var 0)])])])])])])]), (.lit (.int .i64 0))])]), (.pr .scat [(.pr (.cell 1) [(.var 0)]), (.app 20 [(.lit (.string (mkS [48]))), (.pr (.iop .sub .i64) [(.pr (.cell 2) [(.var 0)]), (.pr .ite [(.pr (.icmp .lss) [(.pr (.cell 2) [(.var 1)]), (.pr (.cell 2) [(.var 0)])]), (.pr (.cell 2) [(.var 1)]), (.pr (.cell 2) [(.var 0)])])])])])])]), (.pr .slen [(.pr .scat [(.pr (.cell 1) [(.var 1)]), (.app 20 [(.lit (.string (mkS [48]))), (.pr (.iop .sub .i64) [(.pr (.cell 2) [(.var 1)]), (.pr .ite [(.pr (.icmp .lss) [(.pr (.cell 2) [(.var 1)]), (.pr (.cell 2) [(.var 0)])]), (.pr (.cell 2) [(.var 1)]), (.pr (.cell 2) [(.var 0)])])])])])])]), (.lit (.int .i64 0))])])]), (.lit (.int .i64 1099511627776))])
                                (.giv (.pr (.icmp .leq) [(.pr .slen [(.pr .scat [(.pr (.cell 1) [(.var 1)]), (.app 20 [(.lit (.string (mkS [48]))), (.pr (.iop .sub .i64) [(.pr (.cell 2) [(.var 1)]), (.pr .ite [(.pr (.icmp .lss) [(.pr (.cell 2) [(.var 1)]), (.pr (.cell 2) [(.var 0)])]), (.pr (.cell 2) [(.var 1)]), (.pr (.cell 2) [(.var 0)])])])])])]), (.lit (.int .i64 1099511627776))])
                                  (.leaf (.ret (.pr .row [(.pr .scat [(.app 20 [(.lit (.string (mkS [48]))), (.pr .ite [(.pr (.icmp .gtr) [(.pr (.iop .sub .i64) [(.pr .slen [(.pr .scat [(.pr (.cell 1) [(.var 1)]), (.app 20 [(.lit (.string (mkS [48]))), (.pr (.iop .sub .i64) [(.pr (.cell 2) [(.var 1)]), (.pr .ite [(.pr (.icmp .lss) [(.pr (.cell 2) [(.var 1)]), (.pr (.cell 2) [(.var 0)])]), (.pr (.cell 2) [(.var 1)]), (.pr (.cell 2) [(.var 0)])])])])])]), (.pr .slen [(.pr .scat [(.pr (.cell 1) [(.var 0)]), (.app 20 [(.lit (.string (mkS [48]))), (.pr (.iop .sub .i64) [(.pr (.cell 2) [(.var 0)]), (.pr .ite [(.pr (.icmp .lss) [(.pr (.cell 2) [(.var 1)]), (.pr (.cell 2) [(.var 0)])]), (.pr (.cell 2) [(.var 1)]), (.pr (.cell 2) [(.var 0)])])])])])])]), (.lit (.int .i64 0))]), (.pr (.iop .sub .i64) [(.pr .slen [(.pr .scat [(.pr (.cell 1) [(.var 1)]), (.app 20 [(.lit (.string (mkS [48]))), (.pr (.iop .sub .i64) [(.pr (.cell 2) [(.var 1)]), (.pr .ite [(.pr (.icmp .lss) [(.pr (.cell 2) [(.var 1)]), (.pr (.cell 2) [(.var 0)])]), (.pr (.cell 2) [(.var 1)]), (.pr (.cell 2) [(.var 0)])])])])])]), (.pr .slen [(.pr .scat [(.pr (.cell 1) [(.var 0)]), (.app 20 [(.lit (.string (mkS [48]))), (.pr (.iop .sub .i64) [(.pr (.cell 2) [(.var 0)]), (.pr .ite [(.pr (.icmp .lss) [(.pr (.cell 2) [(.var 1)]), (.pr (.cell 2) [(.var 0)])]), (.pr (.cell 2) [(.var 1)]), (.pr (.cell 2) [(.var 0)])])])])])])]), (.lit (.int .i64 0))])]), (.pr .scat [(.pr (.cell 1) [(.var 0)]), (.app 20 [(.lit (.string (mkS [48]))), (.pr (.iop .sub .i64) [(.pr (.cell 2) [(.var 0)]), (.pr .ite [(.pr (.icmp .lss) [(.pr (.cell 2) [(.var 1)]), (.pr (.cell 2) [(.var 0)])]), (.pr (.cell 2) [(.var 1)]), (.pr (.cell 2) [(.var 0)])])])])])]), (.pr .scat [(.app 20 [(.lit (.string (mkS [48]))), (.pr .ite [(.pr (.icmp .gtr) [(.pr (.iop .sub .i64) [(.pr .slen [(.pr .scat [(.app 20 [(.lit (.string (mkS [48]))), (.pr .ite [(.pr (.icmp .gtr) [(.pr (.iop .sub .i64) [(.pr .slen [(.pr .scat [(.pr (.cell 1) [(.var 1)]), (.app 20 [(.lit (.string (mkS [48]))), (.pr (.iop .sub .i64) [(.pr (.cell 2) [(.var 1)]), (.pr .ite [(.pr (.icmp .lss) [(.pr (.cell 2) [(.var 1)]), (.pr (.cell 2) [(.var 0)])]), (.pr (.cell 2) [(.var 1)]), (.pr (.cell 2) [(.var 0)])])])])])]), (.pr .slen [(.pr .scat [(.pr (.cell 1) [(.var 0)]), (.app 20 [(.lit (.string (mkS [48]))), (.pr (.iop .sub .i64) [(.pr (.cell 2) [(.var 0)]), (.pr .ite [(.pr (.icmp .lss) [(.pr (.cell 2) [(.var 1)]), (.pr (.cell 2) [(.var 0)])]), (.pr (.cell 2) [(.var 1)]), (.pr (.cell 2) [(.var 0)])])])])])])]), (.lit (.int .i64 0))]), (.pr (.iop .sub .i64) [(.pr .slen [(.pr .scat [(.pr (.cell 1) [(.var 1)]), (.app 20 [(.lit (.string (mkS [48]))), (.pr (.iop .sub .i64) [(.pr (.cell 2) [(.var 1)]), (.pr .ite [(.pr (.icmp .lss) [(.pr (.cell 2) [(.var 1)]), (.pr (.cell 2) [(.var 0)])]), (.pr (.cell 2) [(.var 1)]), (.pr (.cell 2) [(.var 0)])])])])])]), (.pr .slen [(.pr .scat [(.pr (.cell 1) [(.var 0)]), (.app 20 [(.lit (.string (mkS [48]))), (.pr (.iop .sub .i64) [(.pr (.cell 2) [(.var 0)]), (.pr .ite [(.pr (.icmp .lss) [(.pr (.cell 2) [(.var 1)]), (.pr (.cell 2) [(.var 0)])]), (.pr (.cell 2) [(.var 1)]), (.pr (.cell 2) [(.var 0)])])])])])])]), (.lit (.int .i64 0))])]), (.pr .scat [(.pr (.cell 1) [(.var 0)]), (.app 20 [(.lit (.string (mkS [48]))), (.pr (.iop .sub .i64) [(.pr (.cell 2) [(.var 0)]), (.pr .ite [(.pr (.icmp .lss) [(.pr (.cell 2) [(.var 1)]), (.pr (.cell 2) [(.var 0)])]), (.pr (.cell 2) [(.var 1)]), (.pr (.cell 2) [(.var 0)])])])])])])]), (.pr .slen [(.pr .scat [(.pr (.cell 1) [(.var 1)]), (.app 20 [(.lit (.string (mkS [48]))), (.pr (.iop .sub .i64) [(.pr (.cell 2) [(.var 1)]), (.pr .ite [(.pr (.icmp .lss) [(.pr (.cell 2) [(.var 1)]), (.pr (.cell 2) [(.var 0)])]), (.pr (.cell 2) [(.var 1)]), (.pr (.cell 2) [(.var 0)])])])])])])]), (.lit (.int .i64 0))]), (.pr (.iop .sub .i64) [(.pr .slen [(.pr .scat [(.app 20 [(.lit (.string (mkS [48]))), (.pr .ite [(.pr (.icmp .gtr) [(.pr (.iop .sub .i64) [(.pr .slen [(.pr .scat [(.pr (.cell 1) [(.var 1)]), (.app 20 [(.lit (.string (mkS [48]))), (.pr (.iop .sub .i64) [(.pr (.cell 2) [(.var 1)]), (.pr .ite [(.pr (.icmp .lss) [(.pr (.cell 2) [(.var 1)]), (.pr (.cell 2) [(.var 0)])]), (.pr (.cell 2) [(.var 1)]), (.pr (.cell 2) [(.var 0)])])])])])]), (.pr .slen [(.pr .scat [(.pr (.cell 1) [(.var 0)]), (.app 20 [(.lit (.string (mkS [48]))), (.pr (.iop .sub .i64) [(.pr (.cell 2) [(.var 0)]), (.pr .ite [(.pr (.icmp .lss) [(.pr (.cell 2) [(.var 1)]), (.pr (.cell 2) [(.var 0)])]), (.pr (.cell 2) [(.var 1)]), (.pr (.cell 2) [(.var 0)])])])])])])]), (.lit (.int .i64 0))]), (.pr (.iop .sub .i64) [(.pr .slen [(.pr .scat [(.pr (.cell 1) [(.var 1)]), (.app 20 [(.lit (.string (mkS [48]))), (.pr (.iop .sub .i64) [(.pr (.cell 2) [(.var 1)]), (.pr .ite [(.pr (.icmp .lss) [(.pr (.cell 2) [(.var 1)]), (.pr (.cell 2) [(.var 0)])]), (.pr (.cell 2) [(.var 1)]), (.pr (.cell 2) [(.var 0)])])])])])]), (.pr .slen [(.pr .scat [(.pr (.cell 1) [(.var 0)]), (.app 20 [(.lit (.string (mkS [48]))), (.pr (.iop .sub .i64) [(.pr (.cell 2) [(.var 0)]), (.pr .ite [(.pr (.icmp .lss) [(.pr (.cell 2) [(.var 1)]), (.pr (.cell 2) [(.var 0)])]), (.pr (.cell 2) [(.var 1)]), (.pr (.cell 2) [(.var 0)])])])])])])]), (.lit (.int .i64 0))])]), (.pr .scat [(.pr (.cell 1) [(.var 0)]), (.app 20 [(.lit (.string (mkS [48]))), (.pr (.iop .sub .i64) [(.pr (.cell 2) [(.var 0)]), (.pr .ite [(.pr (.icmp .lss) [(.pr (.cell 2) [(.var 1)]), (.pr (.cell 2) [(.var 0)])]), (.pr (.cell 2) [(.var 1)]), (.pr (.cell 2) [(.var 0)])])])])])])]), (.pr .slen [(.pr .scat [(.pr (.cell 1) [(.var 1)]), (.app 20 [(.lit (.string (mkS [48]))), (.pr (.iop .sub .i64) [(.pr (.cell 2) [(.var 1)]), (.pr .ite [(.pr (.icmp .lss) [(.pr (.cell 2) [(.var 1)]), (.pr (.cell 2) [(.var 0)])]), (.pr (.cell 2) [(.var 1)]), (.pr (.cell 2) [(.var 0)])])])])])])]), (.lit (.int .i64 0))])]), (.pr .scat [(.pr (.cell 1) [(.var 1)]), (.app 20 [(.lit (.string (mkS [48]))), (.pr (.iop .sub .i64) [(.pr (.cell 2) [(.var 1)]), (.pr .ite [(.pr (.icmp .lss) [(.pr (.cell 2) [(.var 1)]), (.pr (.cell 2) [(.var 0)])]), (.pr (.cell 2) [(.var 1)]), (.pr (.cell 2) [(.var 0)])])])])])]), (.pr .ite [(.pr (.icmp .lss) [(.pr (.cell 2) [(.var 1)]), (.pr (.cell 2) [(.var 0)])]), (.pr (.cell 2) [(.var 1)]), (.pr (.cell 2) [(.var 0)])])])))))))))))))))))))
def trees_level : List Tree := []
noncomputable def deps_level : List Sig := [q_repeat]
theorem ok_level : check q_level deps_level heads_level entry_level trees_level = true := by kernel_rfl
theorem level_ok (n : Nat) : @Ok (I n) q_level (@okS (I n) n q_level.g) := by
  letI := I n
  refine fn_okS (hphi n) ok_level (by
    intro q hq
    simp only [deps_level, List.mem_singleton] at hq
    subst hq
    exact repeat_ok n) (fun _ _ _ => False) (fun _ _ => 0) ?_ (fun j h t d ds hj => by simp [heads_level] at hj)
  intro ds hf hp
  obtain ⟨a, d, e, a', d', e', rfl⟩ := num_two hf
  obtain ⟨p1, p2, p3, p4, p5, p6⟩ := (pre_level n _ _ _ _ _ _).1 (hp.2 rfl)
  obtain ⟨⟨h1, h2, h3⟩⟩ := And.intro (okD_two.1 hp.1) trivial
  simp only [D.sz, D.szL] at h1
  obtain ⟨x1, x2, x3⟩ := levX_le e e'
  have hx : (if (ltI e' e = true) then e' else e) = levX e e' := by unfold levX; simp only [ltI_t]
  have hr : ∀ i : Int, 0 ≤ i → i ≤ 1000000 → okD n [sD (mkS [48]), iD i] := fun i _ _ => okD_two.2 ⟨by simp only [D.sz]; omega, by simp only [D.Lim]; decide, trivial⟩
  have w1 : IntKind.i64.wrap (e - levX e e') = e - levX e e' := wrap_id (by omega) (by omega)
  have w2 : IntKind.i64.wrap (e' - levX e e') = e' - levX e e' := wrap_id (by omega) (by omega)
  have s1 : (levP d e (levX e e')).size = d.size + (e - levX e e').toNat := by show (d ++ zer (IntKind.i64.wrap (e - levX e e'))).size = _; rw [cat_size, zer_size, w1]
  have s2 : (levP d' e' (levX e e')).size = d'.size + (e' - levX e e').toNat := by show (d' ++ zer (IntKind.i64.wrap (e' - levX e e'))).size = _; rw [cat_size, zer_size, w2]
  have f1 : (if e' < e then e' else e) = levX e e' := rfl
  have f2 : d ++ zer (IntKind.i64.wrap (e - levX e e')) = levP d e (levX e e') := rfl
  have f3 : d' ++ zer (IntKind.i64.wrap (e' - levX e e')) = levP d' e' (levX e e') := rfl
  have f4 : ∀ p q : ByteArray, zer (if 0 < IntKind.i64.wrap ((q.size : Int) - p.size) then IntKind.i64.wrap ((q.size : Int) - p.size) else 0) ++ p = levQ p q := fun _ _ => rfl
  simp only [entry_level, q_level, Tree.holds, Out.den, E.den, E.denL, envOf_zero, envOf_succ, den_add, den_sub, den_mul, den_quo, den_rem, den_ieql, den_ineq, den_lss, den_leq, den_gtr, den_geq, den_seql, den_sneq, den_slss, den_beql, den_bneq, den_not, den_neg, den_conv, den_slen, den_sat, den_ssub, den_scat, den_len, den_at, den_cell, den_row, den_lst, den_cat, den_ite, den_and, den_mhas, den_mget, den_mset, ofBool_bD, bD_true, rows_lst, cells_row, int_v, bool_v, str_v, rows_strs, at_0, at_1, at_2, at_3, at_4, at_5, at_6, at_7, at_8, toD_put, strD_at, ltI_t, leI_t, eqI_t, eqS_t, ltI_f, leI_f, eqI_f, eqS_f, Bool.not_eq_true', Bool.not_eq_false', List.getD_cons_zero, List.getD_cons_succ, true_and, and_true, List.length_map, phi_1000, phi_repeat, phi_level, pre_repeat, row_at0, row_at1, row_at2, bif_iD, f1, f2, f3, f4]
  have u1 : ((e - levX e e').toNat : Int) = e - levX e e' := Int.toNat_of_nonneg (by omega)
  have u2 : ((e' - levX e e').toNat : Int) = e' - levX e e' := Int.toNat_of_nonneg (by omega)
  rw [w1, w2]
  generalize levX e e' = x at *
  have wz : ∀ a b : Nat, a ≤ 10000 → b ≤ 10000 → IntKind.i64.wrap ((a : Int) - b) = (a : Int) - b := fun a b _ _ => wrap_id (by omega) (by omega)
  have hm : ∀ z : Int, -10000 ≤ z → z ≤ 2000 → 0 ≤ (if 0 < z then z else 0) ∧ (if 0 < z then z else 0) ≤ 2000 := fun z _ _ => by split <;> omega
  have q1 : (levP d e x).size ≤ 1000 := by omega
  have q2 : (levP d' e' x).size ≤ 1000 := by omega
  have s3 : (levQ (levP d e x) (levP d' e' x)).size ≤ 3000 := by
    rw [← f4, cat_size, zer_size, wz _ _ (by omega) (by omega)]
    have := hm (((levP d' e' x).size : Int) - (levP d e x).size) (by omega) (by omega)
    omega
  have s4 : (levP d e x).size ≤ (levQ (levP d e x) (levP d' e' x)).size := by
    rw [← f4, cat_size]; omega
  have g1 := hm (((levP d' e' x).size : Int) - (levP d e x).size) (by omega) (by omega)
  have g2 := fun h => hm (((levQ (levP d e x) (levP d' e' x)).size : Int) - (levP d' e' x).size) (by omega) h
  rw [wz _ _ (by omega) (by omega), wz _ _ (by omega) (by omega)]
  generalize levQ (levP d e x) (levP d' e' x) = R at *
  have s5 : (R.size : Int) - (levP d' e' x).size ≤ 3000 := by omega
  have hm' : ∀ z : Int, -10000 ≤ z → z ≤ 3000 → 0 ≤ (if 0 < z then z else 0) ∧ (if 0 < z then z else 0) ≤ 3000 := fun z _ _ => by split <;> omega
  have g2 := hm' ((R.size : Int) - (levP d' e' x).size) (by omega) s5
  generalize (if 0 < ((levP d' e' x).size : Int) - (levP d e x).size then ((levP d' e' x).size : Int) - (levP d e x).size else 0) = M at *
  generalize (if 0 < (R.size : Int) - (levP d' e' x).size then (R.size : Int) - (levP d' e' x).size else 0) = K at *
  simp only [zer_size]
  exact ⟨hr _ (by omega) (by omega), ⟨by omega, by omega⟩, by omega, by omega, hr _ (by omega) (by omega), ⟨by omega, by omega⟩, by omega, by omega,
    hr _ (by omega) (by omega), ⟨by omega, by omega⟩, by omega, by omega, hr _ (by omega) (by omega), ⟨by omega, by omega⟩, by omega, by omega⟩
theorem lev_small {d d' : ByteArray} {e e' : Int} (p1 : d.size ≤ 40) (p2 : d'.size ≤ 40) (p3 : -400 ≤ e) (p4 : e ≤ 400) (p5 : -400 ≤ e') (p6 : e' ≤ 400) :
    (levQ (levP d e (levX e e')) (levP d' e' (levX e e'))).size ≤ 10000 ∧ (levQ (levP d' e' (levX e e')) (levQ (levP d e (levX e e')) (levP d' e' (levX e e')))).size ≤ 10000 := by
  obtain ⟨x1, x2, x3⟩ := levX_le e e'
  have f4 : ∀ p q : ByteArray, zer (if 0 < IntKind.i64.wrap ((q.size : Int) - p.size) then IntKind.i64.wrap ((q.size : Int) - p.size) else 0) ++ p = levQ p q := fun _ _ => rfl
  have w1 : IntKind.i64.wrap (e - levX e e') = e - levX e e' := wrap_id (by omega) (by omega)
  have w2 : IntKind.i64.wrap (e' - levX e e') = e' - levX e e' := wrap_id (by omega) (by omega)
  have s1 : (levP d e (levX e e')).size = d.size + (e - levX e e').toNat := by show (d ++ zer (IntKind.i64.wrap (e - levX e e'))).size = _; rw [cat_size, zer_size, w1]
  have s2 : (levP d' e' (levX e e')).size = d'.size + (e' - levX e e').toNat := by show (d' ++ zer (IntKind.i64.wrap (e' - levX e e'))).size = _; rw [cat_size, zer_size, w2]
  have wz : ∀ a b : Nat, a ≤ 10000 → b ≤ 10000 → IntKind.i64.wrap ((a : Int) - b) = (a : Int) - b := fun a b _ _ => wrap_id (by omega) (by omega)
  have hm : ∀ z k : Int, 0 ≤ k → z ≤ k → 0 ≤ (if 0 < z then z else 0) ∧ (if 0 < z then z else 0) ≤ k := fun z k _ _ => by split <;> omega
  have s3 : (levQ (levP d e (levX e e')) (levP d' e' (levX e e'))).size ≤ 3000 := by
    rw [← f4, cat_size, zer_size, wz _ _ (by omega) (by omega)]
    have := hm (((levP d' e' (levX e e')).size : Int) - (levP d e (levX e e')).size) 1500 (by omega) (by omega)
    omega
  refine ⟨by omega, ?_⟩
  generalize levQ (levP d e (levX e e')) (levP d' e' (levX e e')) = R at *
  rw [← f4, cat_size, zer_size, wz _ _ (by omega) (by omega)]
  have := hm ((R.size : Int) - (levP d' e' (levX e e')).size) 3000 (by omega) (by omega)
  omega
/-- calamus/num.Cmp: func 69, params [37, 37], ntmps 53. -/
def heads_numcmp : List Hd := []
def entry_numcmp : Tree :=
  (.giv (.app 1000 [(.pr .row [(.pr (.cell 0) [(.var 0)]), (.pr (.cell 1) [(.var 0)]), (.pr (.cell 2) [(.var 0)])])])
    (.ite (.pr (.icmp .neq) [(.app 5 [(.pr .row [(.pr (.cell 0) [(.var 0)]), (.pr (.cell 1) [(.var 0)]), (.pr (.cell 2) [(.var 0)])])]), (.lit (.int .i64 0))])
      (.leaf (.ret (.pr .row [(.lit (.int .i64 0)), (.lit (.int .i64 10))])))
      (.giv (.app 1000 [(.pr .row [(.pr (.cell 0) [(.var 1)]), (.pr (.cell 1) [(.var 1)]), (.pr (.cell 2) [(.var 1)])])])
        (.ite (.pr (.icmp .neq) [(.app 5 [(.pr .row [(.pr (.cell 0) [(.var 1)]), (.pr (.cell 1) [(.var 1)]), (.pr (.cell 2) [(.var 1)])])]), (.lit (.int .i64 0))])
          (.leaf (.ret (.pr .row [(.lit (.int .i64 0)), (.lit (.int .i64 10))])))
          (.ite (.pr .and [(.pr (.bcmp .eql) [(.pr (.cell 0) [(.var 0)]), (.pr (.cell 0) [(.var 1)])]), (.pr (.scmp .eql) [(.pr (.cell 1) [(.var 0)]), (.pr (.cell 1) [(.var 1)])]), (.pr (.icmp .eql) [(.pr (.cell 2) [(.var 0)]), (.pr (.cell 2) [(.var 1)])])])
            (.leaf (.ret (.pr .row [(.lit (.int .i64 0)), (.lit (.int .i64 0))])))
            (.ite (.pr (.cell 0) [(.var 0)])
              (.ite (.pr (.cell 0) [(.var 1)])
                (.giv (.app 1000 [(.pr .row [(.pr (.cell 0) [(.var 0)]), (.pr (.cell 1) [(.var 0)]), (.pr (.cell 2) [(.var 0)])]), (.pr .row [(.pr (.cell 0) [(.var 1)]), (.pr (.cell 1) [(.var 1)]), (.pr (.cell 2) [(.var 1)])])])
                  (.giv (.app 2021 [(.pr .row [(.pr (.cell 0) [(.var 0)]), (.pr (.cell 1) [(.var 0)]), (.pr (.cell 2) [(.var 0)])]), (.pr .row [(.pr (.cell 0) [(.var 1)]), (.pr (.cell 1) [(.var 1)]), (.pr (.cell 2) [(.var 1)])])])
                    (.giv (.app 1000 [(.pr (.cell 0) [(.app 21 [(.pr .row [(.pr (.cell 0) [(.var 0)]), (.pr (.cell 1) [(.var 0)]), (.pr (.cell 2) [(.var 0)])]), (.pr .row [(.pr (.cell 0) [(.var 1)]), (.pr (.cell 1) [(.var 1)]), (.pr (.cell 2) [(.var 1)])])])]), (.pr (.cell 1) [(.app 21 [(.pr .row [(.pr (.cell 0) [(.var 0)]), (.pr (.cell 1) [(.var 0)]), (.pr (.cell 2) [(.var 0)])]), (.pr .row [(.pr (.cell 0) [(.var 1)]), (.pr (.cell 1) [(.var 1)]), (.pr (.cell 2) [(.var 1)])])])])])
                      (.leaf (.ret (.pr .row [(.pr (.neg .i64) [(.app 19 [(.pr (.cell 0) [(.app 21 [(.pr .row [(.pr (.cell 0) [(.var 0)]), (.pr (.cell 1) [(.var 0)]), (.pr (.cell 2) [(.var 0)])]), (.pr .row [(.pr (.cell 0) [(.var 1)]), (.pr (.cell 1) [(.var 1)]), (.pr (.cell 2) [(.var 1)])])])]), (.pr (.cell 1) [(.app 21 [(.pr .row [(.pr (.cell 0) [(.var 0)]), (.pr (.cell 1) [(.var 0)]), (.pr (.cell 2) [(.var 0)])]), (.pr .row [(.pr (.cell 0) [(.var 1)]), (.pr (.cell 1) [(.var 1)]), (.pr (.cell 2) [(.var 1)])])])])])]), (.lit (.int .i64 0))]))))))
                (.leaf (.ret (.pr .row [(.lit (.int .i64 (-1))), (.lit (.int .i64 0))]))))
              (.ite (.pr (.cell 0) [(.var 1)])
                (.leaf (.ret (.pr .row [(.lit (.int .i64 1)), (.lit (.int .i64 0))])))
                (.giv (.app 1000 [(.pr .row [(.pr (.cell 0) [(.var 0)]), (.pr (.cell 1) [(.var 0)]), (.pr (.cell 2) [(.var 0)])]), (.pr .row [(.pr (.cell 0) [(.var 1)]), (.pr (.cell 1) [(.var 1)]), (.pr (.cell 2) [(.var 1)])])])
                  (.giv (.app 2021 [(.pr .row [(.pr (.cell 0) [(.var 0)]), (.pr (.cell 1) [(.var 0)]), (.pr (.cell 2) [(.var 0)])]), (.pr .row [(.pr (.cell 0) [(.var 1)]), (.pr (.cell 1) [(.var 1)]), (.pr (.cell 2) [(.var 1)])])])
                    (.giv (.app 1000 [(.pr (.cell 0) [(.app 21 [(.pr .row [(.pr (.cell 0) [(.var 0)]), (.pr (.cell 1) [(.var 0)]), (.pr (.cell 2) [(.var 0)])]), (.pr .row [(.pr (.cell 0) [(.var 1)]), (.pr (.cell 1) [(.var 1)]), (.pr (.cell 2) [(.var 1)])])])]), (.pr (.cell 1) [(.app 21 [(.pr .row [(.pr (.cell 0) [(.var 0)]), (.pr (.cell 1) [(.var 0)]), (.pr (.cell 2) [(.var 0)])]), (.pr .row [(.pr (.cell 0) [(.var 1)]), (.pr (.cell 1) [(.var 1)]), (.pr (.cell 2) [(.var 1)])])])])])
                      (.leaf (.ret (.pr .row [(.app 19 [(.pr (.cell 0) [(.app 21 [(.pr .row [(.pr (.cell 0) [(.var 0)]), (.pr (.cell 1) [(.var 0)]), (.pr (.cell 2) [(.var 0)])]), (.pr .row [(.pr (.cell 0) [(.var 1)]), (.pr (.cell 1) [(.var 1)]), (.pr (.cell 2) [(.var 1)])])])]), (.pr (.cell 1) [(.app 21 [(.pr .row [(.pr (.cell 0) [(.var 0)]), (.pr (.cell 1) [(.var 0)]), (.pr (.cell 2) [(.var 0)])]), (.pr .row [(.pr (.cell 0) [(.var 1)]), (.pr (.cell 1) [(.var 1)]), (.pr (.cell 2) [(.var 1)])])])])]), (.lit (.int .i64 0))])))))))))))))
def trees_numcmp : List Tree := []
noncomputable def deps_numcmp : List Sig := [q_numcheck, q_level, q_scmp]
theorem ok_numcmp : check q_numcmp deps_numcmp heads_numcmp entry_numcmp trees_numcmp = true := by kernel_rfl
theorem numV_num {a : Bool} {d : ByteArray} {e : Int} (h : numV a d e = 0) : d.size ≤ 40 ∧ -400 ≤ e ∧ e ≤ 400 := by
  unfold numV at h
  split at h
  · rename_i h1
    rw [h1.2.1]
    exact ⟨by decide, by omega, by omega⟩
  · (repeat' split at h) <;> first | omega | exact ⟨by omega, by omega, by omega⟩
theorem numcmp_ok (n : Nat) : @Ok (I n) q_numcmp (okD n) := by
  letI := I n
  refine fn_okS (hphi n) ok_numcmp (by
    intro q hq
    simp only [deps_numcmp, List.mem_cons, List.not_mem_nil, or_false] at hq
    rcases hq with rfl | rfl | rfl
    · exact okS_of (numcheck_ok n)
    · exact level_ok n
    · exact okS_of (scmp_ok n)) (fun _ _ _ => False) (fun _ _ => 0) ?_ (fun j h t d ds hj => by simp [heads_numcmp] at hj)
  intro ds hf hp
  obtain ⟨a, d, e, a', d', e', rfl⟩ := num_two hf
  have h0 := okD_two.1 hp
  simp only [D.sz, D.szL, D.Lim, D.LimL, and_true, true_and] at h0
  obtain ⟨h1, h2, h3⟩ := h0
  have o1 : okD n [.row [bD a, sD d, iD e]] := okD_one.2 ⟨by simp only [D.sz, D.szL]; omega, by simp only [D.Lim, D.LimL, and_true, true_and]; exact h2⟩
  have o2 : okD n [.row [bD a', sD d', iD e']] := okD_one.2 ⟨by simp only [D.sz, D.szL]; omega, by simp only [D.Lim, D.LimL, and_true, true_and]; exact h3⟩
  have hn : D.row [D.v (.int .i64 0), D.v (.int .i64 10)] = .row [iD ((0 : Int), (10 : Int)).1, iD ((0 : Int), (10 : Int)).2] := rfl
  simp only [entry_numcmp, q_numcmp, Tree.holds, Out.den, E.den, E.denL, envOf_zero, envOf_succ, den_add, den_sub, den_mul, den_quo, den_rem, den_ieql, den_ineq, den_lss, den_leq, den_gtr, den_geq, den_seql, den_sneq, den_slss, den_beql, den_bneq, den_not, den_neg, den_conv, den_slen, den_sat, den_ssub, den_scat, den_len, den_at, den_cell, den_row, den_lst, den_cat, den_ite, den_and, den_mhas, den_mget, den_mset, ofBool_bD, bD_true, rows_lst, cells_row, int_v, bool_v, str_v, rows_strs, at_0, at_1, at_2, at_3, at_4, at_5, at_6, at_7, at_8, toD_put, strD_at, ltI_t, leI_t, eqI_t, eqS_t, ltI_f, leI_f, eqI_f, eqS_f, Bool.not_eq_true', Bool.not_eq_false', List.getD_cons_zero, List.getD_cons_succ, true_and, and_true, List.length_map, phi_1000, phi_numcheck, phi_level, phi_scmp, phi_numcmp, pre_level, row_at0, row_at1, row_at2, o1, o2, hp, List.all_cons, List.all_nil, Bool.and_true, Bool.and_eq_true, Bool.and_eq_false_iff, beq_iff_eq, bD_inj]
  unfold numcmpV
  by_cases k1 : numV a d e = 0
  · by_cases k2 : numV a' d' e' = 0
    · obtain ⟨p1, p3, p4⟩ := numV_num k1
      obtain ⟨p2, p5, p6⟩ := numV_num k2
      obtain ⟨m1, m2⟩ := lev_small p1 p2 p3 p4 p5 p6
      have o3 : okD n [sD (levQ (levP d e (levX e e')) (levP d' e' (levX e e'))), sD (levQ (levP d' e' (levX e e')) (levQ (levP d e (levX e e')) (levP d' e' (levX e e'))))] :=
        okD_two.2 ⟨by rw [sz_sD, sz_sD]; omega, lim_sD.2 (by have : 10000 ≤ lim := (by decide); omega), lim_sD.2 (by have : 10000 ≤ lim := (by decide); omega)⟩
      rw [if_neg (by simp [k1]), if_neg (by simp [k2])]
      simp only [k1, k2, o3, p1, p2, p3, p4, p5, p6, not_true_eq_false, false_implies, true_implies, true_and, and_self]
      generalize cmpS _ _ = C
      cases a <;> cases a' <;> simp only [reduceCtorEq, false_implies, true_implies, true_and, false_and, and_true, if_false, if_true, Bool.false_eq_true, and_self, if_pos, false_or, or_false, not_true_eq_false, not_false_eq_true] <;> grind
    · rw [if_neg (by simp [k1]), if_pos k2]
      simp only [k1, k2, not_true_eq_false, not_false_eq_true, false_implies, true_implies, true_and, and_true]
  · rw [if_pos k1]
    simp only [k1, not_true_eq_false, not_false_eq_true, false_implies, true_implies, true_and, and_true]
/-- calamus/value.pairs: func 73, params [41], ntmps 26. -/
-- head 0 of loop 0: [t1 .rf 41, t3 .own 88, t7 .sh (.cell (.sl 9)), t8 .sh (.cell (.sc (.i .i64))), t9 .sh (.cell (.sc (.i .i64)))]
-- head 1 of loop 0: [t1 .rf 41, t3 .con (.v (.slice none 0 0)), t7 .sh (.cell (.sl 9)), t8 .sh (.cell (.sc (.i .i64))), t9 .sh (.cell (.sc (.i .i64)))]
def heads_pairs : List Hd := [⟨0, [.any, .rf 41, .any, .own 88, .any, .any, .any, .sh (.cell (.sl 9)), .sh (.cell (.sc (.i .i64))), .sh (.cell (.sc (.i .i64))), .any, .any, .any, .any, .any, .any, .any, .any, .any, .any, .any, .any, .any, .any, .any, .any]⟩, ⟨0, [.any, .rf 41, .any, .con (.v (.slice none 0 0)), .any, .any, .any, .sh (.cell (.sl 9)), .sh (.cell (.sc (.i .i64))), .sh (.cell (.sc (.i .i64))), .any, .any, .any, .any, .any, .any, .any, .any, .any, .any, .any, .any, .any, .any, .any, .any]⟩]
def entry_pairs : Tree :=
  (.leaf (.go 1 [(.pr .row [(.pr (.cell 0) [(.var 0)]), (.pr (.cell 1) [(.var 0)]), (.pr (.cell 2) [(.var 0)]), (.pr (.cell 3) [(.var 0)]), (.pr (.cell 4) [(.var 0)]), (.pr (.cell 5) [(.var 0)]), (.pr (.cell 6) [(.var 0)]), (.pr (.cell 7) [(.var 0)]), (.pr (.cell 8) [(.var 0)])]), (.pr (.cell 7) [(.var 0)]), (.pr .len [(.pr (.cell 7) [(.var 0)])]), (.lit (.int .i64 0))]))
def head_pairs_0 : Tree :=
  (.ite (.pr (.icmp .lss) [(.var 4), (.var 3)])
    (.giv (.pr (.icmp .leq) [(.lit (.int .i64 0)), (.var 4)])
      (.giv (.pr (.icmp .lss) [(.var 4), (.pr .len [(.var 2)])])
        (.giv (.pr (.icmp .lss) [(.var 4), (.pr .len [(.pr (.cell 8) [(.var 0)])])])
          (.giv (.pr (.icmp .leq) [(.pr .len [(.pr .cat [(.var 1), (.pr .lst [(.pr .row [(.pr (.cell 0) [(.pr .at [(.var 2), (.var 4)])]), (.pr (.cell 0) [(.pr .at [(.pr (.cell 8) [(.var 0)]), (.var 4)])]), (.pr (.cell 1) [(.pr .at [(.pr (.cell 8) [(.var 0)]), (.var 4)])]), (.pr (.cell 2) [(.pr .at [(.pr (.cell 8) [(.var 0)]), (.var 4)])]), (.pr (.cell 3) [(.pr .at [(.pr (.cell 8) [(.var 0)]), (.var 4)])]), (.pr (.cell 4) [(.pr .at [(.pr (.cell 8) [(.var 0)]), (.var 4)])]), (.pr (.cell 5) [(.pr .at [(.pr (.cell 8) [(.var 0)]), (.var 4)])]), (.pr (.cell 6) [(.pr .at [(.pr (.cell 8) [(.var 0)]), (.var 4)])]), (.pr (.cell 7) [(.pr .at [(.pr (.cell 8) [(.var 0)]), (.var 4)])]), (.pr (.cell 8) [(.pr .at [(.pr (.cell 8) [(.var 0)]), (.var 4)])])])])])]), (.lit (.int .i64 4294967296))])
            (.leaf (.go 0 [(.var 0), (.pr .cat [(.var 1), (.pr .lst [(.pr .row [(.pr (.cell 0) [(.pr .at [(.var 2), (.var 4)])]), (.pr (.cell 0) [(.pr .at [(.pr (.cell 8) [(.var 0)]), (.var 4)])]), (.pr (.cell 1) [(.pr .at [(.pr (.cell 8) [(.var 0)]), (.var 4)])]), (.pr (.cell 2) [(.pr .at [(.pr (.cell 8) [(.var 0)]), (.var 4)])]), (.pr (.cell 3) [(.pr .at [(.pr (.cell 8) [(.var 0)]), (.var 4)])]), (.pr (.cell 4) [(.pr .at [(.pr (.cell 8) [(.var 0)]), (.var 4)])]), (.pr (.cell 5) [(.pr .at [(.pr (.cell 8) [(.var 0)]), (.var 4)])]), (.pr (.cell 6) [(.pr .at [(.pr (.cell 8) [(.var 0)]), (.var 4)])]), (.pr (.cell 7) [(.pr .at [(.pr (.cell 8) [(.var 0)]), (.var 4)])]), (.pr (.cell 8) [(.pr .at [(.pr (.cell 8) [(.var 0)]), (.var 4)])])])])]), (.var 2), (.var 3), (.pr (.iop .add .i64) [(.var 4), (.lit (.int .i64 1))])]))))))
    (.leaf (.ret (.var 1))))
def head_pairs_1 : Tree :=
  (.ite (.pr (.icmp .lss) [(.var 3), (.var 2)])
    (.giv (.pr (.icmp .leq) [(.lit (.int .i64 0)), (.var 3)])
      (.giv (.pr (.icmp .lss) [(.var 3), (.pr .len [(.var 1)])])
        (.giv (.pr (.icmp .lss) [(.var 3), (.pr .len [(.pr (.cell 8) [(.var 0)])])])
          (.leaf (.go 0 [(.var 0), (.pr .lst [(.pr .row [(.pr (.cell 0) [(.pr .at [(.var 1), (.var 3)])]), (.pr (.cell 0) [(.pr .at [(.pr (.cell 8) [(.var 0)]), (.var 3)])]), (.pr (.cell 1) [(.pr .at [(.pr (.cell 8) [(.var 0)]), (.var 3)])]), (.pr (.cell 2) [(.pr .at [(.pr (.cell 8) [(.var 0)]), (.var 3)])]), (.pr (.cell 3) [(.pr .at [(.pr (.cell 8) [(.var 0)]), (.var 3)])]), (.pr (.cell 4) [(.pr .at [(.pr (.cell 8) [(.var 0)]), (.var 3)])]), (.pr (.cell 5) [(.pr .at [(.pr (.cell 8) [(.var 0)]), (.var 3)])]), (.pr (.cell 6) [(.pr .at [(.pr (.cell 8) [(.var 0)]), (.var 3)])]), (.pr (.cell 7) [(.pr .at [(.pr (.cell 8) [(.var 0)]), (.var 3)])]), (.pr (.cell 8) [(.pr .at [(.pr (.cell 8) [(.var 0)]), (.var 3)])])])]), (.var 1), (.var 2), (.pr (.iop .add .i64) [(.var 3), (.lit (.int .i64 1))])])))))
    (.leaf (.ret (.pr .lst []))))
def trees_pairs : List Tree := [head_pairs_0, head_pairs_1]
noncomputable def deps_pairs : List Sig := []
theorem ok_pairs : check q_pairs deps_pairs heads_pairs entry_pairs trees_pairs = true := by kernel_rfl
theorem pairs_ok (n : Nat) : @Ok (I n) q_pairs (@okS (I n) n q_pairs.g) := by
  letI := I n
  refine fn_okS (hphi n) ok_pairs (by intro q hq; simp [deps_pairs] at hq)
    (fun j d ds => ∃ (v : Val) (i : Nat), (v.names.length = v.list.length ∧ v.list.length ≤ 256) ∧ i ≤ v.names.length ∧ d = pairsD (v.names.zip v.list) ∧
      ((j = 0 ∧ ds = [v.toD, pairsD ((v.names.zip v.list).take i), strsD v.names, iD v.names.length, iD i]) ∨ (j = 1 ∧ i = 0 ∧ ds = [v.toD, strsD v.names, iD v.names.length, iD i])))
    (fun j ds => if j = 0 then (ds.getD 3 .nil).int.toNat - (ds.getD 4 .nil).int.toNat else (ds.getD 2 .nil).int.toNat - (ds.getD 3 .nil).int.toNat) ?_ ?_
  · intro ds hf hp
    obtain ⟨v, rfl⟩ := one_val hf
    have hv := (pre_pairs n v).1 (hp.2 rfl)
    simp only [entry_pairs, q_pairs, Tree.holds, Out.den, E.den, E.denL, envOf_zero, envOf_succ, den_add, den_sub, den_mul, den_quo, den_rem, den_ieql, den_ineq, den_lss, den_leq, den_gtr, den_geq, den_seql, den_sneq, den_slss, den_beql, den_bneq, den_not, den_neg, den_conv, den_slen, den_sat, den_ssub, den_scat, den_len, den_at, den_cell, den_row, den_lst, den_cat, den_ite, den_and, den_mhas, den_mget, den_mset, ofBool_bD, bD_true, rows_lst, cells_row, int_v, bool_v, str_v, rows_strs, at_0, at_1, at_2, at_3, at_4, at_5, at_6, at_7, at_8, toD_put, strD_at, ltI_t, leI_t, eqI_t, eqS_t, ltI_f, leI_f, eqI_f, eqS_f, Bool.not_eq_true', Bool.not_eq_false', List.getD_cons_zero, List.getD_cons_succ, true_and, and_true, List.length_map, phi_1000, phi_pairs]
    exact ⟨v, 0, hv, Nat.zero_le _, rfl, .inr ⟨rfl, by simp only [Int.ofNat_zero]⟩⟩
  · rintro j h t d ds hj ht hf ⟨v, i, hv, hi, rfl, ⟨rfl, rfl⟩ | ⟨rfl, rfl, rfl⟩⟩
    · obtain rfl : t = head_pairs_0 := (Option.some.inj ht).symm
      by_cases hlt : i < v.names.length
      · obtain ⟨x, hx, hxm, hd⟩ := drop_get hlt
        obtain ⟨y, hy, hym, hd'⟩ := drop_get (show i < v.list.length by omega)
        simp only [head_pairs_0, Tree.holds, Out.den, E.den, E.denL, envOf_zero, envOf_succ, den_add, den_sub, den_mul, den_quo, den_rem, den_ieql, den_ineq, den_lss, den_leq, den_gtr, den_geq, den_seql, den_sneq, den_slss, den_beql, den_bneq, den_not, den_neg, den_conv, den_slen, den_sat, den_ssub, den_scat, den_len, den_at, den_cell, den_row, den_lst, den_cat, den_ite, den_and, den_mhas, den_mget, den_mset, ofBool_bD, bD_true, rows_lst, cells_row, int_v, bool_v, str_v, rows_strs, at_0, at_1, at_2, at_3, at_4, at_5, at_6, at_7, at_8, toD_put, strD_at, ltI_t, leI_t, eqI_t, eqS_t, ltI_f, leI_f, eqI_f, eqS_f, Bool.not_eq_true', Bool.not_eq_false', List.getD_cons_zero, List.getD_cons_succ, true_and, and_true, List.length_map, phi_1000, rowAt_map hx, rowAt_map hy, pair_put, wrap_succ hlt (show v.names.length ≤ lim by have : 256 ≤ lim := (by decide); omega)]
        have hz : (v.names.zip v.list)[i]? = some (x, y) := List.getElem?_zip_eq_some.2 ⟨hx, hy⟩
        refine ⟨fun _ => ⟨by omega, by omega, by omega, ?_, ⟨v, i + 1, hv, hlt, rfl, .inl ?_⟩, ?_⟩, fun h => by omega⟩
        · rw [List.length_append, List.length_map, List.length_take, List.length_singleton]; omega
        · rw [List.take_add_one, hz]
          simp only [pairsD, List.map_append, Option.toList_some, List.map_cons, List.map_nil]
        · simp only [if_true, Int.toNat_natCast]; omega
      · simp only [head_pairs_0, Tree.holds, Out.den, E.den, E.denL, envOf_zero, envOf_succ, den_add, den_sub, den_mul, den_quo, den_rem, den_ieql, den_ineq, den_lss, den_leq, den_gtr, den_geq, den_seql, den_sneq, den_slss, den_beql, den_bneq, den_not, den_neg, den_conv, den_slen, den_sat, den_ssub, den_scat, den_len, den_at, den_cell, den_row, den_lst, den_cat, den_ite, den_and, den_mhas, den_mget, den_mset, ofBool_bD, bD_true, rows_lst, cells_row, int_v, bool_v, str_v, rows_strs, at_0, at_1, at_2, at_3, at_4, at_5, at_6, at_7, at_8, toD_put, strD_at, ltI_t, leI_t, eqI_t, eqS_t, ltI_f, leI_f, eqI_f, eqS_f, Bool.not_eq_true', Bool.not_eq_false', List.getD_cons_zero, List.getD_cons_succ, true_and, and_true, List.length_map, phi_1000]
        refine ⟨fun h => by omega, fun _ => ?_⟩
        rw [List.take_of_length_le (by rw [List.length_zip]; omega)]
    · obtain rfl : t = head_pairs_1 := (Option.some.inj ht).symm
      by_cases hlt : 0 < v.names.length
      · obtain ⟨x, hx, hxm, hd⟩ := drop_get hlt
        obtain ⟨y, hy, hym, hd'⟩ := drop_get (show 0 < v.list.length by omega)
        simp only [head_pairs_1, Tree.holds, Out.den, E.den, E.denL, envOf_zero, envOf_succ, den_add, den_sub, den_mul, den_quo, den_rem, den_ieql, den_ineq, den_lss, den_leq, den_gtr, den_geq, den_seql, den_sneq, den_slss, den_beql, den_bneq, den_not, den_neg, den_conv, den_slen, den_sat, den_ssub, den_scat, den_len, den_at, den_cell, den_row, den_lst, den_cat, den_ite, den_and, den_mhas, den_mget, den_mset, ofBool_bD, bD_true, rows_lst, cells_row, int_v, bool_v, str_v, rows_strs, at_0, at_1, at_2, at_3, at_4, at_5, at_6, at_7, at_8, toD_put, strD_at, ltI_t, leI_t, eqI_t, eqS_t, ltI_f, leI_f, eqI_f, eqS_f, Bool.not_eq_true', Bool.not_eq_false', List.getD_cons_zero, List.getD_cons_succ, true_and, and_true, List.length_map, phi_1000, rowAt_map hx, rowAt_map hy, pair_put, wrap_succ hlt (show v.names.length ≤ lim by have : 256 ≤ lim := (by decide); omega)]
        have hz : (v.names.zip v.list)[0]? = some (x, y) := List.getElem?_zip_eq_some.2 ⟨hx, hy⟩
        refine ⟨fun _ => ⟨by omega, by omega, by omega, ⟨v, 1, hv, hlt, rfl, .inl ?_⟩, ?_⟩, fun h => by omega⟩
        · rw [List.take_add_one, hz]; rfl
        · simp only [if_true, Int.toNat_natCast]
          rw [if_neg (by decide)]
          omega
      · simp only [head_pairs_1, Tree.holds, Out.den, E.den, E.denL, envOf_zero, envOf_succ, den_add, den_sub, den_mul, den_quo, den_rem, den_ieql, den_ineq, den_lss, den_leq, den_gtr, den_geq, den_seql, den_sneq, den_slss, den_beql, den_bneq, den_not, den_neg, den_conv, den_slen, den_sat, den_ssub, den_scat, den_len, den_at, den_cell, den_row, den_lst, den_cat, den_ite, den_and, den_mhas, den_mget, den_mset, ofBool_bD, bD_true, rows_lst, cells_row, int_v, bool_v, str_v, rows_strs, at_0, at_1, at_2, at_3, at_4, at_5, at_6, at_7, at_8, toD_put, strD_at, ltI_t, leI_t, eqI_t, eqS_t, ltI_f, leI_f, eqI_f, eqS_f, Bool.not_eq_true', Bool.not_eq_false', List.getD_cons_zero, List.getD_cons_succ, true_and, and_true, List.length_map, phi_1000]
        refine ⟨fun h => by omega, fun _ => ?_⟩
        rw [List.length_eq_zero_iff.1 (show v.names.length = 0 by omega)]; rfl
end Go.Proofs.YtaeeblcdggjokaaDoor.Vk
