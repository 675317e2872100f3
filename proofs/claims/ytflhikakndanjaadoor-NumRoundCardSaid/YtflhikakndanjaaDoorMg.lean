/- Merged own texts, without what this claim does not use. -/
import Derived.Test.YtflhikakndanjaaDoorMf
import Derived.Test.YtflhikakndanjaaDoorMd
import Derived.Test.YtflhikakndanjaaDoorCards
import Derived.Test.YtflhikakndanjaaDoorTie
import Derived.KernelRfl
import Derived.ProofKit
import Derived.Deep.DeepHandedRow
import Derived.Lay
import Derived.SevenTiedAt
set_option maxRecDepth 100000
set_option linter.unusedVariables false
set_option linter.unusedSimpArgs false
set_option linter.unusedSectionVars false
set_option linter.constructorNameAsVariable false
/- Contracts: numbers' texts, printed. -/
namespace Go.Proofs.YtflhikakndanjaaDoor.Vk
open Go Go.Ab Go.RowKit
theorem numV_or (a : Bool) (d : ByteArray) (e : Int) : numV a d e = 0 \/ numV a d e = 10 := by
 unfold numV
 repeat' split
 all_goals first | exact .inl rfl | exact .inr rfl
theorem printC_size {d : ByteArray} {x : Int} (h : -400 <= x) (h1 : x <= 400) (h2 : 0 < d.size) (h3 : d.size <= 40) : d.size <= (printC d x).size /\ (printC d x).size <= 1000 /\ 1 <= ((printC d x).size : Int) + x := by
 have hcs : (printC d x).size = (if 0 < 1 - x - (d.size : Int) then 1 - x - d.size else 0).toNat + d.size := by unfold printC; rw [cat_size, zer_size]
 rw [hcs]
 split <;> omega
theorem print_bad {t : NumT} (h : ¬ numV t.1 t.2.1 t.2.2 = 0) : printV t = (ByteArray.empty, 10) := by
 unfold printV
 rw [if_pos (show ¬ formN t = 0 from h)]
theorem print_A {a : Bool} {d : ByteArray} {x : Int} (h : numV a d x = 0) (hA : 0 <= x /\ (d.size : Int) + x <= 21) : printV (a, d, x) = (signV a ++ d ++ zer x, 0) := by
 unfold printV
 rw [if_neg (show ¬ ¬ formN (a, d, x) = 0 from fun k => k h)]
 simp only
 rw [if_pos hA]
theorem print_B {a : Bool} {d : ByteArray} {x : Int} (h : numV a d x = 0) (hB : x < 0 /\ -21 <= x) : printV (a, d, x) = (signV a ++ (printC d x).extract 0 (((printC d x).size : Int) + x).toNat ++ mkS [46] ++ (printC d x).extract (((printC d x).size : Int) + x).toNat (printC d x).size, 0) := by
 unfold printV
 rw [if_neg (show ¬ ¬ formN (a, d, x) = 0 from fun k => k h)]
 simp only
 rw [if_neg (by omega), if_pos hB]
theorem print_C {a : Bool} {d : ByteArray} {x : Int} (h : numV a d x = 0) (hA : ¬ (0 <= x /\ (d.size : Int) + x <= 21)) (hB : ¬ (x < 0 /\ -21 <= x)) : printV (a, d, x) = (signV a ++ d.extract 0 1 ++ (if 1 < d.size then mkS [46] else ByteArray.empty) ++ d.extract 1 d.size ++ mkS [101] ++ smallText (x + d.size - 1), 0) := by
 unfold printV
 rw [if_neg (show ¬ ¬ formN (a, d, x) = 0 from fun k => k h)]
 simp only
 rw [if_neg hA, if_neg hB]
def heads_nprint : List Hd := []
def eZ107 : E := (.lit (.string .empty))
def eZ108 : E := (.c 2 .v0)
def eZ109 : E := (.pr .slen [(.c 1 .v0)])
def eZ110 : E := (.le (.pr (.iop .add .i64) [eZ109, eZ108]) (.i 21))
def eZ111 : E := (.le eZ109 (.i 1099511627776))
def eZ112 : E := (.lit (.string (mkS [48])))
def eZ113 : E := (.lit (.string (mkS [45])))
def eZ114 : E := (.app 20 [eZ112, eZ108])
def eZ115 : E := (.le (.pr .slen [eZ114]) (.i 1099511627776))
def eZ116 : E := (.lt eZ108 (.i 0))
def eZ117 : E := (.ge eZ108 (.i (-21)))
def eZ118 : E := (.pr (.iop .sub .i64) [(.pr (.iop .sub .i64) [(.i 1), eZ108]), eZ109])
def eZ119 : E := (.pr .ite [(.gt eZ118 (.i 0)), eZ118, (.i 0)])
def eZ120 : E := (.app 1000 [eZ112, eZ119])
def eZ121 : E := (.app 2020 [eZ112, eZ119])
def eZ122 : E := (.le (.pr .slen [(.app 20 [eZ112, eZ119])]) (.i 1099511627776))
def eZ123 : E := (.pr .scat [(.app 20 [eZ112, eZ119]), (.c 1 .v0)])
def eZ124 : E := (.pr (.iop .add .i64) [(.pr .slen [eZ123]), eZ108])
def eZ125 : E := (.le (.i 0) eZ124)
def eZ126 : E := (.le eZ124 (.pr .slen [eZ123]))
def eZ127 : E := (.pr .ssub [eZ123, (.i 0), eZ124])
def eZ128 : E := (.le (.pr .slen [eZ127]) (.i 1099511627776))
def eZ129 : E := (.le (.pr .slen [(.pr .scat [eZ113, eZ127])]) (.i 1099511627776))
def eZ130 : E := (.lit (.string (mkS [46])))
def eZ131 : E := (.pr .scat [(.pr .scat [eZ113, eZ127]), eZ130])
def eZ132 : E := (.le (.pr .slen [eZ131]) (.i 1099511627776))
def eZ133 : E := (.pr .ssub [eZ123, eZ124, (.pr .slen [eZ123])])
def eZ134 : E := (.le (.pr .slen [eZ133]) (.i 1099511627776))
def eZ135 : E := (.pr .row [(.pr .scat [eZ131, eZ133]), (.i 0)])
def eZ136 : E := (.gt eZ109 (.i 1))
def eZ137 : E := (.le (.i 1) eZ109)
def eZ138 : E := (.pr .ssub [(.c 1 .v0), (.i 0), (.i 1)])
def eZ139 : E := (.le (.pr .slen [eZ138]) (.i 1099511627776))
def eZ140 : E := (.pr .scat [eZ113, eZ138])
def eZ141 : E := (.le (.pr .slen [eZ140]) (.i 1099511627776))
def eZ142 : E := (.le (.pr .slen [(.pr .scat [eZ140, eZ130])]) (.i 1099511627776))
def eZ143 : E := (.pr .ssub [(.c 1 .v0), (.i 1), eZ109])
def eZ144 : E := (.le (.pr .slen [eZ143]) (.i 1099511627776))
def eZ145 : E := (.pr .scat [(.pr .scat [eZ140, eZ130]), eZ143])
def eZ146 : E := (.le (.pr .slen [eZ145]) (.i 1099511627776))
def eZ147 : E := (.pr (.iop .sub .i64) [(.pr (.iop .add .i64) [eZ108, eZ109]), (.i 1)])
def eZ148 : E := (.app 1000 [eZ147])
def eZ149 : E := (.app 2081 [eZ147])
def eZ150 : E := (.lit (.string (mkS [101])))
def eZ151 : E := (.le (.pr .slen [(.pr .scat [eZ145, eZ150])]) (.i 1099511627776))
def eZ152 : E := (.app 81 [eZ147])
def eZ153 : E := (.le (.pr .slen [eZ152]) (.i 1099511627776))
def eZ154 : E := (.pr .row [(.pr .scat [(.pr .scat [eZ145, eZ150]), eZ152]), (.i 0)])
def eZ155 : E := (.le (.pr .slen [(.pr .scat [eZ140, eZ107])]) (.i 1099511627776))
def eZ156 : E := (.pr .scat [(.pr .scat [eZ140, eZ107]), eZ143])
def eZ157 : E := (.le (.pr .slen [eZ156]) (.i 1099511627776))
def eZ158 : E := (.le (.pr .slen [(.pr .scat [eZ156, eZ150])]) (.i 1099511627776))
def eZ159 : E := (.pr .row [(.pr .scat [(.pr .scat [eZ156, eZ150]), eZ152]), (.i 0)])
def eZ160 : E := (.le (.pr .slen [(.pr .scat [eZ107, eZ127])]) (.i 1099511627776))
def eZ161 : E := (.pr .scat [(.pr .scat [eZ107, eZ127]), eZ130])
def eZ162 : E := (.le (.pr .slen [eZ161]) (.i 1099511627776))
def eZ163 : E := (.pr .row [(.pr .scat [eZ161, eZ133]), (.i 0)])
def eZ164 : E := (.pr .scat [eZ107, eZ138])
def eZ165 : E := (.le (.pr .slen [eZ164]) (.i 1099511627776))
def eZ166 : E := (.le (.pr .slen [(.pr .scat [eZ164, eZ130])]) (.i 1099511627776))
def eZ167 : E := (.pr .scat [(.pr .scat [eZ164, eZ130]), eZ143])
def eZ168 : E := (.le (.pr .slen [eZ167]) (.i 1099511627776))
def eZ169 : E := (.le (.pr .slen [(.pr .scat [eZ167, eZ150])]) (.i 1099511627776))
def eZ170 : E := (.pr .row [(.pr .scat [(.pr .scat [eZ167, eZ150]), eZ152]), (.i 0)])
def eZ171 : E := (.le (.pr .slen [(.pr .scat [eZ164, eZ107])]) (.i 1099511627776))
def eZ172 : E := (.pr .scat [(.pr .scat [eZ164, eZ107]), eZ143])
def eZ173 : E := (.le (.pr .slen [eZ172]) (.i 1099511627776))
def eZ174 : E := (.le (.pr .slen [(.pr .scat [eZ172, eZ150])]) (.i 1099511627776))
def eZ175 : E := (.pr .row [(.pr .scat [(.pr .scat [eZ172, eZ150]), eZ152]), (.i 0)])
def entry_nprint : Tree :=
 (.giv (.app 1000 [(.r3 .v0)])
 (.ite (.ne (.app 5 [(.r3 .v0)]) (.i 0))
 (.rt (.pr .row [eZ107, (.app 5 [(.r3 .v0)])]))
 (.ite (.c 0 .v0)
 (.ite (.ge eZ108 (.i 0))
 (.ite eZ110
 (.giv eZ111
 (.giv (.app 1000 [eZ112, eZ108])
 (.giv (.app 2020 [eZ112, eZ108])
 (.giv (.le (.pr .slen [(.pr .scat [eZ113, (.c 1 .v0)])]) (.i 1099511627776))
 (.giv eZ115
 (.rt (.pr .row [(.pr .scat [(.pr .scat [eZ113, (.c 1 .v0)]), eZ114]), (.i 0)])))))))
 (.ite eZ116
 (.ite eZ117
 (.giv eZ120
 (.giv eZ121
 (.giv eZ122
 (.giv eZ111
 (.giv eZ125
 (.giv eZ126
 (.giv eZ128
 (.giv eZ129
 (.giv eZ132
 (.giv eZ134
 (.rt eZ135)))))))))))
 (.ite eZ136
 (.giv eZ137
 (.giv eZ139
 (.giv eZ141
 (.giv eZ142
 (.giv eZ144
 (.giv eZ146
 (.giv eZ148
 (.giv eZ149
 (.giv eZ151
 (.giv eZ153
 (.rt eZ154)))))))))))
 (.giv eZ137
 (.giv eZ139
 (.giv eZ141
 (.giv eZ155
 (.giv eZ144
 (.giv eZ157
 (.giv eZ148
 (.giv eZ149
 (.giv eZ158
 (.giv eZ153
 (.rt eZ159)))))))))))))
 (.ite eZ136
 (.giv eZ137
 (.giv eZ139
 (.giv eZ141
 (.giv eZ142
 (.giv eZ144
 (.giv eZ146
 (.giv eZ148
 (.giv eZ149
 (.giv eZ151
 (.giv eZ153
 (.rt eZ154)))))))))))
 (.giv eZ137
 (.giv eZ139
 (.giv eZ141
 (.giv eZ155
 (.giv eZ144
 (.giv eZ157
 (.giv eZ148
 (.giv eZ149
 (.giv eZ158
 (.giv eZ153
 (.rt eZ159))))))))))))))
 (.ite eZ116
 (.ite eZ117
 (.giv eZ120
 (.giv eZ121
 (.giv eZ122
 (.giv eZ111
 (.giv eZ125
 (.giv eZ126
 (.giv eZ128
 (.giv eZ129
 (.giv eZ132
 (.giv eZ134
 (.rt eZ135)))))))))))
 (.ite eZ136
 (.giv eZ137
 (.giv eZ139
 (.giv eZ141
 (.giv eZ142
 (.giv eZ144
 (.giv eZ146
 (.giv eZ148
 (.giv eZ149
 (.giv eZ151
 (.giv eZ153
 (.rt eZ154)))))))))))
 (.giv eZ137
 (.giv eZ139
 (.giv eZ141
 (.giv eZ155
 (.giv eZ144
 (.giv eZ157
 (.giv eZ148
 (.giv eZ149
 (.giv eZ158
 (.giv eZ153
 (.rt eZ159)))))))))))))
 (.ite eZ136
 (.giv eZ137
 (.giv eZ139
 (.giv eZ141
 (.giv eZ142
 (.giv eZ144
 (.giv eZ146
 (.giv eZ148
 (.giv eZ149
 (.giv eZ151
 (.giv eZ153
 (.rt eZ154)))))))))))
 (.giv eZ137
 (.giv eZ139
 (.giv eZ141
 (.giv eZ155
 (.giv eZ144
 (.giv eZ157
 (.giv eZ148
 (.giv eZ149
 (.giv eZ158
 (.giv eZ153
 (.rt eZ159))))))))))))))
 (.ite (.ge eZ108 (.i 0))
 (.ite eZ110
 (.giv eZ111
 (.giv (.app 1000 [eZ112, eZ108])
 (.giv (.app 2020 [eZ112, eZ108])
 (.giv (.le (.pr .slen [(.pr .scat [eZ107, (.c 1 .v0)])]) (.i 1099511627776))
 (.giv eZ115
 (.rt (.pr .row [(.pr .scat [(.pr .scat [eZ107, (.c 1 .v0)]), eZ114]), (.i 0)])))))))
 (.ite eZ116
 (.ite eZ117
 (.giv eZ120
 (.giv eZ121
 (.giv eZ122
 (.giv eZ111
 (.giv eZ125
 (.giv eZ126
 (.giv eZ128
 (.giv eZ160
 (.giv eZ162
 (.giv eZ134
 (.rt eZ163)))))))))))
 (.ite eZ136
 (.giv eZ137
 (.giv eZ139
 (.giv eZ165
 (.giv eZ166
 (.giv eZ144
 (.giv eZ168
 (.giv eZ148
 (.giv eZ149
 (.giv eZ169
 (.giv eZ153
 (.rt eZ170)))))))))))
 (.giv eZ137
 (.giv eZ139
 (.giv eZ165
 (.giv eZ171
 (.giv eZ144
 (.giv eZ173
 (.giv eZ148
 (.giv eZ149
 (.giv eZ174
 (.giv eZ153
 (.rt eZ175)))))))))))))
 (.ite eZ136
 (.giv eZ137
 (.giv eZ139
 (.giv eZ165
 (.giv eZ166
 (.giv eZ144
 (.giv eZ168
 (.giv eZ148
 (.giv eZ149
 (.giv eZ169
 (.giv eZ153
 (.rt eZ170)))))))))))
 (.giv eZ137
 (.giv eZ139
 (.giv eZ165
 (.giv eZ171
 (.giv eZ144
 (.giv eZ173
 (.giv eZ148
 (.giv eZ149
 (.giv eZ174
 (.giv eZ153
 (.rt eZ175))))))))))))))
 (.ite eZ116
 (.ite eZ117
 (.giv eZ120
 (.giv eZ121
 (.giv eZ122
 (.giv eZ111
 (.giv eZ125
 (.giv eZ126
 (.giv eZ128
 (.giv eZ160
 (.giv eZ162
 (.giv eZ134
 (.rt eZ163)))))))))))
 (.ite eZ136
 (.giv eZ137
 (.giv eZ139
 (.giv eZ165
 (.giv eZ166
 (.giv eZ144
 (.giv eZ168
 (.giv eZ148
 (.giv eZ149
 (.giv eZ169
 (.giv eZ153
 (.rt eZ170)))))))))))
 (.giv eZ137
 (.giv eZ139
 (.giv eZ165
 (.giv eZ171
 (.giv eZ144
 (.giv eZ173
 (.giv eZ148
 (.giv eZ149
 (.giv eZ174
 (.giv eZ153
 (.rt eZ175)))))))))))))
 (.ite eZ136
 (.giv eZ137
 (.giv eZ139
 (.giv eZ165
 (.giv eZ166
 (.giv eZ144
 (.giv eZ168
 (.giv eZ148
 (.giv eZ149
 (.giv eZ169
 (.giv eZ153
 (.rt eZ170)))))))))))
 (.giv eZ137
 (.giv eZ139
 (.giv eZ165
 (.giv eZ171
 (.giv eZ144
 (.giv eZ173
 (.giv eZ148
 (.giv eZ149
 (.giv eZ174
 (.giv eZ153
 (.rt eZ175)))))))))))))))))
def trees_nprint : List Tree := []
noncomputable def deps_nprint : List Sig := [q_numcheck, q_repeat, q_itoa]
theorem ok_nprint : check q_nprint deps_nprint heads_nprint entry_nprint trees_nprint = true := by kernel_rfl
set_option maxHeartbeats 4000000 in
theorem nprint_more (n : Nat) : @Ok (I n) q_nprint (fun ds => okD n ds /\ 10 < n) := by
 letI := I n
 refine fn_okS (hphi n) ok_nprint (by
  intro q hq
  simp only [deps_nprint, List.mem_cons, List.not_mem_nil, or_false] at hq
  rcases hq with rfl | rfl | rfl
  ·exact okS_of (numcheck_ok n)
  ·exact repeat_ok n
  ·exact itoa_ok n) (fun _ _ _ => False) (fun _ _ => 0) ?_ (fun j h t d ds hj => by simp [heads_nprint] at hj)
 intro ds hf ⟨hp, hn⟩
 obtain ⟨a, d, x, rfl⟩ := one_num hf
 have hP : @Interp.phi (I n) 91 [.row [bD a, sD d, iD x]] = .row [sD (printV (a, d, x)).1, iD (printV (a, d, x)).2] := rfl
 have oi : ∀ k : Int, okD n [iD k] := fun k => okD_one.2 ⟨by simp only [D.sz]; omega, by simp only [D.Lim]⟩
 have oz : ∀ k : Int, okD n [sD (mkS [48]), iD k] := fun k => okD_two.2 ⟨by simp only [D.sz]; omega, lim_sD.2 (by decide), trivial⟩
 by_cases hv : numV a d x = 0
 case neg =>
  have h10 := (numV_or a d x).resolve_left hv
  simp only [entry_nprint, eZ107, eZ108, eZ109, eZ110, eZ111, eZ112, eZ113, eZ114, eZ115, eZ116, eZ117, eZ118, eZ119, eZ120, eZ121, eZ122, eZ123, eZ124, eZ125, eZ126, eZ127, eZ128, eZ129, eZ130, eZ131, eZ132, eZ133, eZ134, eZ135, eZ136, eZ137, eZ138, eZ139, eZ140, eZ141, eZ142, eZ143, eZ144, eZ145, eZ146, eZ147, eZ148, eZ149, eZ150, eZ151, eZ152, eZ153, eZ154, eZ155, eZ156, eZ157, eZ158, eZ159, eZ160, eZ161, eZ162, eZ163, eZ164, eZ165, eZ166, eZ167, eZ168, eZ169, eZ170, eZ171, eZ172, eZ173, eZ174, eZ175, q_nprint, Tree.holds, Out.den, E.den, E.denL, dn, List.getD_cons_zero, List.getD_cons_succ, List.length_map, phi_1000, phi_numcheck, hP, row_at0, row_at1, row_at2, hp, print_bad (t := (a, d, x)) hv, h10]
  exact ⟨fun _ => trivial, fun h => absurd h (by decide)⟩
 obtain ⟨hd, hpos, b1, b2, b3, _⟩ := num_first (t := (a, d, x)) hv
 simp only at hpos b1 b2 b3
 obtain ⟨c1, c2, c3⟩ := printC_size b2 b3 hpos b1
 have hst : (smallText (x + d.size - 1)).size <= 7 := smallText_size (by omega)
 have f1 : zer (if 0 < 1 - x - (d.size : Int) then 1 - x - d.size else 0) ++ d = printC d x := rfl
 have w1 : IntKind.i64.wrap ((d.size : Int) + x) = d.size + x := wrapI (by omega) (by omega)
 have w2 : IntKind.i64.wrap (1 - x) = 1 - x := wrapI (by omega) (by omega)
 have w3 : IntKind.i64.wrap (1 - x - (d.size : Int)) = 1 - x - d.size := wrapI (by omega) (by omega)
 have w4 : IntKind.i64.wrap (x + (d.size : Int)) = x + d.size := wrapI (by omega) (by omega)
 have w5 : IntKind.i64.wrap (x + (d.size : Int) - 1) = x + d.size - 1 := wrapI (by omega) (by omega)
 have w6 : IntKind.i64.wrap (((printC d x).size : Int) + x) = (printC d x).size + x := wrapI (by omega) (by omega)
 have e45 : (mkS [45]).size = 1 := rfl
 have e46 : (mkS [46]).size = 1 := rfl
 have e101 : (mkS [101]).size = 1 := rfl
 have e0 : (ByteArray.empty).size = 0 := rfl
 have h1n : (1 : Int).toNat = 1 := rfl
 simp only [entry_nprint, eZ107, eZ108, eZ109, eZ110, eZ111, eZ112, eZ113, eZ114, eZ115, eZ116, eZ117, eZ118, eZ119, eZ120, eZ121, eZ122, eZ123, eZ124, eZ125, eZ126, eZ127, eZ128, eZ129, eZ130, eZ131, eZ132, eZ133, eZ134, eZ135, eZ136, eZ137, eZ138, eZ139, eZ140, eZ141, eZ142, eZ143, eZ144, eZ145, eZ146, eZ147, eZ148, eZ149, eZ150, eZ151, eZ152, eZ153, eZ154, eZ155, eZ156, eZ157, eZ158, eZ159, eZ160, eZ161, eZ162, eZ163, eZ164, eZ165, eZ166, eZ167, eZ168, eZ169, eZ170, eZ171, eZ172, eZ173, eZ174, eZ175, q_nprint, Tree.holds, Out.den, E.den, E.denL, dn, List.getD_cons_zero, List.getD_cons_succ, List.length_map, phi_1000, phi_numcheck, phi_repeat, pre_repeat, phi_itoa, pre_itoa, hP, row_at0, row_at1, row_at2, hp, hv, bif_iD, oi, oz, w2, w3, f1, w1, w4, w5, w6, Int.toNat_zero, h1n, Int.toNat_natCast, not_true_eq_false, false_implies, true_implies, true_and]
 have hA := fun h => print_A (a := a) hv h
 have hB := fun h => print_B (a := a) hv h
 have hC := fun h h' => print_C (a := a) hv h h'
 have hz : (if 0 < 1 - x - (d.size : Int) then 1 - x - (d.size : Int) else 0) <= 1000 /\ 0 <= (if 0 < 1 - x - (d.size : Int) then 1 - x - (d.size : Int) else 0) := by split <;> omega
 generalize (if 0 < 1 - x - (d.size : Int) then 1 - x - (d.size : Int) else 0) = Z at *
 generalize printV (a, d, x) = R at *
 generalize printC d x = c at *
 generalize smallText (x + d.size - 1) = st at *
 have k1 : 1 < d.size -> (if 1 < d.size then mkS [46] else ByteArray.empty) = mkS [46] := fun h => if_pos h
 have k0 : ¬ 1 < d.size -> (if 1 < d.size then mkS [46] else ByteArray.empty) = ByteArray.empty := fun h => if_neg h
 cases a
 all_goals
  simp only [Bool.false_eq_true, reduceCtorEq, false_implies, true_implies, true_and, and_true]
  repeat' first | apply And.intro | intro _
 all_goals first
  | omega
  | (simp only [cat_size, zer_size, ByteArray.size_extract, e45, e46, e101, e0]; omega)
  | (rw [hA (by omega)]; rfl)
  | (rw [hB (by omega)]; rfl)
  | (rw [hC (by omega) (by omega), k1 (by omega)]; rfl)
  | (rw [hC (by omega) (by omega), k0 (by omega)]; rfl)
theorem nprint_ok (n : Nat) : @Ok (I n) q_nprint (okD n) :=
 ok_irrel (by decide) (@Ok.less (I (n + 20)) _ _ _ (nprint_more (n + 20)) fun ds h => ⟨⟨by have := h.1; omega, h.2⟩, by omega⟩)
end Go.Proofs.YtflhikakndanjaaDoor.Vk
/- NumTexts: its function answers true. -/
namespace Go.Proofs.YtflhikakndanjaaDoor.Vk
open Go Go.Ab Go.RowKit
end Go.Proofs.YtflhikakndanjaaDoor.Vk
/- Plain laws: rows of digits, the lowest first. -/
namespace Go.Proofs.YtflhikakndanjaaDoor.Vk
open Go Go.Ab Go.RowKit
def lv (B : Nat) : List UInt8 -> Nat
 | [] => 0
 | x :: r => x.toNat + B * lv B r
theorem lv_append (B : Nat) : ∀ a b : List UInt8, lv B (a ++ b) = lv B a + B ^ a.length * lv B b
 | [], b => by show lv B b = 0 + 1 * lv B b; omega
 | x :: r, b => by
  show x.toNat + B * lv B (r ++ b) = (x.toNat + B * lv B r) + B ^ (r.length + 1) * lv B b
  rw [lv_append B r b, Nat.pow_succ]
  grind
def LD (B : Nat) (l : List UInt8) : Prop := ∀ x, x ∈ l -> x.toNat < B
def Top (l : List UInt8) : Prop := ∀ r x, l = r ++ [x] -> x.toNat ≠ 0
theorem lv_top {B : Nat} (hB : 0 < B) {l : List UInt8} (h : l ≠ []) (ht : Top l) : B ^ (l.length - 1) <= lv B l := by
 have e := (List.dropLast_concat_getLast h).symm
 have hx := ht _ _ e
 generalize l.getLast h = x at *
 generalize l.dropLast = r at *
 subst e
 rw [lv_append, List.length_append]
 show B ^ (r.length + 1 - 1) <= lv B r + B ^ r.length * (x.toNat + B * 0)
 rw [Nat.add_sub_cancel, Nat.mul_zero, Nat.add_zero]
 have : B ^ r.length * 1 <= B ^ r.length * x.toNat := Nat.mul_le_mul_left _ (by omega)
 omega
theorem ld_set {B : Nat} {l : List UInt8} {k : Nat} {y : UInt8} (h : LD B l) (hy : y.toNat < B) : LD B (l.set k y) := fun x hx => by
 rcases List.mem_or_eq_of_mem_set hx with h1 | h1
 ·exact h x h1
 ·rw [h1]; exact hy
theorem ld_push {B : Nat} {l : List UInt8} {y : UInt8} (h : LD B l) (hy : y.toNat < B) : LD B (l ++ [y]) := fun x hx => by
 rcases List.mem_append.1 hx with h1 | h1
 ·exact h x h1
 ·rw [List.mem_singleton.1 h1]; exact hy
theorem set_take {l : List UInt8} {k : Nat} {y : UInt8} (h : k < l.length) : (l.set k y).take (k + 1) = l.take k ++ [y] := by
 rw [List.take_add_one, List.getElem?_set_self h, List.take_set_of_le (Nat.le_refl _)]
 rfl
theorem set_drop' {l : List UInt8} {k : Nat} {y : UInt8} : (l.set k y).drop (k + 1) = l.drop (k + 1) := List.drop_set_of_lt (by omega)
theorem byte_of {v : Nat} (h : v < 256) : (UInt8.ofNat v).toNat = v := by rw [UInt8.toNat_ofNat']; omega
def MulInv (B M : Nat) (l : List UInt8) (c k N : Nat) : Prop := k <= l.length /\ LD B l /\ lv B (l.take k) + B ^ k * c + M * (B ^ k * lv B (l.drop k)) = N
theorem mul_start {B M : Nat} {l : List UInt8} {c : Nat} (h : LD B l) : MulInv B M l c 0 (c + M * lv B l) := by
 refine ⟨Nat.zero_le _, h, ?_⟩
 show 0 + 1 * c + M * (1 * lv B l) = _
 rw [Nat.one_mul, Nat.one_mul]; omega
theorem mul_step {B M : Nat} {l : List UInt8} {c k N : Nat} {x : UInt8} (hB : 0 < B) (hB2 : B <= 256) (h : MulInv B M l c k N) (hx : l[k]? = some x) : MulInv B M (l.set k (UInt8.ofNat ((c + M * x.toNat) % B))) ((c + M * x.toNat) / B) (k + 1) N := by
 obtain ⟨h1, h2, h3⟩ := h
 have hk : k < l.length := by
  apply Classical.byContradiction
  intro hn
  rw [List.getElem?_eq_none (by omega)] at hx
  cases hx
 have hm := Nat.mod_lt (c + M * x.toNat) hB
 have hy := byte_of (v := (c + M * x.toNat) % B) (by omega)
 refine ⟨by rw [List.length_set]; omega, ld_set h2 (by rw [hy]; exact hm), ?_⟩
 have hd : l.drop k = x :: l.drop (k + 1) := by
  rw [List.drop_eq_getElem_cons hk]
  rw [List.getElem?_eq_getElem hk] at hx
  rw [Option.some.inj hx]
 have hdiv := Nat.div_add_mod (c + M * x.toNat) B
 rw [set_take hk, set_drop', lv_append, List.length_take, Nat.min_eq_left (by omega)]
 rw [hd] at h3
 have h3 : lv B (l.take k) + B ^ k * c + M * (B ^ k * (x.toNat + B * lv B (l.drop (k + 1)))) = N := h3
 show lv B (l.take k) + B ^ k * ((UInt8.ofNat ((c + M * x.toNat) % B)).toNat + B * 0) + B ^ (k + 1) * ((c + M * x.toNat) / B) + M * (B ^ (k + 1) * lv B (l.drop (k + 1))) = N
 rw [hy, Nat.pow_succ]
 generalize (c + M * x.toNat) % B = y at *
 generalize (c + M * x.toNat) / B = c' at *
 generalize B ^ k = P at *
 generalize lv B (l.drop (k + 1)) = L at *
 generalize lv B (l.take k) = T at *
 have : P * (B * c' + y) = P * (c + M * x.toNat) := by rw [hdiv]
 grind
theorem mul_end {B M : Nat} {l : List UInt8} {c N : Nat} (h : MulInv B M l c l.length N) : lv B l + B ^ l.length * c = N := by
 obtain ⟨_, _, h3⟩ := h
 rw [List.take_length, List.drop_length] at h3
 have h3 : lv B l + B ^ l.length * c + M * (B ^ l.length * 0) = N := h3
 rw [Nat.mul_zero, Nat.mul_zero, Nat.add_zero] at h3
 exact h3
theorem lv_push {B : Nat} (l : List UInt8) (y : UInt8) : lv B (l ++ [y]) = lv B l + B ^ l.length * y.toNat := by
 rw [lv_append]
 show lv B l + B ^ l.length * (y.toNat + B * 0) = _
 rw [Nat.mul_zero, Nat.add_zero]
theorem top_push {l : List UInt8} {y : UInt8} (h : y.toNat ≠ 0) : Top (l ++ [y]) := fun r x e => by
 have := List.append_inj_right' e rfl
 rw [<- (List.cons.inj this).1]; exact h
theorem top_iff {l : List UInt8} : Top l ↔ ∀ x, l[l.length - 1]? = some x -> x.toNat ≠ 0 := by
 constructor
 ·intro h x hx
  have hk : l.length - 1 < l.length := by
   apply Classical.byContradiction
   intro hn
   rw [List.getElem?_eq_none (by omega)] at hx
   cases hx
  refine h (l.take (l.length - 1)) x ?_
  have := List.take_append_drop (l.length - 1) l
  rw [List.getElem?_eq_getElem hk] at hx
  rw [List.drop_eq_getElem_cons hk, Option.some.inj hx, List.drop_eq_nil_of_le (by omega)] at this
  exact this.symm
 ·intro h r x e
  refine h x ?_
  rw [e, List.length_append]
  show (r ++ [x])[r.length + 1 - 1]? = some x
  rw [Nat.add_sub_cancel, List.getElem?_append_right (Nat.le_refl _), Nat.sub_self]; rfl
theorem top_set {l : List UInt8} {k : Nat} {y : UInt8} (h : Top l) (hk : k + 1 < l.length) : Top (l.set k y) := by
 rw [top_iff] at h ⊢
 intro x hx
 rw [List.length_set, List.getElem?_set_ne (by omega)] at hx
 exact h x hx
theorem top_last {l : List UInt8} {k : Nat} {y : UInt8} (hy : y.toNat ≠ 0) (hk : k + 1 = l.length) : Top (l.set k y) := by
 rw [top_iff]
 intro x hx
 rw [List.length_set, show l.length - 1 = k by omega, List.getElem?_set_self (by omega)] at hx
 rw [<- Option.some.inj hx]; exact hy
theorem top_at {l : List UInt8} {k : Nat} {x : UInt8} (h : Top l) (hx : l[k]? = some x) (hk : k + 1 = l.length) : x.toNat ≠ 0 := by
 refine top_iff.1 h x ?_
 rw [show l.length - 1 = k by omega]; exact hx
def asc (x : UInt8) : UInt8 := UInt8.ofNat (x.toNat + 48)
theorem asc_nat {x : UInt8} (h : x.toNat < 10) : (asc x).toNat = x.toNat + 48 := by unfold asc; rw [UInt8.toNat_ofNat']; omega
theorem asc_dig {l : List UInt8} (h : LD 10 l) : Dig (l.map asc).reverse := fun x hx => by
 rw [List.mem_reverse, List.mem_map] at hx
 obtain ⟨y, hy, rfl⟩ := hx
 have := h y hy
 rw [asc_nat this]; omega
theorem asc_dv : ∀ l : List UInt8, LD 10 l -> dv (l.map asc).reverse = lv 10 l
 | [], _ => rfl
 | x :: r, h => by
  have h1 := asc_dv r fun y hy => h y (List.mem_cons_of_mem _ hy)
  have h2 := asc_nat (h x (List.mem_cons_self ..))
  rw [List.map_cons, List.reverse_cons, show dv ((r.map asc).reverse ++ [asc x]) = dv (r.map asc).reverse * 10 + ((asc x).toNat - 48) from dvA_snoc 0 _ _, h1, h2]
  show lv 10 r * 10 + (x.toNat + 48 - 48) = x.toNat + 10 * lv 10 r
  omega
def mid (l : List UInt8) (k : Nat) : List UInt8 := (l.take k).map asc ++ l.drop k
theorem mid_len {l : List UInt8} {k : Nat} (h : k <= l.length) : (mid l k).length = l.length := by
 unfold mid
 rw [List.length_append, List.length_map, List.length_take, List.length_drop]; omega
theorem mid_get {l : List UInt8} {k : Nat} (h : k < l.length) : (mid l k)[k]? = l[k]? := by
 unfold mid
 rw [List.getElem?_append_right (by rw [List.length_map, List.length_take]; omega), List.length_map, List.length_take, Nat.min_eq_left (by omega), Nat.sub_self, List.getElem?_drop, Nat.add_zero]
theorem mid_set {l : List UInt8} {k : Nat} {x : UInt8} (h : l[k]? = some x) : (mid l k).set k (asc x) = mid l (k + 1) := by
 have hk : k < l.length := by
  apply Classical.byContradiction
  intro hn
  rw [List.getElem?_eq_none (by omega)] at h
  cases h
 have hd : l.drop k = x :: l.drop (k + 1) := by
  rw [List.drop_eq_getElem_cons hk]
  rw [List.getElem?_eq_getElem hk] at h
  rw [Option.some.inj h]
 unfold mid
 rw [List.set_append_right _ _ (by rw [List.length_map, List.length_take]; omega), List.length_map, List.length_take, Nat.min_eq_left (by omega), Nat.sub_self, hd, List.set_cons_zero, List.take_add_one, h, Option.toList_some, List.map_append, List.append_assoc]
 rfl
theorem mid_all (l : List UInt8) : mid l l.length = l.map asc := by
 unfold mid
 rw [List.take_length, List.drop_length, List.append_nil]
theorem byts_rev : ∀ l : List UInt8, (l ≠ [] -> Top l) -> l.reverse = byts (lv 256 l)
 | [], _ => by
  show [] = byts 0
  rw [byts_zero]
 | x :: r, h => by
  have hx : x.toNat < 256 := x.toNat_lt
  show (x :: r).reverse = byts (x.toNat + 256 * lv 256 r)
  have hne : x.toNat + 256 * lv 256 r ≠ 0 := fun h0 => by
   have := lv_top (B := 256) (by decide) (l := x :: r) (by simp) (h (by simp))
   have h1 : lv 256 (x :: r) = 0 := h0
   rw [h1] at this
   have := Nat.pow_pos (n := (x :: r).length - 1) (show 0 < 256 by decide)
   omega
  rw [byts_pos hne, show (x.toNat + 256 * lv 256 r) / 256 = lv 256 r by omega, show (x.toNat + 256 * lv 256 r) % 256 = x.toNat by omega, UInt8.ofNat_toNat, List.reverse_cons]
  have ih := byts_rev r fun hr => fun q y e => h (by simp) (x :: q) y (by rw [e]; rfl)
  rw [ih]
theorem bv_snoc (l : List UInt8) (x : UInt8) (acc : Nat) : bvA acc (l ++ [x]) = bvA acc l * 256 + x.toNat := by
 rw [bvA_append]; rfl
theorem bv_le : ∀ (l : List UInt8) (acc : Nat), acc <= bvA acc l
 | [], acc => Nat.le_refl _
 | x :: r, acc => Nat.le_trans (by omega) (bv_le r (acc * 256 + x.toNat))
theorem bv_lt : ∀ (l : List UInt8) (acc k : Nat), acc < 10 ^ k -> bvA acc l < 10 ^ (k + 3 * l.length)
 | [], acc, k, h => h
 | x :: r, acc, k, h => by
  have hx : x.toNat < 256 := x.toNat_lt
  have h1 : acc * 256 + x.toNat < 10 ^ (k + 3) := by
   rw [Nat.pow_add]
   have e : (10 : Nat) ^ 3 = 1000 := by decide
   rw [e]; omega
  have := bv_lt r (acc * 256 + x.toNat) (k + 3) h1
  rw [List.length_cons, show k + 3 * (r.length + 1) = k + 3 + 3 * r.length by omega]
  exact this
def e443 : Nat := 443
theorem made_far {ng : Bool} {m : Nat} (h : 10 ^ e443 <= m) (hm : (digs m).length <= 5000000) : madeV ng ⟨(digs m).toArray⟩ 0 = (noNumT, 2) := by
 have h0 : m ≠ 0 := by have := pow_pos10 e443; omega
 have hl : e443 < (digs m).length := by
  have h1 := dv_lt _ (digs_dig m)
  rw [dv_digs] at h1
  exact (Nat.pow_lt_pow_iff_right (by decide)).1 (Nat.lt_of_le_of_lt h h1)
 have hl : 443 < (digs m).length := hl
 have hr := cutR_size ⟨(digs m).toArray⟩ one
 rw [bytes_len (digs m)] at hr
 unfold madeV
 rw [cutL_self, if_neg (digs_ne h0)]
 simp only [bytes_len (digs m)]
 rw [wrapN (i := 0 + ((digs m).length : Int)) (by omega) (by omega), wrapN (by omega) (by omega), if_neg]
 intro hv
 obtain ⟨g1, g2, g3⟩ := numV_num hv
 omega
end Go.Proofs.YtflhikakndanjaaDoor.Vk
/- Contracts: slices.Reverse, num.Of, num.Bytes. -/
namespace Go.Proofs.YtflhikakndanjaaDoor.Vk
open Go Go.Ab Go.RowKit
theorem bytes_at {l : List UInt8} {i : Nat} {x : UInt8} (h : l[i]? = some x) : cellAt (Go.Ab.rowAt (bytesD l) (i : Int)) 0 = .v (.int .u8 x.toNat) := by
 unfold bytesD
 rw [rowAt_map h]; rfl
theorem bytes_push (l : List UInt8) (v : Nat) (h1 : v < 256) : D.lst ((bytesD l).rows ++ [D.row [.v (.int .u8 (v : Int))]]) = bytesD (l ++ [UInt8.ofNat v]) := by
 show D.lst (l.map _ ++ _) = _
 unfold bytesD
 rw [List.map_append, List.map_cons, List.map_nil, byte_of h1]
theorem bytes_one (v : Nat) (h1 : v < 256) : D.lst [D.row [.v (.int .u8 (v : Int))]] = bytesD [UInt8.ofNat v] := bytes_push [] v h1
theorem bytes_szL (l : List UInt8) : D.szL (l.map fun c => D.row [.v (.int .u8 c.toNat)]) = 2 * l.length := by
 induction l with
 | nil => rfl
 | cons x r ih =>
  rw [List.map_cons, szL_cons, ih, List.length_cons, sz_row]
  simp only [D.szL, D.sz]
  omega
theorem bytes_sz (l : List UInt8) : (bytesD l).sz = 2 * l.length + 1 := by
 unfold bytesD
 rw [sz_lst, bytes_szL]
theorem bytes_lim {l : List UInt8} : (bytesD l).Lim ↔ l.length <= lim := by
 unfold bytesD
 rw [lim_lst, List.length_map, limL_map]
 simp only [D.Lim, D.LimL, and_true, implies_true]
theorem den_los (s : ByteArray) : Prim.los.den [sD s] = bytesD s.data.toList := rfl
theorem den_shr (k : IntKind) (a b : D) : Prim.den (.iop .shr k) [a, b] = .v (.int k (a.int.fdiv (2 ^ (min b.int.toNat k.bits)))) := rfl
theorem wrapB (x : UInt8) : IntKind.i64.wrap (x.toNat : Int) = (x.toNat : Int) := by
 have := x.toNat_lt
 exact wrapI (by omega) (by omega)
theorem wrapK' {i : Int} {k : Nat} (h : i = k) (hk : k <= 1099511627776) : IntKind.i64.wrap i = (k : Int) := by
 rw [h, wrapI (by omega) (by omega)]
theorem wrapB8 {k : Nat} (h : k < 256) : IntKind.u8.wrap (k : Int) = (k : Int) := wrap8 (by omega) (by omega)
-- head 0 of loop 0: [t0 .ar 5, t2 .sh (.cell (.sc (.i .i64))), t3 .sh (.cell (.sc (.i .i64)))]
def heads_reverse : List HdM := [⟨0, [.ar 5, .any, .sh (.cell (.sc (.i .i64))), .sh (.cell (.sc (.i .i64))), .any, .any, .any, .any, .any, .any, .any, .any, .any, .any, .any, .any, .any, .any, .any, .any, .any, .any, .any, .any, .any, .any, .any, .any], [0]⟩]
def entry_reverse : Tree :=
 (.g 0 [.v0, (.i 0), (.pr (.iop .sub .i64) [(.n .v0), (.i 1)])])
def head_reverse_0 : Tree :=
 (.ite (.lt .v1 .v2)
 (.giv (.le (.i 0) .v2)
 (.giv (.lt .v2 (.n .v0))
 (.giv (.le (.i 0) .v1)
 (.giv (.lt .v1 (.n .v0))
 (.g 0 [(.pr .upd [(.pr .upd [.v0, .v1, (.pr .row [(.c 0 (.a .v0 .v2))])]), .v2, (.pr .row [(.c 0 (.a .v0 .v1))])]), (.pr (.iop .add .i64) [.v1, (.i 1)]), (.pr (.iop .sub .i64) [.v2, (.i 1)])])))))
 (.rt (.pr .row [.v0])))
def trees_reverse : List Tree := [head_reverse_0]
noncomputable def deps_reverse : List Sig := []
noncomputable def depsM_reverse : List SigM := []
theorem ok_reverse : checkM q_reverse deps_reverse depsM_reverse heads_reverse entry_reverse trees_reverse = true := by kernel_rfl
theorem rev_get {l : List UInt8} {t : Nat} (h : t < l.length) : l.reverse[t]? = l[l.length - 1 - t]? := List.getElem?_reverse h
def RevInv (l m : List UInt8) (i : Nat) : Prop := m.length = l.length /\ ∀ t, t < l.length -> m[t]? = if t < i \/ l.length - i <= t then l[l.length - 1 - t]? else l[t]?
theorem reverse_ok (n : Nat) : @OkM (I n) q_reverse (@okS (I n) n q_reverse.g) := by
 letI := I n
 refine fn_okM (hphi n) ok_reverse (by intro q hq; simp [deps_reverse] at hq) (by intro q hq; simp [depsM_reverse] at hq)
  (fun _ d ds => ∃ (l m : List UInt8) (i : Nat), ds = [bytesD m, iD i, iD ((l.length : Int) - 1 - i)] /\ 2 * i <= l.length + 1 /\ l.length <= 1000000 /\ RevInv l m i /\ d = .row [bytesD l.reverse])
  (fun _ ds => ((ds.getD 2 .nil).int - (ds.getD 1 .nil).int + 5).toNat) ?_ ?_
 ·intro ds hf hp
  match ds, hf with
  | [d0], hf =>
  obtain ⟨l, rfl, hl⟩ := (pre_reverse n d0).1 (hp.2 rfl)
  simp only [entry_reverse, q_reverse, Tree.holds, Out.den, E.den, E.denL, dn, List.getD_cons_zero, List.getD_cons_succ, List.length_map, phi_1000, phi_reverse, bytes_rows]
  refine ⟨l, l, 0, ?_, by omega, hl, ⟨rfl, fun t ht => ?_⟩, rfl⟩
  ·rw [wrapI (i := (l.length : Int) - 1) (by omega) (by omega), show (l.length : Int) - 1 - ((0 : Nat) : Int) = (l.length : Int) - 1 by omega]
   rfl
  ·rw [if_neg (by omega)]
 ·rintro j h t d ds hj ht hf ⟨l, m, i, rfl, hi, hl, ⟨hm, hr⟩, rfl⟩
  obtain rfl : t = head_reverse_0 := by
   match j, ht with
   | 0, ht => exact (Option.some.inj ht).symm
  by_cases hlt : (i : Int) < (l.length : Int) - 1 - i
  ·obtain ⟨j', hj'⟩ : ∃ j' : Nat, (l.length : Int) - 1 - i = j' := ⟨l.length - 1 - i, by omega⟩
   have hjl : j' = l.length - 1 - i := by omega
   obtain ⟨x, hx⟩ : ∃ x, m[i]? = some x := ⟨m[i]'(by omega), List.getElem?_eq_getElem (by omega)⟩
   obtain ⟨y, hy⟩ : ∃ y, m[j']? = some y := ⟨m[j']'(by omega), List.getElem?_eq_getElem (by omega)⟩
   have hxl := x.toNat_lt
   have hyl := y.toNat_lt
   have e1 : Prim.upd.den [bytesD m, iD (i : Int), .row [.v (.int .u8 (y.toNat : Int))]] = bytesD (m.set i y) := by
    rw [bytes_upd m i _ (by omega) (by omega), Int.toNat_natCast, UInt8.ofNat_toNat]
   have e2 : Prim.upd.den [bytesD (m.set i y), iD (j' : Int), .row [.v (.int .u8 (x.toNat : Int))]] = bytesD ((m.set i y).set j' x) := by
    rw [bytes_upd _ j' _ (by omega) (by omega), Int.toNat_natCast, UInt8.ofNat_toNat]
   have w1 : IntKind.i64.wrap ((i : Int) + 1) = ((i + 1 : Nat) : Int) := wrapK' (by omega) (by omega)
   have w2 : IntKind.i64.wrap ((j' : Int) - 1) = (l.length : Int) - 1 - ((i + 1 : Nat) : Int) := by rw [wrapI (by omega) (by omega)]; omega
   rw [hj']
   simp only [head_reverse_0, Tree.holds, Out.den, E.den, E.denL, dn, List.getD_cons_zero, List.getD_cons_succ, List.length_map, phi_1000, bytes_at hx, bytes_at hy, e1, e2, bytes_rows, w1, w2]
   refine ⟨fun _ => ⟨by omega, by omega, by omega, by omega, ⟨l, (m.set i y).set j' x, i + 1, rfl, by omega, hl, ⟨by rw [List.length_set, List.length_set]; exact hm, fun t ht => ?_⟩, rfl⟩, by omega⟩, fun h => by omega⟩
   have hri := hr i (by omega)
   have hrj := hr j' (by omega)
   rw [if_neg (by omega), hx] at hri
   rw [if_neg (by omega), hy] at hrj
   by_cases c1 : t = j'
   ·rw [c1, List.getElem?_set_self (by rw [List.length_set]; omega), if_pos (by omega), show l.length - 1 - j' = i by omega]; exact hri
   ·rw [List.getElem?_set_ne (by omega)]
    by_cases c2 : t = i
    ·rw [c2, List.getElem?_set_self (by omega), if_pos (by omega), <- hjl]; exact hrj
    ·rw [List.getElem?_set_ne (by omega), hr t ht]
     by_cases c3 : t < i \/ l.length - i <= t
     ·rw [if_pos c3, if_pos (by omega)]
     ·rw [if_neg c3, if_neg (by omega)]
  ·simp only [head_reverse_0, Tree.holds, Out.den, E.den, E.denL, dn, List.getD_cons_zero, List.getD_cons_succ, List.length_map, phi_1000]
   refine ⟨fun h => absurd h hlt, fun _ => ?_⟩
   have : m = l.reverse := by
    apply List.ext_getElem?
    intro t
    by_cases ht : t < l.length
    ·rw [hr t ht, rev_get ht]
     by_cases c : t < i \/ l.length - i <= t
     ·rw [if_pos c]
     ·rw [if_neg c, show l.length - 1 - t = t by omega]
    ·rw [List.getElem?_eq_none (by omega), List.getElem?_eq_none (by rw [List.length_reverse]; omega)]
   rw [this]
theorem reverse_goes (n : Nat) : @Goes (I n) q_reverse := fun h => by cases h
abbrev gI (ds : List D) (i : Nat) : Int := (ds.getD i .nil).int
def OfR (ng : Bool) (b : List UInt8) : D := .row [numD (ofV ng b).1, iD (ofV ng b).2]
def Of0 (ng : Bool) (z : D) (b : List UInt8) (ds : List D) : Prop := ∃ (l : List UInt8) (i : Nat), ds = [bD ng, z, bytesD l, bytesD b, iD b.length, iD i] /\ i <= b.length /\ LD 10 l /\ l ≠ [] /\ Top l /\ l.length <= 443 /\ lv 10 l = bvA 0 (b.take i)
def Of1 (ng : Bool) (z : D) (b : List UInt8) (ds : List D) : Prop := ∃ i : Nat, ds = [bD ng, z, bytesD b, iD b.length, iD i] /\ i <= b.length /\ bvA 0 (b.take i) = 0
def Of2 (ng : Bool) (z : D) (b : List UInt8) (ds : List D) : Prop := ∃ (l : List UInt8) (i : Nat) (x : UInt8) (c k : Nat), ds = [bD ng, z, bytesD l, iD c, bytesD b, iD b.length, iD i, iD l.length, iD k] /\ b[i]? = some x /\ l ≠ [] /\ l.length <= 443 /\
 MulInv 10 256 l c k (x.toNat + 256 * bvA 0 (b.take i)) /\ c <= 256 /\ ((k < l.length /\ Top l) \/ (k = l.length /\ 0 < c))
def Of3 (ng : Bool) (z : D) (b : List UInt8) (ds : List D) : Prop := ∃ (i : Nat) (x : UInt8), ds = [bD ng, z, iD x.toNat, bytesD b, iD b.length, iD i, iD 0, iD 0] /\ b[i]? = some x /\ bvA 0 (b.take i) = 0
def Of4 (ng : Bool) (z : D) (b : List UInt8) (ds : List D) : Prop := ∃ (l : List UInt8) (i : Nat) (x : UInt8) (c : Nat), ds = [bD ng, z, bytesD l, iD c, bytesD b, iD b.length, iD i] /\ b[i]? = some x /\ l ≠ [] /\ LD 10 l /\
 lv 10 l + 10 ^ l.length * c = bvA 0 (b.take (i + 1)) /\ c <= 256 /\ (c = 0 -> Top l) /\ (l.length <= 446 /\ (0 < c -> l.length <= 445) /\ (10 <= c -> l.length <= 444) /\ (100 <= c -> l.length <= 443))
def Of5 (ng : Bool) (z : D) (b : List UInt8) (ds : List D) : Prop := ∃ (i : Nat) (x : UInt8), ds = [bD ng, z, iD x.toNat, bytesD b, iD b.length, iD i] /\ b[i]? = some x /\ bvA 0 (b.take i) = 0
def Of6 (ng : Bool) (z : D) (b : List UInt8) (ds : List D) : Prop := ∃ (l : List UInt8) (k : Nat), ds = [bD ng, z, bytesD (mid l k), iD l.length, iD k] /\ k <= l.length /\ LD 10 l /\ l.length <= 443 /\ lv 10 l = bvA 0 b
def Of7 (ng : Bool) (z : D) (b : List UInt8) (ds : List D) : Prop := ds = [bD ng, z, iD 0, iD 0] /\ bvA 0 b = 0
def OfInv (n j : Nat) (d : D) (ds : List D) : Prop := ∃ (ng : Bool) (z : D) (b : List UInt8), 2000 < n /\ b.length <= 1000000 /\ d = OfR ng b /\ (match j with
 | 0 => Of0 ng z b ds | 1 => Of1 ng z b ds | 2 => Of2 ng z b ds | 3 => Of3 ng z b ds | 4 => Of4 ng z b ds | 5 => Of5 ng z b ds | 6 => Of6 ng z b ds | 7 => Of7 ng z b ds | _ => False)
def ofM (j : Nat) (ds : List D) : Nat := match j with
 | 0 => 2000 * (gI ds 4 - gI ds 5).toNat + 1950
 | 1 => 2000 * (gI ds 3 - gI ds 4).toNat + 1950
 | 2 => 2000 * (gI ds 5 - gI ds 6).toNat + 1900 - (gI ds 8).toNat
 | 3 => 2000 * (gI ds 4 - gI ds 5).toNat + 1900
 | 4 => 2000 * (gI ds 5 - gI ds 6).toNat + 300 + (gI ds 3).toNat
 | 5 => 2000 * (gI ds 4 - gI ds 5).toNat + 1000
 | 6 => 500 + (gI ds 3 - gI ds 4).toNat
 | _ => 0
theorem bv_next {b : List UInt8} {i : Nat} {x : UInt8} (h : b[i]? = some x) : bvA 0 (b.take (i + 1)) = x.toNat + 256 * bvA 0 (b.take i) := by
 rw [take_snoc h, bv_snoc]; omega
theorem idx_lt {α : Type} {b : List α} {i : Nat} {x : α} (h : b[i]? = some x) : i < b.length := (List.getElem?_eq_some_iff.1 h).1
theorem of_made {ng : Bool} {b l : List UInt8} (hl : LD 10 l) (h : lv 10 l = bvA 0 b) : madeV ng ⟨(l.map asc).reverse.toArray⟩ 0 = ofV ng b := by
 unfold ofV
 exact made_dv (by rw [bytes_list]; exact asc_dig hl) (by rw [bytes_list, asc_dv l hl, h]) fun _ => rfl
theorem bv_take (b : List UInt8) (i : Nat) : bvA 0 (b.take i) <= bvA 0 b := by
 conv => rhs; rw [<- List.take_append_drop i b, bvA_append]
 exact bv_le _ _
theorem of_far {ng : Bool} {b l : List UInt8} {i : Nat} (hb : b.length <= 1000000) (hl : LD 10 l) (hne : l ≠ []) (ht : Top l) (h : lv 10 l = bvA 0 (b.take i)) (hf : 443 < l.length) : ofV ng b = (noNumT, 2) := by
 unfold ofV
 refine made_far ?_ ?_
 ·have h1 := lv_top (B := 10) (by decide) hne ht
  rw [h] at h1
  have h2 : 10 ^ e443 <= 10 ^ (l.length - 1) := Nat.pow_le_pow_right (by decide) (show 443 <= _ by omega)
  exact Nat.le_trans h2 (Nat.le_trans h1 (bv_take b i))
 ·have h3 := bv_lt b 0 0 (by decide)
  exact Nat.le_trans (digs_len h3) (by omega)
-- head 0 of loop 0: [t0 .sh (.cell (.sc .b)), t4 .bx 24 107374182400, t6 .ar 5, t12 .sh (.cell (.sl 5)), t13 .sh (.cell (.sc (.i .i64))), t14 .sh (.cell (.sc (.i .i64)))]
-- head 1 of loop 0: [t0 .sh (.cell (.sc .b)), t4 .bx 24 107374182400, t6 .con (.v (.slice none 0 0)), t12 .sh (.cell (.sl 5)), t13 .sh (.cell (.sc (.i .i64))), t14 .sh (.cell (.sc (.i .i64)))]
-- head 2 of loop 1: [t0 .sh (.cell (.sc .b)), t4 .bx 24 107374182400, t6 .ar 5, t9 .sh (.cell (.sc (.i .i64))), t12 .sh (.cell (.sl 5)), t13 .sh (.cell (.sc (.i .i64))), t14 .sh (.cell (.sc (.i .i64))), t21 .sh (.cell (.sc (.i .i64))), t22 .sh (.cell (.sc (.i .i64)))]
-- head 3 of loop 1: [t0 .sh (.cell (.sc .b)), t4 .bx 24 107374182400, t6 .con (.v (.slice none 0 0)), t9 .sh (.cell (.sc (.i .i64))), t12 .sh (.cell (.sl 5)), t13 .sh (.cell (.sc (.i .i64))), t14 .sh (.cell (.sc (.i .i64))), t21 .sh (.cell (.sc (.i .i64))), t22 .sh (.cell (.sc (.i .i64)))]
-- head 4 of loop 2: [t0 .sh (.cell (.sc .b)), t4 .bx 24 107374182400, t6 .ar 5, t9 .sh (.cell (.sc (.i .i64))), t12 .sh (.cell (.sl 5)), t13 .sh (.cell (.sc (.i .i64))), t14 .sh (.cell (.sc (.i .i64)))]
-- head 5 of loop 2: [t0 .sh (.cell (.sc .b)), t4 .bx 24 107374182400, t6 .con (.v (.slice none 0 0)), t9 .sh (.cell (.sc (.i .i64))), t12 .sh (.cell (.sl 5)), t13 .sh (.cell (.sc (.i .i64))), t14 .sh (.cell (.sc (.i .i64)))]
-- head 6 of loop 3: [t0 .sh (.cell (.sc .b)), t4 .bx 24 107374182400, t6 .ar 5, t58 .sh (.cell (.sc (.i .i64))), t59 .sh (.cell (.sc (.i .i64)))]
-- head 7 of loop 3: [t0 .sh (.cell (.sc .b)), t4 .bx 24 107374182400, t6 .con (.v (.slice none 0 0)), t58 .sh (.cell (.sc (.i .i64))), t59 .sh (.cell (.sc (.i .i64)))]
def heads_nof : List Hd := [⟨0, [.sh (.cell (.sc .b)), .any, .any, .any, .bx 24 107374182400, .any, .ar 5, .any, .any, .any, .any, .any, .sh (.cell (.sl 5)), .sh (.cell (.sc (.i .i64))), .sh (.cell (.sc (.i .i64))), .any, .any, .any, .any, .any, .any, .any, .any, .any, .any, .any, .any, .any, .any, .any, .any, .any, .any, .any, .any, .any, .any, .any, .any, .any, .any, .any, .any, .any, .any, .any, .any, .any, .any, .any, .any, .any, .any, .any, .any, .any, .any, .any, .any, .any, .any, .any, .any, .any, .any, .any, .any, .any, .any, .any, .any, .any, .any, .any, .any, .any, .any]⟩, ⟨0, [.sh (.cell (.sc .b)), .any, .any, .any, .bx 24 107374182400, .any, .con (.v (.slice none 0 0)), .any, .any, .any, .any, .any, .sh (.cell (.sl 5)), .sh (.cell (.sc (.i .i64))), .sh (.cell (.sc (.i .i64))), .any, .any, .any, .any, .any, .any, .any, .any, .any, .any, .any, .any, .any, .any, .any, .any, .any, .any, .any, .any, .any, .any, .any, .any, .any, .any, .any, .any, .any, .any, .any, .any, .any, .any, .any, .any, .any, .any, .any, .any, .any, .any, .any, .any, .any, .any, .any, .any, .any, .any, .any, .any, .any, .any, .any, .any, .any, .any, .any, .any, .any, .any]⟩, ⟨1, [.sh (.cell (.sc .b)), .any, .any, .any, .bx 24 107374182400, .any, .ar 5, .any, .any, .sh (.cell (.sc (.i .i64))), .any, .any, .sh (.cell (.sl 5)), .sh (.cell (.sc (.i .i64))), .sh (.cell (.sc (.i .i64))), .any, .any, .any, .any, .any, .any, .sh (.cell (.sc (.i .i64))), .sh (.cell (.sc (.i .i64))), .any, .any, .any, .any, .any, .any, .any, .any, .any, .any, .any, .any, .any, .any, .any, .any, .any, .any, .any, .any, .any, .any, .any, .any, .any, .any, .any, .any, .any, .any, .any, .any, .any, .any, .any, .any, .any, .any, .any, .any, .any, .any, .any, .any, .any, .any, .any, .any, .any, .any, .any, .any, .any, .any]⟩, ⟨1, [.sh (.cell (.sc .b)), .any, .any, .any, .bx 24 107374182400, .any, .con (.v (.slice none 0 0)), .any, .any, .sh (.cell (.sc (.i .i64))), .any, .any, .sh (.cell (.sl 5)), .sh (.cell (.sc (.i .i64))), .sh (.cell (.sc (.i .i64))), .any, .any, .any, .any, .any, .any, .sh (.cell (.sc (.i .i64))), .sh (.cell (.sc (.i .i64))), .any, .any, .any, .any, .any, .any, .any, .any, .any, .any, .any, .any, .any, .any, .any, .any, .any, .any, .any, .any, .any, .any, .any, .any, .any, .any, .any, .any, .any, .any, .any, .any, .any, .any, .any, .any, .any, .any, .any, .any, .any, .any, .any, .any, .any, .any, .any, .any, .any, .any, .any, .any, .any, .any]⟩, ⟨2, [.sh (.cell (.sc .b)), .any, .any, .any, .bx 24 107374182400, .any, .ar 5, .any, .any, .sh (.cell (.sc (.i .i64))), .any, .any, .sh (.cell (.sl 5)), .sh (.cell (.sc (.i .i64))), .sh (.cell (.sc (.i .i64))), .any, .any, .any, .any, .any, .any, .any, .any, .any, .any, .any, .any, .any, .any, .any, .any, .any, .any, .any, .any, .any, .any, .any, .any, .any, .any, .any, .any, .any, .any, .any, .any, .any, .any, .any, .any, .any, .any, .any, .any, .any, .any, .any, .any, .any, .any, .any, .any, .any, .any, .any, .any, .any, .any, .any, .any, .any, .any, .any, .any, .any, .any]⟩, ⟨2, [.sh (.cell (.sc .b)), .any, .any, .any, .bx 24 107374182400, .any, .con (.v (.slice none 0 0)), .any, .any, .sh (.cell (.sc (.i .i64))), .any, .any, .sh (.cell (.sl 5)), .sh (.cell (.sc (.i .i64))), .sh (.cell (.sc (.i .i64))), .any, .any, .any, .any, .any, .any, .any, .any, .any, .any, .any, .any, .any, .any, .any, .any, .any, .any, .any, .any, .any, .any, .any, .any, .any, .any, .any, .any, .any, .any, .any, .any, .any, .any, .any, .any, .any, .any, .any, .any, .any, .any, .any, .any, .any, .any, .any, .any, .any, .any, .any, .any, .any, .any, .any, .any, .any, .any, .any, .any, .any, .any]⟩, ⟨3, [.sh (.cell (.sc .b)), .any, .any, .any, .bx 24 107374182400, .any, .ar 5, .any, .any, .any, .any, .any, .any, .any, .any, .any, .any, .any, .any, .any, .any, .any, .any, .any, .any, .any, .any, .any, .any, .any, .any, .any, .any, .any, .any, .any, .any, .any, .any, .any, .any, .any, .any, .any, .any, .any, .any, .any, .any, .any, .any, .any, .any, .any, .any, .any, .any, .any, .sh (.cell (.sc (.i .i64))), .sh (.cell (.sc (.i .i64))), .any, .any, .any, .any, .any, .any, .any, .any, .any, .any, .any, .any, .any, .any, .any, .any, .any]⟩, ⟨3, [.sh (.cell (.sc .b)), .any, .any, .any, .bx 24 107374182400, .any, .con (.v (.slice none 0 0)), .any, .any, .any, .any, .any, .any, .any, .any, .any, .any, .any, .any, .any, .any, .any, .any, .any, .any, .any, .any, .any, .any, .any, .any, .any, .any, .any, .any, .any, .any, .any, .any, .any, .any, .any, .any, .any, .any, .any, .any, .any, .any, .any, .any, .any, .any, .any, .any, .any, .any, .any, .sh (.cell (.sc (.i .i64))), .sh (.cell (.sc (.i .i64))), .any, .any, .any, .any, .any, .any, .any, .any, .any, .any, .any, .any, .any, .any, .any, .any, .any]⟩]
def eZ176 : E := (.pr .row [(.lit (.bool false)), (.lit (.string .empty)), (.i 0)])
def eZ177 : E := (.r3 .v1)
def eZ178 : E := (.pr (.iop .add .i64) [.v3, (.pr (.iop .mul .i64) [(.i 256), (.pr (.conv .i64) [(.c 0 (.a .v2 .v8))])])])
def eZ179 : E := (.pr .cat [.v2, (.pr .lst [(.pr .row [(.pr (.conv .u8) [(.pr (.iop .rem .i64) [.v3, (.i 10)])])])])])
def eZ180 : E := (.pr .sofl [(.pr .sub [(.c 0 (.app 82 [.v2])), (.i 0), (.n .v2)])])
def entry_nof : Tree :=
 (.g 1 [.v0, eZ176, .v1, (.n .v1), (.i 0)])
def head_nof_0 : Tree :=
 (.ite (.lt .v5 .v4)
 (.giv (.le (.i 0) .v5)
 (.giv (.lt .v5 (.n .v3))
 (.g 2 [.v0, eZ177, .v2, (.pr (.conv .i64) [(.c 0 (.a .v3 .v5))]), .v3, .v4, .v5, (.n .v2), (.i 0)])))
 (.g 6 [.v0, eZ177, .v2, (.n .v2), (.i 0)]))
def head_nof_1 : Tree :=
 (.ite (.lt .v4 .v3)
 (.giv (.le (.i 0) .v4)
 (.giv (.lt .v4 (.n .v2))
 (.g 3 [.v0, eZ177, (.pr (.conv .i64) [(.c 0 (.a .v2 .v4))]), .v2, .v3, .v4, (.i 0), (.i 0)])))
 (.g 7 [.v0, eZ177, (.i 0), (.i 0)]))
def head_nof_2 : Tree :=
 (.ite (.lt .v8 .v7)
 (.giv (.le (.i 0) .v8)
 (.giv (.lt .v8 (.n .v2))
 (.g 2 [.v0, eZ177, (.pr .upd [.v2, .v8, (.pr .row [(.pr (.conv .u8) [(.pr (.iop .rem .i64) [eZ178, (.i 10)])])])]), (.pr (.iop .quo .i64) [eZ178, (.i 10)]), .v4, .v5, .v6, .v7, (.pr (.iop .add .i64) [.v8, (.i 1)])])))
 (.g 4 [.v0, eZ177, .v2, .v3, .v4, .v5, .v6]))
def head_nof_3 : Tree :=
 (.ite (.lt .v7 .v6) .dead
 (.g 5 [.v0, eZ177, .v2, .v3, .v4, .v5]))
def head_nof_4 : Tree :=
 (.ite (.gt .v3 (.i 0))
 (.giv (.le (.n eZ179) (.i 4294967296))
 (.g 4 [.v0, eZ177, eZ179, (.pr (.iop .quo .i64) [.v3, (.i 10)]), .v4, .v5, .v6]))
 (.ite (.gt (.n .v2) (.i 443))
 (.rt (.pr .row [eZ176, (.i 2)]))
 (.g 0 [.v0, eZ177, .v2, .v4, .v5, (.pr (.iop .add .i64) [.v6, (.i 1)])])))
def head_nof_5 : Tree :=
 (.ite (.gt .v2 (.i 0))
 (.g 4 [.v0, eZ177, (.pr .lst [(.pr .row [(.pr (.conv .u8) [(.pr (.iop .rem .i64) [.v2, (.i 10)])])])]), (.pr (.iop .quo .i64) [.v2, (.i 10)]), .v3, .v4, .v5])
 (.g 1 [.v0, eZ177, .v3, .v4, (.pr (.iop .add .i64) [.v5, (.i 1)])]))
def head_nof_6 : Tree :=
 (.ite (.lt .v4 .v3)
 (.giv (.le (.i 0) .v4)
 (.giv (.lt .v4 (.n .v2))
 (.g 6 [.v0, eZ177, (.pr .upd [.v2, .v4, (.pr .row [(.pr (.iop .add .u8) [(.c 0 (.a .v2 .v4)), (.lit (.int .u8 48))])])]), .v3, (.pr (.iop .add .i64) [.v4, (.i 1)])])))
 (.giv (.app 1000 [.v2])
 (.giv (.app 2082 [.v2])
 (.giv (.le (.n .v2) (.n (.c 0 (.app 82 [.v2]))))
 (.giv (.app 1000 [.v0, eZ180, (.i 0)])
 (.rt (.pr .row [(.r3 (.c 0 (.app 88 [.v0, eZ180, (.i 0)]))), (.c 1 (.app 88 [.v0, eZ180, (.i 0)]))])))))))
def head_nof_7 : Tree :=
 (.ite (.lt .v3 .v2) .dead
 (.rt (.pr .row [(.pr .row [(.lit (.bool false)), (.lit (.string (mkS [48]))), (.i 0)]), (.i 0)])))
def trees_nof : List Tree := [head_nof_0, head_nof_1, head_nof_2, head_nof_3, head_nof_4, head_nof_5, head_nof_6, head_nof_7]
noncomputable def deps_nof : List Sig := [q_nmade]
noncomputable def depsM_nof : List SigM := [q_reverse]
theorem ok_nof : checkN q_nof deps_nof depsM_nof heads_nof entry_nof trees_nof = true := by kernel_rfl
theorem nof_more (n : Nat) : @Ok (I n) q_nof (fun ds => @okS (I n) n q_nof.g ds /\ 2000 < n) := by
 letI := I n
 refine fn_okN (hphi n) ok_nof (by
  intro q hq
  simp only [deps_nof, List.mem_singleton] at hq
  subst hq
  exact okS_of (nmade_ok n)) (by
  intro q hq
  simp only [depsM_nof, List.mem_singleton] at hq
  subst hq
  exact ⟨reverse_ok n, reverse_goes n⟩) (OfInv n) ofM ?_ ?_
 ·intro ds hf ⟨hp, hn⟩
  match ds, hf with
  | [d0, d1], ⟨h1, h2, _⟩ =>
  obtain ⟨ng, rfl⟩ := fits_bool h1
  obtain ⟨b, rfl, hb⟩ := (pre_nof n _ d1).1 (hp.2 rfl)
  simp only [entry_nof, eZ176, eZ177, eZ178, eZ179, eZ180, q_nof, Tree.holds, Out.den, E.den, E.denL, dn, List.getD_cons_zero, List.getD_cons_succ, List.length_map, phi_1000, phi_nof, bytes_rows]
  exact ⟨ng, _, b, hn, hb, rfl, 0, rfl, Nat.zero_le _, rfl⟩
 ·intro j h t d ds hj ht hf ⟨ng, z, b, hn, hb, hd, hI⟩
  have hjl : j < 8 := (List.getElem?_eq_some_iff.1 ht).1
  have hwi : ∀ i : Nat, i < b.length -> IntKind.i64.wrap ((i : Int) + 1) = ((i + 1 : Nat) : Int) := fun i hi => wrapK' (by omega) (by omega)
  rcases (show j = 0 \/ j = 1 \/ j = 2 \/ j = 3 \/ j = 4 \/ j = 5 \/ j = 6 \/ j = 7 by omega) with rfl | rfl | rfl | rfl | rfl | rfl | rfl | rfl
  ·obtain rfl : t = head_nof_0 := (Option.some.inj ht).symm
   obtain ⟨l, i, rfl, hi, hl, hne, htop, hlen, hv⟩ := hI
   by_cases hlt : i < b.length
   ·obtain ⟨x, hx, _, _⟩ := drop_get hlt
    simp only [head_nof_0, eZ176, eZ177, eZ178, eZ179, eZ180, Tree.holds, Out.den, E.den, E.denL, dn, List.getD_cons_zero, List.getD_cons_succ, List.length_map, phi_1000, bytes_at hx, bytes_rows, wrapB]
    refine ⟨fun _ => ⟨by omega, by omega, ⟨ng, _, b, hn, hb, hd, l, i, x, x.toNat, 0, rfl, hx, hne, hlen, ?_, ?_, .inl ⟨List.length_pos_iff.2 hne, htop⟩⟩, ?_⟩, fun h => by omega⟩
    ·rw [<- hv]; exact mul_start hl
    ·have := x.toNat_lt; omega
    ·show 2000 * ((b.length : Int) - (i : Int)).toNat + 1900 - (0 : Int).toNat < 2000 * ((b.length : Int) - (i : Int)).toNat + 1950
     omega
   ·obtain rfl : i = b.length := by omega
    rw [List.take_length] at hv
    simp only [head_nof_0, eZ176, eZ177, eZ178, eZ179, eZ180, Tree.holds, Out.den, E.den, E.denL, dn, List.getD_cons_zero, List.getD_cons_succ, List.length_map, phi_1000, bytes_rows]
    refine ⟨fun h => by omega, fun _ => ⟨⟨ng, _, b, hn, hb, hd, l, 0, rfl, Nat.zero_le _, hl, hlen, hv⟩, ?_⟩⟩
    show 500 + ((l.length : Int) - (0 : Int)).toNat < 2000 * ((b.length : Int) - (b.length : Int)).toNat + 1950
    omega
  ·obtain rfl : t = head_nof_1 := (Option.some.inj ht).symm
   obtain ⟨i, rfl, hi, hv⟩ := hI
   by_cases hlt : i < b.length
   ·obtain ⟨x, hx, _, _⟩ := drop_get hlt
    simp only [head_nof_1, eZ176, eZ177, eZ178, eZ179, eZ180, Tree.holds, Out.den, E.den, E.denL, dn, List.getD_cons_zero, List.getD_cons_succ, List.length_map, phi_1000, bytes_at hx, bytes_rows, wrapB]
    refine ⟨fun _ => ⟨by omega, by omega, ⟨ng, _, b, hn, hb, hd, i, x, rfl, hx, hv⟩, ?_⟩, fun h => by omega⟩
    show 2000 * ((b.length : Int) - (i : Int)).toNat + 1900 < 2000 * ((b.length : Int) - (i : Int)).toNat + 1950
    omega
   ·obtain rfl : i = b.length := by omega
    rw [List.take_length] at hv
    simp only [head_nof_1, eZ176, eZ177, eZ178, eZ179, eZ180, Tree.holds, Out.den, E.den, E.denL, dn, List.getD_cons_zero, List.getD_cons_succ, List.length_map, phi_1000]
    refine ⟨fun h => by omega, fun _ => ⟨⟨ng, _, b, hn, hb, hd, rfl, hv⟩, ?_⟩⟩
    show 0 < 2000 * ((b.length : Int) - (b.length : Int)).toNat + 1950
    omega
  ·obtain rfl : t = head_nof_2 := (Option.some.inj ht).symm
   obtain ⟨l, i, x, c, k, rfl, hx, hne, hlen, hm, hc, hcase⟩ := hI
   have hil := idx_lt hx
   by_cases hlt : k < l.length
   ·obtain ⟨y, hy, hmem, _⟩ := drop_get hlt
    have hy10 := hm.2.1 y hmem
    have htop : Top l := by
     rcases hcase with h | h
     ·exact h.2
     ·omega
    have w1 : IntKind.i64.wrap (256 * (y.toNat : Int)) = ((256 * y.toNat : Nat) : Int) := wrapK' (by omega) (by omega)
    have w2 : IntKind.i64.wrap ((c : Int) + ((256 * y.toNat : Nat) : Int)) = ((c + 256 * y.toNat : Nat) : Int) := wrapK' (by omega) (by omega)
    have hst := mul_step (B := 10) (by decide) (by decide) hm hy
    have hv0 : c + 256 * y.toNat <= 2560 := by omega
    have hlast : k + 1 = l.length -> 0 < (c + 256 * y.toNat) / 10 := fun hk => by
     have := top_at htop hy hk
     omega
    simp only [head_nof_2, eZ176, eZ177, eZ178, eZ179, eZ180, Tree.holds, Out.den, E.den, E.denL, dn, List.getD_cons_zero, List.getD_cons_succ, List.length_map, phi_1000, bytes_at hy, bytes_rows, wrapB, w1, w2, tmod10, tdiv10]
    generalize hvv : c + 256 * y.toNat = v at *
    have hm10 : v % 10 < 10 := Nat.mod_lt _ (by decide)
    have w3 : IntKind.u8.wrap ((v % 10 : Nat) : Int) = ((v % 10 : Nat) : Int) := wrapB8 (by omega)
    have w4 : IntKind.i64.wrap ((v / 10 : Nat) : Int) = ((v / 10 : Nat) : Int) := wrapK' rfl (by omega)
    have w5 : IntKind.i64.wrap ((k : Int) + 1) = ((k + 1 : Nat) : Int) := wrapK' (by omega) (by omega)
    have e1 : Prim.upd.den [bytesD l, iD (k : Int), .row [.v (.int .u8 ((v % 10 : Nat) : Int))]] = bytesD (l.set k (UInt8.ofNat (v % 10))) := by
     rw [bytes_upd l k _ (by omega) (by omega), Int.toNat_natCast]
    rw [w3, w4, w5, e1]
    refine ⟨fun _ => ⟨by omega, by omega, ⟨ng, .row [cellAt z 0, cellAt z 1, cellAt z 2], b, hn, hb, hd, l.set k (UInt8.ofNat (v % 10)), i, x, v / 10, k + 1, ?_, hx, ?_, by rw [List.length_set]; exact hlen, hst, by omega, ?_⟩, ?_⟩, fun h => by omega⟩
    ·rw [List.length_set]
    ·intro h0
     have := congrArg List.length h0
     rw [List.length_set] at this
     exact hne (List.eq_nil_of_length_eq_zero this)
    ·rw [List.length_set]
     by_cases hk : k + 1 < l.length
     ·exact .inl ⟨hk, top_set htop hk⟩
     ·exact .inr ⟨by omega, hlast (by omega)⟩
    ·show 2000 * ((b.length : Int) - (i : Int)).toNat + 1900 - ((k + 1 : Nat) : Int).toNat < 2000 * ((b.length : Int) - (i : Int)).toNat + 1900 - (k : Int).toNat
     omega
   ·obtain rfl : k = l.length := by have := hm.1; omega
    have hc0 : 0 < c := by
     rcases hcase with h | h
     ·omega
     ·exact h.2
    have he := mul_end hm
    simp only [head_nof_2, eZ176, eZ177, eZ178, eZ179, eZ180, Tree.holds, Out.den, E.den, E.denL, dn, List.getD_cons_zero, List.getD_cons_succ, List.length_map, phi_1000]
    refine ⟨fun h => by omega, fun _ => ⟨⟨ng, _, b, hn, hb, hd, l, i, x, c, rfl, hx, hne, hm.2.1, ?_, hc, fun h => by omega, by omega, fun _ => by omega, fun _ => by omega, fun _ => by omega⟩, ?_⟩⟩
    ·rw [bv_next hx]; exact he
    ·show 2000 * ((b.length : Int) - (i : Int)).toNat + 300 + (c : Int).toNat < 2000 * ((b.length : Int) - (i : Int)).toNat + 1900 - (l.length : Int).toNat
     omega
  ·obtain rfl : t = head_nof_3 := (Option.some.inj ht).symm
   obtain ⟨i, x, rfl, hx, hv⟩ := hI
   have hil := idx_lt hx
   simp only [head_nof_3, eZ176, eZ177, eZ178, eZ179, eZ180, Tree.holds, Out.den, E.den, E.denL, dn, List.getD_cons_zero, List.getD_cons_succ, List.length_map, phi_1000]
   refine ⟨fun h => by omega, fun _ => ⟨⟨ng, _, b, hn, hb, hd, i, x, rfl, hx, hv⟩, ?_⟩⟩
   show 2000 * ((b.length : Int) - (i : Int)).toNat + 1000 < 2000 * ((b.length : Int) - (i : Int)).toNat + 1900
   omega
  ·obtain rfl : t = head_nof_4 := (Option.some.inj ht).symm
   obtain ⟨l, i, x, c, rfl, hx, hne, hl, hv, hc, htop, g1, g2, g3, g4⟩ := hI
   have hil := idx_lt hx
   have hm10 : c % 10 < 10 := Nat.mod_lt _ (by decide)
   have w3 : IntKind.u8.wrap ((c % 10 : Nat) : Int) = ((c % 10 : Nat) : Int) := wrapB8 (by omega)
   have w4 : IntKind.i64.wrap ((c / 10 : Nat) : Int) = ((c / 10 : Nat) : Int) := wrapK' rfl (by omega)
   have hyb := byte_of (v := c % 10) (by omega)
   simp only [head_nof_4, eZ176, eZ177, eZ178, eZ179, eZ180, Tree.holds, Out.den, E.den, E.denL, dn, List.getD_cons_zero, List.getD_cons_succ, List.length_map, phi_1000, tmod10, tdiv10, w3, w4, bytes_push l _ (show c % 10 < 256 by omega), bytes_rows, hwi i hil]
   refine ⟨fun hc0 => ⟨?_, ⟨ng, _, b, hn, hb, hd, l ++ [UInt8.ofNat (c % 10)], i, x, c / 10, rfl, hx, by simp, ld_push hl (by rw [hyb]; exact hm10), ?_, by omega, fun h => top_push (by rw [hyb]; omega), ?_⟩, ?_⟩, fun hc0 => ⟨fun hbig => ?_, fun hsm => ⟨⟨ng, _, b, hn, hb, hd, l, i + 1, rfl, hil, hl, hne, htop (by omega), by omega, ?_⟩, ?_⟩⟩⟩
   ·rw [List.length_append]; show ((l.length + 1 : Nat) : Int) <= _; omega
   ·rw [lv_push, hyb, List.length_append, <- hv]
    show lv 10 l + 10 ^ l.length * (c % 10) + 10 ^ (l.length + 1) * (c / 10) = _
    rw [Nat.pow_succ]
    have := Nat.div_add_mod c 10
    generalize c % 10 = y at *
    generalize c / 10 = c' at *
    rw [<- this]
    grind
   ·rw [List.length_append]
    show l.length + 1 <= 446 /\ (0 < c / 10 -> l.length + 1 <= 445) /\ (10 <= c / 10 -> l.length + 1 <= 444) /\ (100 <= c / 10 -> l.length + 1 <= 443)
    omega
   ·show 2000 * ((b.length : Int) - (i : Int)).toNat + 300 + ((c / 10 : Nat) : Int).toNat < 2000 * ((b.length : Int) - (i : Int)).toNat + 300 + (c : Int).toNat
    omega
   ·have hc00 : c = 0 := by omega
    rw [hc00, Nat.mul_zero, Nat.add_zero] at hv
    have := of_far (ng := ng) hb hl hne (htop hc00) hv (by omega)
    rw [hd]
    unfold OfR
    rw [this]; rfl
   ·have hc00 : c = 0 := by omega
    rw [hc00, Nat.mul_zero, Nat.add_zero] at hv
    exact hv
   ·show 2000 * ((b.length : Int) - ((i + 1 : Nat) : Int)).toNat + 1950 < 2000 * ((b.length : Int) - (i : Int)).toNat + 300 + (c : Int).toNat
    omega
  ·obtain rfl : t = head_nof_5 := (Option.some.inj ht).symm
   obtain ⟨i, x, rfl, hx, hv⟩ := hI
   have hil := idx_lt hx
   have hxl := x.toNat_lt
   generalize hc : x.toNat = c at *
   have hm10 : c % 10 < 10 := Nat.mod_lt _ (by decide)
   have w3 : IntKind.u8.wrap ((c % 10 : Nat) : Int) = ((c % 10 : Nat) : Int) := wrapB8 (by omega)
   have w4 : IntKind.i64.wrap ((c / 10 : Nat) : Int) = ((c / 10 : Nat) : Int) := wrapK' rfl (by omega)
   have hyb := byte_of (v := c % 10) (by omega)
   simp only [head_nof_5, eZ176, eZ177, eZ178, eZ179, eZ180, Tree.holds, Out.den, E.den, E.denL, dn, List.getD_cons_zero, List.getD_cons_succ, List.length_map, phi_1000, tmod10, tdiv10, w3, w4, bytes_one _ (show c % 10 < 256 by omega), hwi i hil]
   refine ⟨fun hc0 => ⟨⟨ng, _, b, hn, hb, hd, [UInt8.ofNat (c % 10)], i, x, c / 10, rfl, hx, by simp, ?_, ?_, by omega, fun h => top_push (l := []) (by rw [hyb]; omega), ?_⟩, ?_⟩, fun hc0 => ⟨⟨ng, _, b, hn, hb, hd, i + 1, rfl, hil, ?_⟩, ?_⟩⟩
   ·intro y hy; rw [List.mem_singleton.1 hy, hyb]; exact hm10
   ·rw [bv_next hx, hv, hc]
    show (UInt8.ofNat (c % 10)).toNat + 10 * 0 + 10 ^ 1 * (c / 10) = c + 256 * 0
    rw [hyb]; omega
   ·show 1 <= 446 /\ (0 < c / 10 -> 1 <= 445) /\ (10 <= c / 10 -> 1 <= 444) /\ (100 <= c / 10 -> 1 <= 443)
    omega
   ·show 2000 * ((b.length : Int) - (i : Int)).toNat + 300 + ((c / 10 : Nat) : Int).toNat < 2000 * ((b.length : Int) - (i : Int)).toNat + 1000
    omega
   ·rw [bv_next hx, hv, hc]; omega
   ·show 2000 * ((b.length : Int) - ((i + 1 : Nat) : Int)).toNat + 1950 < 2000 * ((b.length : Int) - (i : Int)).toNat + 1000
    omega
  ·obtain rfl : t = head_nof_6 := (Option.some.inj ht).symm
   obtain ⟨l, k, rfl, hk, hl, hlen, hv⟩ := hI
   by_cases hlt : k < l.length
   ·obtain ⟨y, hy, hmem, _⟩ := drop_get hlt
    have hg : (mid l k)[k]? = some y := by rw [mid_get hlt]; exact hy
    have hy10 := hl y hmem
    have w1 : IntKind.u8.wrap ((y.toNat : Int) + 48) = ((y.toNat + 48 : Nat) : Int) := by rw [wrap8 (by omega) (by omega)]; omega
    have w5 : IntKind.i64.wrap ((k : Int) + 1) = ((k + 1 : Nat) : Int) := wrapK' (by omega) (by omega)
    have e1 : Prim.upd.den [bytesD (mid l k), iD (k : Int), .row [.v (.int .u8 ((y.toNat + 48 : Nat) : Int))]] = bytesD (mid l (k + 1)) := by
     rw [bytes_upd _ k _ (by omega) (by omega), Int.toNat_natCast, <- mid_set hy]
     rfl
    simp only [head_nof_6, eZ176, eZ177, eZ178, eZ179, eZ180, Tree.holds, Out.den, E.den, E.denL, dn, List.getD_cons_zero, List.getD_cons_succ, List.length_map, phi_1000, bytes_at hg, bytes_rows, w1, w5, e1, mid_len hk]
    refine ⟨fun _ => ⟨by omega, by omega, ⟨ng, _, b, hn, hb, hd, l, k + 1, rfl, hlt, hl, hlen, hv⟩, ?_⟩, fun h => by omega⟩
    show 500 + ((l.length : Int) - ((k + 1 : Nat) : Int)).toNat < 500 + ((l.length : Int) - (k : Int)).toNat
    omega
   ·obtain rfl : k = l.length := by omega
    have ok1 : okD n [bytesD (mid l l.length)] := okD_one.2 ⟨by rw [bytes_sz, mid_len hk]; omega, bytes_lim.2 (by rw [mid_len hk]; exact Nat.le_trans hlen (by decide))⟩
    have hrl : (mid l l.length).reverse.length = l.length := by rw [List.length_reverse, mid_len hk]
    have e2 : Prim.sofl.den [Prim.sub.den [bytesD (mid l l.length).reverse, iD ((0 : Nat) : Int), iD (l.length : Int)]] = sD ⟨(l.map asc).reverse.toArray⟩ := by
     rw [bytes_text _ 0 _ (by rw [hrl]), List.drop_zero, mid_all]
    have ok2 : okD n [bD ng, sD ⟨(l.map asc).reverse.toArray⟩, iD 0] := ⟨by simp only [D.szL, D.sz]; omega, by simp only [D.LimL, D.Lim, and_true, true_and]; rw [bytes_len, List.length_reverse, List.length_map]; exact Nat.le_trans hlen (by decide)⟩
    have e2' : Prim.sofl.den [Prim.sub.den [bytesD (mid l l.length).reverse, D.v (.int .i64 0), iD (l.length : Int)]] = sD ⟨(l.map asc).reverse.toArray⟩ := e2
    simp only [head_nof_6, eZ176, eZ177, eZ178, eZ179, eZ180, Tree.holds, Out.den, E.den, E.denL, dn, List.getD_cons_zero, List.getD_cons_succ, List.length_map, phi_1000, bytes_rows, phi_reverse, pre_reverse, row_at0, row_at1, mid_len hk, ok1, e2', phi_nmade, ok2, num_at0, num_at1, num_at2, num_put, hrl]
    refine ⟨fun h => by omega, fun _ => ⟨⟨_, rfl, by rw [mid_len hk]; omega⟩, by omega, ?_⟩⟩
    rw [hd, of_made hl hv]; rfl
  ·obtain rfl : t = head_nof_7 := (Option.some.inj ht).symm
   obtain ⟨rfl, hv⟩ := hI
   simp only [head_nof_7, eZ176, eZ177, eZ178, eZ179, eZ180, Tree.holds, Out.den, E.den, E.denL, dn, List.getD_cons_zero, List.getD_cons_succ, List.length_map, phi_1000]
   refine ⟨fun h => by omega, fun _ => ?_⟩
   rw [hd]
   unfold OfR ofV
   rw [hv, made_zero]; rfl
theorem nof_ok (n : Nat) : @Ok (I n) q_nof (@okS (I n) n q_nof.g) :=
 ok_irrel (by decide) (@Ok.less (I (n + 3000)) _ _ _ (nof_more (n + 3000)) fun ds h => ⟨⟨⟨by have := h.1.1; omega, h.1.2⟩, h.2⟩, by omega⟩)
def ByR (t : NumT) : D := .row [bytesD (bytesV t).1, iD (bytesV t).2]
def By0 (S : List UInt8) (ds : List D) : Prop := ∃ (l : List UInt8) (i : Nat), ds = [bytesD l, bytesD S, iD S.length, iD i] /\ i <= S.length /\ l ≠ [] /\ Top l /\ l.length <= i /\ lv 256 l = dv (S.take i)
def By1 (S : List UInt8) (ds : List D) : Prop := ∃ i : Nat, ds = [bytesD S, iD S.length, iD i] /\ i <= S.length /\ dv (S.take i) = 0
def By2 (S : List UInt8) (ds : List D) : Prop := ∃ (l : List UInt8) (i : Nat) (x : UInt8) (c k : Nat), ds = [bytesD l, iD c, bytesD S, iD S.length, iD i, iD l.length, iD k] /\ S[i]? = some x /\ l ≠ [] /\ l.length <= i /\
 MulInv 256 10 l c k ((x.toNat - 48) + 10 * dv (S.take i)) /\ c <= 10 /\ ((k < l.length /\ Top l) \/ (k = l.length /\ (c = 0 -> Top l)))
def By3 (S : List UInt8) (ds : List D) : Prop := ∃ (i : Nat) (x : UInt8), ds = [iD (x.toNat - 48 : Nat), bytesD S, iD S.length, iD i, iD 0, iD 0] /\ S[i]? = some x /\ dv (S.take i) = 0
def ByInv (n j : Nat) (d : D) (ds : List D) : Prop := ∃ (t : NumT) (S : List UInt8), 2000 < n /\ S.length <= 40 /\ Dig S /\ d = ByR t /\ bytesV t = (byts (dv S), 0) /\ (match j with
 | 0 => By0 S ds | 1 => By1 S ds | 2 => By2 S ds | 3 => By3 S ds | _ => False)
def byM (j : Nat) (ds : List D) : Nat := match j with
 | 0 => 100 * (gI ds 2 - gI ds 3).toNat + 90
 | 1 => 100 * (gI ds 1 - gI ds 2).toNat + 90
 | 2 => 100 * (gI ds 3 - gI ds 4).toNat + 80 - (gI ds 6).toNat
 | 3 => 100 * (gI ds 2 - gI ds 3).toNat + 80
 | _ => 0
theorem dv_next {S : List UInt8} {i : Nat} {x : UInt8} (h : S[i]? = some x) : dv (S.take (i + 1)) = (x.toNat - 48) + 10 * dv (S.take i) := by
 rw [take_snoc h, show dv (S.take i ++ [x]) = dv (S.take i) * 10 + (x.toNat - 48) from dvA_snoc 0 _ _]; omega
theorem fdiv256 (m : Nat) : (m : Int).fdiv (2 ^ (min 8 64)) = ((m / 256 : Nat) : Int) := by
 rw [Int.fdiv_eq_ediv_of_nonneg _ (by decide)]
 show (m : Int) / 256 = _
 omega
-- head 0 of loop 0: [t4 .ar 5, t31 .sh (.cell (.sl 5)), t32 .sh (.cell (.sc (.i .i64))), t33 .sh (.cell (.sc (.i .i64)))]
-- head 1 of loop 0: [t4 .con (.v (.slice none 0 0)), t31 .sh (.cell (.sl 5)), t32 .sh (.cell (.sc (.i .i64))), t33 .sh (.cell (.sc (.i .i64)))]
-- head 2 of loop 1: [t4 .ar 5, t7 .sh (.cell (.sc (.i .i64))), t31 .sh (.cell (.sl 5)), t32 .sh (.cell (.sc (.i .i64))), t33 .sh (.cell (.sc (.i .i64))), t41 .sh (.cell (.sc (.i .i64))), t42 .sh (.cell (.sc (.i .i64)))]
-- head 3 of loop 1: [t4 .con (.v (.slice none 0 0)), t7 .sh (.cell (.sc (.i .i64))), t31 .sh (.cell (.sl 5)), t32 .sh (.cell (.sc (.i .i64))), t33 .sh (.cell (.sc (.i .i64))), t41 .sh (.cell (.sc (.i .i64))), t42 .sh (.cell (.sc (.i .i64)))]
def heads_nbytes : List Hd := [⟨0, [.any, .any, .any, .any, .ar 5, .any, .any, .any, .any, .any, .any, .any, .any, .any, .any, .any, .any, .any, .any, .any, .any, .any, .any, .any, .any, .any, .any, .any, .any, .any, .any, .sh (.cell (.sl 5)), .sh (.cell (.sc (.i .i64))), .sh (.cell (.sc (.i .i64))), .any, .any, .any, .any, .any, .any, .any, .any, .any, .any, .any, .any, .any, .any, .any, .any, .any, .any, .any, .any, .any, .any, .any, .any, .any, .any, .any, .any, .any, .any, .any, .any, .any, .any, .any, .any, .any, .any]⟩, ⟨0, [.any, .any, .any, .any, .con (.v (.slice none 0 0)), .any, .any, .any, .any, .any, .any, .any, .any, .any, .any, .any, .any, .any, .any, .any, .any, .any, .any, .any, .any, .any, .any, .any, .any, .any, .any, .sh (.cell (.sl 5)), .sh (.cell (.sc (.i .i64))), .sh (.cell (.sc (.i .i64))), .any, .any, .any, .any, .any, .any, .any, .any, .any, .any, .any, .any, .any, .any, .any, .any, .any, .any, .any, .any, .any, .any, .any, .any, .any, .any, .any, .any, .any, .any, .any, .any, .any, .any, .any, .any, .any, .any]⟩, ⟨1, [.any, .any, .any, .any, .ar 5, .any, .any, .sh (.cell (.sc (.i .i64))), .any, .any, .any, .any, .any, .any, .any, .any, .any, .any, .any, .any, .any, .any, .any, .any, .any, .any, .any, .any, .any, .any, .any, .sh (.cell (.sl 5)), .sh (.cell (.sc (.i .i64))), .sh (.cell (.sc (.i .i64))), .any, .any, .any, .any, .any, .any, .any, .sh (.cell (.sc (.i .i64))), .sh (.cell (.sc (.i .i64))), .any, .any, .any, .any, .any, .any, .any, .any, .any, .any, .any, .any, .any, .any, .any, .any, .any, .any, .any, .any, .any, .any, .any, .any, .any, .any, .any, .any, .any]⟩, ⟨1, [.any, .any, .any, .any, .con (.v (.slice none 0 0)), .any, .any, .sh (.cell (.sc (.i .i64))), .any, .any, .any, .any, .any, .any, .any, .any, .any, .any, .any, .any, .any, .any, .any, .any, .any, .any, .any, .any, .any, .any, .any, .sh (.cell (.sl 5)), .sh (.cell (.sc (.i .i64))), .sh (.cell (.sc (.i .i64))), .any, .any, .any, .any, .any, .any, .any, .sh (.cell (.sc (.i .i64))), .sh (.cell (.sc (.i .i64))), .any, .any, .any, .any, .any, .any, .any, .any, .any, .any, .any, .any, .any, .any, .any, .any, .any, .any, .any, .any, .any, .any, .any, .any, .any, .any, .any, .any, .any]⟩]
def eZ181 : E := (.lit (.string (mkS [48])))
def eZ182 : E := (.pr .los [(.pr .scat [(.c 1 .v0), (.app 20 [eZ181, (.c 2 .v0)])])])
def eZ183 : E := (.pr (.iop .add .i64) [.v1, (.pr (.iop .mul .i64) [(.i 10), (.pr (.conv .i64) [(.c 0 (.a .v0 .v6))])])])
def eZ184 : E := (.pr .cat [.v0, (.pr .lst [(.pr .row [(.pr (.conv .u8) [.v1])])])])
def entry_nbytes : Tree :=
 (.giv (.app 1000 [(.r3 .v0)])
 (.ite (.ne (.app 5 [(.r3 .v0)]) (.i 0))
 (.rt (.pr .row [(.pr .lst []), (.i 10)]))
 (.ite (.lt (.c 2 .v0) (.i 0))
 (.rt (.pr .row [(.pr .lst []), (.i 11)]))
 (.ite (.gt (.pr (.iop .add .i64) [(.pr .slen [(.c 1 .v0)]), (.c 2 .v0)]) (.i 40))
 (.rt (.pr .row [(.pr .lst []), (.i 2)]))
 (.giv (.app 1000 [eZ181, (.c 2 .v0)])
 (.giv (.app 2020 [eZ181, (.c 2 .v0)])
 (.giv (.le (.pr .slen [(.c 1 .v0)]) (.i 1099511627776))
 (.giv (.le (.pr .slen [(.app 20 [eZ181, (.c 2 .v0)])]) (.i 1099511627776))
 (.g 1 [eZ182, (.n eZ182), (.i 0)])))))))))
def head_nbytes_0 : Tree :=
 (.ite (.lt .v3 .v2)
 (.giv (.le (.i 0) .v3)
 (.giv (.lt .v3 (.n .v1))
 (.g 2 [.v0, (.pr (.conv .i64) [(.pr (.iop .sub .u8) [(.c 0 (.a .v1 .v3)), (.lit (.int .u8 48))])]), .v1, .v2, .v3, (.n .v0), (.i 0)])))
 (.giv (.app 1000 [.v0])
 (.giv (.app 2082 [.v0])
 (.giv (.eq (.n .v0) (.n (.c 0 (.app 82 [.v0]))))
 (.rt (.pr .row [(.c 0 (.app 82 [.v0])), (.i 0)]))))))
def head_nbytes_1 : Tree :=
 (.ite (.lt .v2 .v1)
 (.giv (.le (.i 0) .v2)
 (.giv (.lt .v2 (.n .v0))
 (.g 3 [(.pr (.conv .i64) [(.pr (.iop .sub .u8) [(.c 0 (.a .v0 .v2)), (.lit (.int .u8 48))])]), .v0, .v1, .v2, (.i 0), (.i 0)])))
 (.rt (.pr .row [(.pr .lst []), (.i 0)])))
def head_nbytes_2 : Tree :=
 (.ite (.lt .v6 .v5)
 (.giv (.le (.i 0) .v6)
 (.giv (.lt .v6 (.n .v0))
 (.g 2 [(.pr .upd [.v0, .v6, (.pr .row [(.pr (.conv .u8) [eZ183])])]), (.pr (.iop .shr .i64) [eZ183, (.lit (.int .u64 8))]), .v2, .v3, .v4, .v5, (.pr (.iop .add .i64) [.v6, (.i 1)])])))
 (.ite (.gt .v1 (.i 0))
 (.giv (.le (.n eZ184) (.i 4294967296))
 (.g 0 [eZ184, .v2, .v3, (.pr (.iop .add .i64) [.v4, (.i 1)])]))
 (.g 0 [.v0, .v2, .v3, (.pr (.iop .add .i64) [.v4, (.i 1)])])))
def head_nbytes_3 : Tree :=
 (.ite (.lt .v5 .v4) .dead
 (.ite (.gt .v0 (.i 0))
 (.g 0 [(.pr .lst [(.pr .row [(.pr (.conv .u8) [.v0])])]), .v1, .v2, (.pr (.iop .add .i64) [.v3, (.i 1)])])
 (.g 1 [.v1, .v2, (.pr (.iop .add .i64) [.v3, (.i 1)])])))
def trees_nbytes : List Tree := [head_nbytes_0, head_nbytes_1, head_nbytes_2, head_nbytes_3]
noncomputable def deps_nbytes : List Sig := [q_numcheck, q_repeat]
noncomputable def depsM_nbytes : List SigM := [q_reverse]
theorem ok_nbytes : checkN q_nbytes deps_nbytes depsM_nbytes heads_nbytes entry_nbytes trees_nbytes = true := by kernel_rfl
theorem nbytes_more (n : Nat) : @Ok (I n) q_nbytes (fun ds => okD n ds /\ 2000 < n) := by
 letI := I n
 refine fn_okN (hphi n) ok_nbytes (by
  intro q hq
  simp only [deps_nbytes, List.mem_cons, List.not_mem_nil, or_false] at hq
  rcases hq with rfl | rfl
  ·exact okS_of (numcheck_ok n)
  ·exact repeat_ok n) (by
  intro q hq
  simp only [depsM_nbytes, List.mem_singleton] at hq
  subst hq
  exact ⟨reverse_ok n, reverse_goes n⟩) (ByInv n) byM ?_ ?_
 ·intro ds hf ⟨hp, hn⟩
  obtain ⟨a, d, x, rfl⟩ := one_num hf
  have hP : @Interp.phi (I n) 95 [.row [bD a, sD d, iD x]] = ByR (a, d, x) := rfl
  have oz : ∀ k : Int, okD n [sD (mkS [48]), iD k] := fun k => okD_two.2 ⟨by simp only [D.sz]; omega, lim_sD.2 (by decide), trivial⟩
  have hb : ∀ l e, bytesV (a, d, x) = (l, e) -> D.row [bytesD l, iD e] = ByR (a, d, x) := fun l e h => by unfold ByR; rw [h]
  by_cases hv : numV a d x = 0
  case neg =>
   simp only [entry_nbytes, eZ181, eZ182, eZ183, eZ184, q_nbytes, Tree.holds, Out.den, E.den, E.denL, dn, List.getD_cons_zero, List.getD_cons_succ, List.length_map, phi_1000, phi_numcheck, hP, row_at0, row_at1, row_at2, hp]
   refine ⟨fun _ => hb [] 10 ?_, fun h => absurd h hv⟩
   unfold bytesV
   rw [if_pos (show ¬ formN (a, d, x) = 0 from hv)]
  obtain ⟨hd, hpos, b1, b2, b3, _⟩ := num_first (t := (a, d, x)) hv
  simp only at hd hpos b1 b2 b3
  have w1 : IntKind.i64.wrap ((d.size : Int) + x) = d.size + x := wrapI (by omega) (by omega)
  have hS : (d ++ zer x).data.toList = d.data.toList ++ List.replicate x.toNat 48 := by rw [cat_list, zer_list]
  simp only [entry_nbytes, eZ181, eZ182, eZ183, eZ184, q_nbytes, Tree.holds, Out.den, E.den, E.denL, dn, List.getD_cons_zero, List.getD_cons_succ, List.length_map, phi_1000, phi_numcheck, phi_repeat, pre_repeat, hP, row_at0, row_at1, row_at2, hp, hv, w1, oz, den_los, bytes_rows, not_true_eq_false, false_implies, true_implies, true_and]
  have hV := fun h2 h3 => show bytesV (a, d, x) = (byts (dv d.data.toList * 10 ^ x.toNat), 0) by
   unfold bytesV
   rw [if_neg (show ¬ ¬ formN (a, d, x) = 0 from fun k => k hv), if_neg h2, if_neg h3]
  refine ⟨fun h2 => hb [] 11 ?_, fun h2 => ⟨fun h3 => hb [] 2 ?_, fun h3 => ⟨by omega, by omega, by rw [zer_size]; omega, (a, d, x), (d ++ zer x).data.toList, hn, ?_, ?_, rfl, ?_, 0, rfl, Nat.zero_le _, rfl⟩⟩⟩
  ·unfold bytesV
   rw [if_neg (show ¬ ¬ formN (a, d, x) = 0 from fun k => k hv), if_pos h2]
  ·unfold bytesV
   rw [if_neg (show ¬ ¬ formN (a, d, x) = 0 from fun k => k hv), if_neg h2, if_pos h3]
  ·rw [list_len, cat_size, zer_size]; omega
  ·rw [hS]; exact dig_append hd (dig_zeros _)
  ·rw [hV h2 h3, hS, dv_append, dv_zeros, List.length_replicate, Nat.add_zero]
 ·intro j h t d ds hj ht hf ⟨tt, S, hn, hb, hdg, hd, hV, hI⟩
  have hjl : j < 4 := (List.getElem?_eq_some_iff.1 ht).1
  have hwi : ∀ i : Nat, i < S.length -> IntKind.i64.wrap ((i : Int) + 1) = ((i + 1 : Nat) : Int) := fun i hi => wrapK' (by omega) (by omega)
  have hdig : ∀ (x : UInt8) (i : Nat), S[i]? = some x -> 48 <= x.toNat /\ x.toNat <= 57 /\ IntKind.i64.wrap (IntKind.u8.wrap ((x.toNat : Int) - 48)) = ((x.toNat - 48 : Nat) : Int) := fun x i hx => by
   have := dig_at hdg hx
   refine ⟨this.1, this.2, ?_⟩
   rw [wrap8 (by omega) (by omega), wrapI (by omega) (by omega)]; omega
  rcases (show j = 0 \/ j = 1 \/ j = 2 \/ j = 3 by omega) with rfl | rfl | rfl | rfl
  ·obtain rfl : t = head_nbytes_0 := (Option.some.inj ht).symm
   obtain ⟨l, i, rfl, hi, hne, htop, hlen, hv⟩ := hI
   by_cases hlt : i < S.length
   ·obtain ⟨x, hx, _, _⟩ := drop_get hlt
    obtain ⟨x1, x2, x3⟩ := hdig x i hx
    simp only [head_nbytes_0, eZ181, eZ182, eZ183, eZ184, Tree.holds, Out.den, E.den, E.denL, dn, List.getD_cons_zero, List.getD_cons_succ, List.length_map, phi_1000, bytes_at hx, bytes_rows, x3]
    refine ⟨fun _ => ⟨by omega, by omega, ⟨tt, S, hn, hb, hdg, hd, hV, l, i, x, x.toNat - 48, 0, rfl, hx, hne, hlen, ?_, by omega, .inl ⟨List.length_pos_iff.2 hne, htop⟩⟩, ?_⟩, fun h => by omega⟩
    ·rw [<- hv]; exact mul_start fun y _ => y.toNat_lt
    ·show 100 * ((S.length : Int) - (i : Int)).toNat + 80 - (0 : Int).toNat < 100 * ((S.length : Int) - (i : Int)).toNat + 90
     omega
   ·obtain rfl : i = S.length := by omega
    rw [List.take_length] at hv
    simp only [head_nbytes_0, eZ181, eZ182, eZ183, eZ184, Tree.holds, Out.den, E.den, E.denL, dn, List.getD_cons_zero, List.getD_cons_succ, List.length_map, phi_1000, bytes_rows, phi_reverse, pre_reverse, row_at0, row_at1, List.length_reverse]
    refine ⟨fun h => by omega, fun _ => ⟨?_, ⟨l, rfl, by omega⟩, ?_⟩⟩
    ·exact okD_one.2 ⟨by rw [bytes_sz]; omega, bytes_lim.2 (Nat.le_trans (Nat.le_trans hlen hb) (by decide))⟩
    ·rw [hd]
     unfold ByR
     rw [hV, byts_rev l fun _ => htop, hv]
  ·obtain rfl : t = head_nbytes_1 := (Option.some.inj ht).symm
   obtain ⟨i, rfl, hi, hv⟩ := hI
   by_cases hlt : i < S.length
   ·obtain ⟨x, hx, _, _⟩ := drop_get hlt
    obtain ⟨x1, x2, x3⟩ := hdig x i hx
    simp only [head_nbytes_1, eZ181, eZ182, eZ183, eZ184, Tree.holds, Out.den, E.den, E.denL, dn, List.getD_cons_zero, List.getD_cons_succ, List.length_map, phi_1000, bytes_at hx, bytes_rows, x3]
    refine ⟨fun _ => ⟨by omega, by omega, ⟨tt, S, hn, hb, hdg, hd, hV, i, x, rfl, hx, hv⟩, ?_⟩, fun h => by omega⟩
    show 100 * ((S.length : Int) - (i : Int)).toNat + 80 < 100 * ((S.length : Int) - (i : Int)).toNat + 90
    omega
   ·obtain rfl : i = S.length := by omega
    rw [List.take_length] at hv
    simp only [head_nbytes_1, eZ181, eZ182, eZ183, eZ184, Tree.holds, Out.den, E.den, E.denL, dn, List.getD_cons_zero, List.getD_cons_succ, List.length_map, phi_1000]
    refine ⟨fun h => by omega, fun _ => ?_⟩
    rw [hd]
    unfold ByR
    rw [hV, hv, byts_zero]; rfl
  ·obtain rfl : t = head_nbytes_2 := (Option.some.inj ht).symm
   obtain ⟨l, i, x, c, k, rfl, hx, hne, hlen, hm, hc, hcase⟩ := hI
   have hil := idx_lt hx
   by_cases hlt : k < l.length
   ·obtain ⟨y, hy, hmem, _⟩ := drop_get hlt
    have hy10 := y.toNat_lt
    have htop : Top l := by
     rcases hcase with h | h
     ·exact h.2
     ·omega
    have w1 : IntKind.i64.wrap (10 * (y.toNat : Int)) = ((10 * y.toNat : Nat) : Int) := wrapK' (by omega) (by omega)
    have w2 : IntKind.i64.wrap ((c : Int) + ((10 * y.toNat : Nat) : Int)) = ((c + 10 * y.toNat : Nat) : Int) := wrapK' (by omega) (by omega)
    have hst := mul_step (B := 256) (by decide) (by decide) hm hy
    have hv0 : c + 10 * y.toNat <= 2560 := by omega
    have hlast : k + 1 = l.length -> (c + 10 * y.toNat) / 256 = 0 -> (c + 10 * y.toNat) % 256 ≠ 0 := fun hk h0 => by
     have := top_at htop hy hk
     omega
    have w3 : IntKind.u8.wrap ((c + 10 * y.toNat : Nat) : Int) = (((c + 10 * y.toNat) % 256 : Nat) : Int) := by
     unfold IntKind.wrap
     have e : (2 ^ IntKind.u8.bits : Int) = 256 := rfl
     have e3 : IntKind.u8.signed = false := rfl
     simp only [e, e3, Bool.false_and, Bool.false_eq_true, if_false]
     omega
    have w8 : (8 : Int).toNat = 8 := rfl
    have wb : IntKind.i64.bits = 64 := rfl
    simp only [head_nbytes_2, eZ181, eZ182, eZ183, eZ184, Tree.holds, Out.den, E.den, E.denL, dn, List.getD_cons_zero, List.getD_cons_succ, List.length_map, phi_1000, bytes_at hy, bytes_rows, wrapB, w1, w2, w3, den_shr, w8, wb, fdiv256]
    generalize hvv : c + 10 * y.toNat = v at *
    have hm10 : v % 256 < 256 := Nat.mod_lt _ (by decide)
    have w5 : IntKind.i64.wrap ((k : Int) + 1) = ((k + 1 : Nat) : Int) := wrapK' (by omega) (by omega)
    have e1 : Prim.upd.den [bytesD l, iD (k : Int), .row [.v (.int .u8 ((v % 256 : Nat) : Int))]] = bytesD (l.set k (UInt8.ofNat (v % 256))) := by
     rw [bytes_upd l k _ (by omega) (by omega), Int.toNat_natCast]
    rw [w5, e1]
    refine ⟨fun _ => ⟨by omega, by omega, ⟨tt, S, hn, hb, hdg, hd, hV, l.set k (UInt8.ofNat (v % 256)), i, x, v / 256, k + 1, ?_, hx, ?_, by rw [List.length_set]; exact hlen, hst, by omega, ?_⟩, ?_⟩, fun h => by omega⟩
    ·rw [List.length_set]
    ·intro h0
     have := congrArg List.length h0
     rw [List.length_set] at this
     exact hne (List.eq_nil_of_length_eq_zero this)
    ·rw [List.length_set]
     by_cases hk : k + 1 < l.length
     ·exact .inl ⟨hk, top_set htop hk⟩
     ·exact .inr ⟨by omega, fun h0 => top_last (by rw [byte_of hm10]; exact hlast (by omega) h0) (by omega)⟩
    ·show 100 * ((S.length : Int) - (i : Int)).toNat + 80 - ((k + 1 : Nat) : Int).toNat < 100 * ((S.length : Int) - (i : Int)).toNat + 80 - (k : Int).toNat
     omega
   ·obtain rfl : k = l.length := by have := hm.1; omega
    have htop : c = 0 -> Top l := by
     rcases hcase with h | h
     ·omega
     ·exact h.2
    have he := mul_end hm
    have w3 : IntKind.u8.wrap (c : Int) = (c : Int) := wrapB8 (by omega)
    have hcb := byte_of (v := c) (by omega)
    simp only [head_nbytes_2, eZ181, eZ182, eZ183, eZ184, Tree.holds, Out.den, E.den, E.denL, dn, List.getD_cons_zero, List.getD_cons_succ, List.length_map, phi_1000, w3, bytes_push l c (by omega), bytes_rows, hwi i hil]
    refine ⟨fun h => by omega, fun _ => ⟨fun hc0 => ⟨?_, ⟨tt, S, hn, hb, hdg, hd, hV, l ++ [UInt8.ofNat c], i + 1, rfl, hil, by simp, top_push (by rw [hcb]; omega), ?_, ?_⟩, ?_⟩, fun hc0 => ⟨⟨tt, S, hn, hb, hdg, hd, hV, l, i + 1, rfl, hil, hne, htop (by omega), by omega, ?_⟩, ?_⟩⟩⟩
    ·rw [List.length_append]; show ((l.length + 1 : Nat) : Int) <= _; omega
    ·rw [List.length_append]; show l.length + 1 <= i + 1; omega
    ·rw [lv_push, hcb, dv_next hx]; exact he
    ·show 100 * ((S.length : Int) - ((i + 1 : Nat) : Int)).toNat + 90 < 100 * ((S.length : Int) - (i : Int)).toNat + 80 - (l.length : Int).toNat
     omega
    ·have hc00 : c = 0 := by omega
     rw [hc00, Nat.mul_zero, Nat.add_zero] at he
     rw [dv_next hx]; exact he
    ·show 100 * ((S.length : Int) - ((i + 1 : Nat) : Int)).toNat + 90 < 100 * ((S.length : Int) - (i : Int)).toNat + 80 - (l.length : Int).toNat
     omega
  ·obtain rfl : t = head_nbytes_3 := (Option.some.inj ht).symm
   obtain ⟨i, x, rfl, hx, hv⟩ := hI
   have hil := idx_lt hx
   obtain ⟨x1, x2, _⟩ := hdig x i hx
   generalize hc : x.toNat - 48 = c at *
   have hc9 : c <= 9 := by omega
   have w3 : IntKind.u8.wrap (c : Int) = (c : Int) := wrapB8 (by omega)
   have hcb := byte_of (v := c) (by omega)
   simp only [head_nbytes_3, eZ181, eZ182, eZ183, eZ184, Tree.holds, Out.den, E.den, E.denL, dn, List.getD_cons_zero, List.getD_cons_succ, List.length_map, phi_1000, w3, bytes_one c (by omega), hwi i hil]
   refine ⟨fun h => by omega, fun _ => ⟨fun hc0 => ⟨⟨tt, S, hn, hb, hdg, hd, hV, [UInt8.ofNat c], i + 1, rfl, hil, by simp, top_push (l := []) (by rw [hcb]; omega), ?_, ?_⟩, ?_⟩, fun hc0 => ⟨⟨tt, S, hn, hb, hdg, hd, hV, i + 1, rfl, hil, ?_⟩, ?_⟩⟩⟩
   ·show 1 <= i + 1; omega
   ·rw [dv_next hx, hv, hc]
    show (UInt8.ofNat c).toNat + 256 * 0 = c + 10 * 0
    rw [hcb]
   ·show 100 * ((S.length : Int) - ((i + 1 : Nat) : Int)).toNat + 90 < 100 * ((S.length : Int) - (i : Int)).toNat + 80
    omega
   ·rw [dv_next hx, hv, hc]; omega
   ·show 100 * ((S.length : Int) - ((i + 1 : Nat) : Int)).toNat + 90 < 100 * ((S.length : Int) - (i : Int)).toNat + 80
    omega
theorem nbytes_ok (n : Nat) : @Ok (I n) q_nbytes (okD n) :=
 ok_irrel (by decide) (@Ok.less (I (n + 3000)) _ _ _ (nbytes_more (n + 3000)) fun ds h => ⟨⟨by have := h.1; omega, h.2⟩, by omega⟩)
end Go.Proofs.YtflhikakndanjaaDoor.Vk
/- NumRound: its function answers true. -/
namespace Go.Proofs.YtflhikakndanjaaDoor.Vk
open Go Go.Ab Go.RowKit
theorem num_str {d : List D} (h : FitL tb [.row 24, .cell (.sc .s)] d) : ∃ (s : ByteArray) (t : NumT), d = [numD t, sD s] := by
 match d, h with
 | [y, x], ⟨h2, h1, _⟩ =>
  obtain ⟨s, rfl⟩ := fits_str h1
  obtain ⟨a, s', e, rfl⟩ := fit_num h2
  exact ⟨s, (a, s', e), rfl⟩
theorem print_size {t : NumT} : (printV t).1.size <= 1100 := by
 by_cases h : numV t.1 t.2.1 t.2.2 = 0
 ·obtain ⟨hd, hpos, b1, b2, b3, _⟩ := num_first (t := t) h
  obtain ⟨a, d, x⟩ := t
  simp only at hpos b1 b2 b3 h
  have hs := sign_size a
  obtain ⟨c1, c2, c3⟩ := printC_size b2 b3 hpos b1
  have hst : (smallText (x + d.size - 1)).size <= 7 := smallText_size (by omega)
  have e46 : (mkS [46]).size = 1 := rfl
  have e101 : (mkS [101]).size = 1 := rfl
  have e0 : (ByteArray.empty).size = 0 := rfl
  by_cases hA : 0 <= x /\ (d.size : Int) + x <= 21
  ·rw [print_A h hA]
   show (signV a ++ d ++ zer x).size <= 1100
   rw [cat_size, cat_size, zer_size]; omega
  ·by_cases hB : x < 0 /\ -21 <= x
   ·rw [print_B h hB]
    show (_ ++ _ ++ _ ++ _ : ByteArray).size <= 1100
    rw [cat_size, cat_size, cat_size, ByteArray.size_extract, ByteArray.size_extract, e46]; omega
   ·rw [print_C h hA hB]
    show (_ ++ _ ++ _ ++ _ ++ _ ++ _ : ByteArray).size <= 1100
    have : (if 1 < d.size then mkS [46] else ByteArray.empty).size <= 1 := by split <;> decide
    rw [cat_size, cat_size, cat_size, cat_size, cat_size, ByteArray.size_extract, ByteArray.size_extract, e101]; omega
 ·rw [print_bad h]; decide
theorem byts_len {m k : Nat} (h : m < 256 ^ k) : (byts m).length <= k := by
 induction k generalizing m with
 | zero =>
  have h : m < 1 := h
  obtain rfl : m = 0 := by omega
  rw [byts_zero]; exact Nat.le_refl _
 | succ k ih =>
  by_cases h0 : m = 0
  ·rw [h0, byts_zero]; exact Nat.zero_le _
  ·rw [Nat.pow_succ] at h
   rw [byts_pos h0, List.length_append]
   have := ih (m := m / 256) (by omega)
   show _ + 1 <= k + 1
   omega
theorem bytesV_len {t : NumT} : (bytesV t).1.length <= 40 := by
 unfold bytesV
 split
 ·exact Nat.zero_le _
 rename_i h1
 split
 ·exact Nat.zero_le _
 rename_i h2
 split
 ·exact Nat.zero_le _
 rename_i h3
 have ht : numOk t := Classical.byContradiction fun hn => h1 hn
 obtain ⟨hd, hpos, b1, b2, b3, _⟩ := num_first ht
 refine byts_len (k := 40) ?_
 have h1 := dv_lt _ hd
 rw [list_len] at h1
 have h2 : dv t.2.1.data.toList * 10 ^ t.2.2.toNat < 10 ^ t.2.1.size * 10 ^ t.2.2.toNat := Nat.mul_lt_mul_of_pos_right h1 (pow_pos10 _)
 rw [<- Nat.pow_add] at h2
 have h3 : 10 ^ (t.2.1.size + t.2.2.toNat) <= 10 ^ e39 := Nat.pow_le_pow_right (by decide) (show _ <= 40 by omega)
 exact Nat.lt_of_lt_of_le (Nat.lt_of_lt_of_le h2 h3) (Nat.pow_le_pow_left (by decide) e39)
def heads_nround : List Hd := []
def eZ185 : E := (.c 0 (.app 91 [(.r3 .v0)]))
def eZ186 : E := (.c 0 (.app 90 [eZ185]))
def eZ187 : E := (.eq (.c 1 (.app 95 [(.r3 .v0)])) (.i 0))
def eZ188 : E := (.c 0 (.app 95 [(.r3 .v0)]))
def eZ189 : E := (.ne (.c 1 (.app 94 [(.c 0 .v0), eZ188])) (.i 0))
def eZ190 : E := (.c 0 (.app 94 [(.c 0 .v0), eZ188]))
def eZ191 : E := (.pr .and [(.pr (.bcmp .eql) [(.c 0 eZ190), (.c 0 .v0)]), (.pr (.scmp .eql) [(.c 1 eZ190), (.c 1 .v0)]), (.eq (.c 2 eZ190) (.c 2 .v0))])
def eZ192 : E := (.eq (.c 0 (.a eZ188 (.i 0))) (.lit (.int .u8 0)))
def eZ193 : E := (.app 1000 [.v1])
def eZ194 : E := (.app 2090 [.v1])
def eZ195 : E := (.app 112 [])
def eZ196 : E := (.ne (.c 1 (.app 90 [.v1])) (.i 0))
def eZ197 : E := (.app 1000 [(.r3 (.c 0 (.app 90 [.v1])))])
def eZ198 : E := (.eq (.app 5 [(.r3 (.c 0 (.app 90 [.v1])))]) (.i 0))
def entry_nround : Tree :=
 (.giv (.app 1000 [])
 (.ite (.gt (.pr .slen [(.c 1 .v0)]) (.i 4096)) .ye
 (.ite (.gt (.pr .slen [.v1]) (.i 4096)) .ye
 (.giv (.app 1000 [(.r3 .v0)])
 (.ite (.eq (.c 1 (.app 91 [(.r3 .v0)])) (.i 0))
 (.giv (.app 1000 [eZ185])
 (.giv (.app 2090 [eZ185])
 (.ite (.ne (.c 1 (.app 90 [eZ185])) (.i 0)) .no
 (.ite (.pr .and [(.pr (.bcmp .eql) [(.c 0 eZ186), (.c 0 .v0)]), (.pr (.scmp .eql) [(.c 1 eZ186), (.c 1 .v0)]), (.eq (.c 2 eZ186) (.c 2 .v0))])
 (.ite eZ187
 (.giv (.app 1000 [(.c 0 .v0), eZ188])
 (.giv (.app 2094 [(.c 0 .v0), eZ188])
 (.ite eZ189 .no
 (.ite eZ191
 (.ite (.gt (.n eZ188) (.i 0))
 (.giv (.lt (.i 0) (.n eZ188))
 (.ite eZ192 .no
 (.giv eZ193
 (.giv eZ194
 (.ite eZ195
 (.ite eZ196 .ye
 (.giv eZ197
 (.rt eZ198))) .no)))))
 (.giv eZ193
 (.giv eZ194
 (.ite eZ195
 (.ite eZ196 .ye
 (.giv eZ197
 (.rt eZ198))) .no)))) .no))))
 (.giv eZ193
 (.giv eZ194
 (.ite eZ195
 (.ite eZ196 .ye
 (.giv eZ197
 (.rt eZ198))) .no)))) .no))))
 (.ite eZ187
 (.giv (.app 1000 [(.c 0 .v0), eZ188])
 (.giv (.app 2094 [(.c 0 .v0), eZ188])
 (.ite eZ189 .no
 (.ite eZ191
 (.ite (.gt (.n eZ188) (.i 0))
 (.giv (.lt (.i 0) (.n eZ188))
 (.ite eZ192 .no
 (.giv eZ193
 (.giv eZ194
 (.ite eZ195
 (.ite eZ196 .ye
 (.giv eZ197
 (.rt eZ198))) .no)))))
 (.giv eZ193
 (.giv eZ194
 (.ite eZ195
 (.ite eZ196 .ye
 (.giv eZ197
 (.rt eZ198))) .no)))) .no))))
 (.giv eZ193
 (.giv eZ194
 (.ite eZ195
 (.ite eZ196 .ye
 (.giv eZ197
 (.rt eZ198))) .no)))))))))
def trees_nround : List Tree := []
noncomputable def deps_nround : List Sig := [q_nparse, q_nprint, q_nof, q_nbytes, q_numcheck, q_nawake]
theorem ok_nround : check q_nround deps_nround heads_nround entry_nround trees_nround = true := by kernel_rfl
set_option maxHeartbeats 2000000 in
theorem nround_ok (n : Nat) : @Ok (I n) q_nround (fun ds => 4 * D.szL ds + 200 <= n /\ D.LimL ds) := by
 letI := I n
 refine fn_okS (hphi n) ok_nround (by
  intro q hq
  simp only [deps_nround, List.mem_cons, List.not_mem_nil, or_false] at hq
  rcases hq with rfl | rfl | rfl | rfl | rfl | rfl
  ·exact nparse_ok n
  ·exact okS_of (nprint_ok n)
  ·exact nof_ok n
  ·exact okS_of (nbytes_ok n)
  ·exact okS_of (numcheck_ok n)
  ·exact okS_of (nawake_ok n)) (fun _ _ _ => False) (fun _ _ => 0) ?_ (fun j h t d ds hj => by simp [heads_nround] at hj)
 intro ds hf hp
 obtain ⟨s, t, rfl⟩ := num_str hf
 obtain ⟨hp1, hp2, hp3, _⟩ := hp
 rw [lim_numD] at hp2
 have hn : 200 <= n := by omega
 have oz : okD n [] := ⟨by simp only [D.szL]; omega, by simp only [D.LimL]⟩
 have os : okD n [sD s] := okD_one.2 ⟨by simp only [D.sz]; omega, hp3⟩
 have ot : okD n [numD t] := okD_one.2 ⟨by rw [sz_numD]; omega, (lim_numD t).2 hp2⟩
 have hps := print_size (t := t)
 have hbl := bytesV_len (t := t)
 have op : okD n [sD (printV t).1] := okD_one.2 ⟨by simp only [D.sz]; omega, lim_sD.2 (Nat.le_trans hps (by decide))⟩
 have ob : ∀ b : Bool, okD n [bD b, bytesD (bytesV t).1] := fun b => okD_two.2 ⟨by rw [bytes_sz]; simp only [D.sz]; omega, by simp only [D.Lim], bytes_lim.2 (Nat.le_trans hbl (by decide))⟩
 have hpn : ∀ b : D, @Interp.phi (I n) 2094 [b, bytesD (bytesV t).1] = .v (.bool true) ↔ True := fun b => ⟨fun _ => trivial, fun _ => (pre_nof n b _).2 ⟨(bytesV t).1, rfl, Nat.le_trans hbl (by decide)⟩⟩
 have hnum : ∀ {x : NumT}, parseV s = (x, 0) -> numOk x := fun h => parse_num h
 have hpar : (printV t).2 = 0 -> parseV (printV t).1 = (t, 0) := fun h => by
  refine (parse_print (t := t) (Classical.byContradiction fun hc => ?_)).1
  rw [print_bad hc] at h
  exact absurd h (by decide)
 have hby := of_bytes (t := t)
 have hhead : (bytesV t).2 = 0 -> 0 < (bytesV t).1.length -> ((cellAt (Go.Ab.rowAt (bytesD (bytesV t).1) 0) 0).int ≠ 0) := fun h h0 => by
  have hv : ∃ m, (bytesV t).1 = byts m := by
   unfold bytesV
   split
   ·exact ⟨0, byts_zero.symm⟩
   split
   ·exact ⟨0, byts_zero.symm⟩
   split
   ·exact ⟨0, byts_zero.symm⟩
   exact ⟨_, rfl⟩
  obtain ⟨m, hm⟩ := hv
  rw [hm] at h0 ⊢
  cases hl : byts m with
  | nil => rw [hl] at h0; exact absurd h0 (by decide)
  | cons x r =>
   have := byts_head m x r hl
   have e := bytes_at (l := x :: r) (i := 0) (x := x) rfl
   have e : cellAt (Go.Ab.rowAt (bytesD (x :: r)) 0) 0 = .v (.int .u8 x.toNat) := e
   rw [e]
   show (x.toNat : Int) ≠ 0
   omega
 simp only [entry_nround, eZ185, eZ186, eZ187, eZ188, eZ189, eZ190, eZ191, eZ192, eZ193, eZ194, eZ195, eZ196, eZ197, eZ198, q_nround, Tree.holds, Out.den, E.den, E.denL, dn, List.getD_cons_zero, List.getD_cons_succ, List.length_map, phi_1000, num_at0, num_at1, num_at2, num_put, phi_nparse, pre_nparse, phi_nprint, phi_nof, hpn, phi_nbytes, phi_formN, phi_nawake, phi_nround, row_at0, row_at1, oz, os, ot, op, ob, bytes_rows]
 have okx : ∀ x : NumT, parseV s = (x, 0) -> okD n [numD x] := fun x h => okD_one.2 ⟨by rw [sz_numD]; omega, (lim_numD x).2 (numOk_lim (hnum h))⟩
 generalize hP : parseV s = P at *
 obtain ⟨x, e⟩ := P
 have T : ¬ 4096 < (s.size : Int) -> s.size <= 1000000 /\ (¬ e = 0 -> True) /\ (e = 0 -> okD n [numD x] /\ formN x = 0) := fun hs => ⟨by omega, fun _ => True.intro, fun h => by
  subst h
  exact ⟨okx x rfl, hnum rfl⟩⟩
 have hpz : (printV t).1.size <= 1000000 := Nat.le_trans hps (by decide)
 have eS : ∀ a : ByteArray, eqS a a = true := fun a => eqS_t.2 rfl
 have eI : ∀ a : Int, eqI a a = true := fun a => eqI_t.2 rfl
 have close : ∀ {p q : Prop}, p -> (p -> q) -> p /\ q := fun h k => ⟨h, k h⟩
 by_cases he : (printV t).2 = 0
 ·have h1 := hpar he
  by_cases hb : (bytesV t).2 = 0
  ·have h2 := (hby hb).2
   have h3 := hhead hb
   simp only [he, hb, h1, h2, eS, eI, beq_self_eq_true, List.all_cons, List.all_nil, Bool.and_true, Bool.and_self, bool_v, not_true_eq_false, not_false_eq_true, false_implies, true_implies, true_and, and_true, Bool.true_eq_false, Bool.false_eq_true]
   exact ⟨fun _ => True.intro, fun _ => ⟨fun _ => True.intro, fun hs => ⟨hpz, ⟨fun hl => ⟨hl, fun h0 => h3 (by omega) h0, fun _ => T hs⟩, fun _ => T hs⟩⟩⟩⟩
  ·simp only [he, hb, h1, eS, eI, beq_self_eq_true, List.all_cons, List.all_nil, Bool.and_true, Bool.and_self, bool_v, not_true_eq_false, not_false_eq_true, false_implies, true_implies, true_and, and_true, Bool.true_eq_false, Bool.false_eq_true]
   exact ⟨fun _ => True.intro, fun _ => ⟨fun _ => True.intro, fun hs => ⟨hpz, T hs⟩⟩⟩
 ·by_cases hb : (bytesV t).2 = 0
  ·have h2 := (hby hb).2
   have h3 := hhead hb
   simp only [he, hb, h2, eS, eI, beq_self_eq_true, List.all_cons, List.all_nil, Bool.and_true, Bool.and_self, bool_v, not_true_eq_false, not_false_eq_true, false_implies, true_implies, true_and, and_true, Bool.true_eq_false, Bool.false_eq_true]
   exact ⟨fun _ => True.intro, fun _ => ⟨fun _ => True.intro, fun hs => ⟨fun hl => ⟨hl, fun h0 => h3 (by omega) h0, fun _ => T hs⟩, fun _ => T hs⟩⟩⟩
  ·simp only [he, hb, eS, eI, beq_self_eq_true, List.all_cons, List.all_nil, Bool.and_true, Bool.and_self, bool_v, not_true_eq_false, not_false_eq_true, false_implies, true_implies, true_and, and_true, Bool.true_eq_false, Bool.false_eq_true]
   exact ⟨fun _ => True.intro, fun _ => ⟨fun _ => True.intro, fun hs => T hs⟩⟩
end Go.Proofs.YtflhikakndanjaaDoor.Vk
/- The law NumRound: whatever is handed in, the law's function answers true and leaves it as it was. Conditions: those of the row alone. -/
namespace Go.Proofs.YtflhikakndanjaaDoor.VkNumRound
open Go Go.Ab Go.RowKit Go.ChangeShapes Go.WideShapes Go.ChangeAt Go.Proofs.YtflhikakndanjaaDoor.Vk

theorem own : ownKnob Tryd.prog.godebug = none := by kernel_rfl
theorem laidOut : laidOutB Tryd.prog = true := by kernel_rfl
theorem met {W : World} (h : laidMetH Tryd.prog Rows.numRoundRow.laid W) : TabsMet tabs W := by
 rw [MakeChecks.laidMetH_plain _ _ _ (by kernel_rfl)] at h
 obtain ⟨ps, h, _, _⟩ := h
 haveI : Interp := ⟨fun _ _ => .nil⟩
 exact tabs_of_laid h
theorem tbIs : tbOk Tryd.prog tb = true := by kernel_rfl
theorem argsAre : argsOk Tryd.prog tb Tryd.f11.params.toList q_nround.args = true := by kernel_rfl

theorem trodAll_len {H : Type} {enc : TypeId × Value -> H} {P : Program} {w : World} {sp : Nat -> Bool} {held : Bool} : ∀ {ts : List TypeId} {vs : List Value} {ds : List (DataW H)} {ps : List MemPlace}, DataW.TrodAll enc P w 0 sp held ts vs ds ps -> ds.length = ts.length
 | [], [], [], _, _ => rfl
 | t :: ts, v :: vs, d :: ds, ps, h => by
  obtain ⟨p, q, h1, h2, rfl⟩ := h
  rw [List.length_cons, List.length_cons, trodAll_len h2]
 | [], [], _ :: _, _, h => h.elim
 | [], _ :: _, [], _, h => h.elim
 | [], _ :: _, _ :: _, _, h => h.elim
 | _ :: _, [], [], _, h => h.elim
 | _ :: _, [], _ :: _, _, h => h.elim
 | _ :: _, _ :: _, [], _, h => h.elim

theorem len_two {α : Type} {l : List α} (h : l.length = 2) : ∃ a b, l = [a, b] := by
 match l, h with
 | [a, b], _ => exact ⟨a, b, rfl⟩
theorem len_three {α : Type} {l : List α} (h : l.length = 3) : ∃ a b c, l = [a, b, c] := by
 match l, h with
 | [a, b, c], _ => exact ⟨a, b, c, rfl⟩
theorem contract (H : Type) (enc : TypeId × Value -> H) (W : World) (base : Nat) (args : Array Value) (ds gs : List (DataW H)) (before : List MemPlace)
  (hval : ∀ (j : Nat) t v, Tryd.f11.params[j]? = some t -> args[j]? = some v -> Value.okWide Tryd.prog W .any base t v)
  (hW : DataW.Whole enc Tryd.prog Tryd.f11.params.toList Rows.numRoundSpec.vars false W args.toList ds gs before)
  (hR : (DataW.weightsEach Tryd.prog (Tryd.f11.params.toList ++ (OpenSpec.ofChange Rows.numRoundSpec).bare.plain.varTypes Tryd.prog) (ds ++ gs)).all (· <= reachBytes) = true)
  (hL : laidMetH Tryd.prog Rows.numRoundRow.laid W) :
  Calls Tryd.prog 11 args W fun e W' => ∃ v, e = .returned v /\ Rows.numRoundSpec.post enc Tryd.prog Tryd.f11 false true false false W args v W' := by
 have hW' := hW
 obtain ⟨p, q, hA0, hV, rfl, hfz, hnd⟩ := hW
 have hA : DataW.TrodAll enc Tryd.prog W 0 (fun _ => true) true Tryd.f11.params.toList args.toList ds p := hA0
 obtain ⟨rfl, rfl⟩ := trodVars_none hV
 have hw : ∀ m, m ∈ DataW.weightsEach Tryd.prog Tryd.f11.params.toList ds -> m <= lim := fun m hm => by
  have h1 : m ∈ DataW.weightsEach Tryd.prog (Tryd.f11.params.toList ++ (OpenSpec.ofChange Rows.numRoundSpec).bare.plain.varTypes Tryd.prog) (ds ++ []) := by
   rw [show (OpenSpec.ofChange Rows.numRoundSpec).bare.plain.varTypes Tryd.prog = [] from rfl, List.append_nil, List.append_nil]; exact hm
  have h2 := List.all_eq_true.1 hR m h1
  exact Nat.le_trans (of_decide_eq_true h2) (by show 0x7ffffffff000 <= lim; decide)
 obtain ⟨xs, hx, hlim⟩ := args_read (P := Tryd.prog) tbIs argsAre (fun j t v h1 h2 => hval j t v (by simpa using h1) (by simpa using h2)) hA hw
 letI := I (4 * D.szL xs + 200)
 have hok := nround_ok (4 * D.szL xs + 200) W (fun _ _ => True) args xs (met hL) (fun _ _ _ _ _ => trivial) hx ⟨by omega, hlim⟩
 refine (callsIn_wide.1 hok).mono fun e' W' hq => ?_
 obtain ⟨v, rfl, hb, hr⟩ := hq
 refine ⟨v, rfl, ?_⟩
 obtain rfl : v = .bool true := by
  have e : @Interp.phi (I (4 * D.szL xs + 200)) q_nround.g xs = bD true := phi_nround _ _
  rw [e] at hr
  have := hr.1
  unfold bD DV at this
  exact this.1
 obtain ⟨d0, d1, rfl⟩ := len_two (trodAll_len hA)
 exact post_true (t := 4) laidOut (by kernel_rfl) (by kernel_rfl) Tryd.underlying4 hW' rfl rfl rfl rfl hb

/- A world for the witness: the settled one, each listed table holding what its initialiser lays. -/
noncomputable def wargs : Array Value := #[.agg #[.bool false, .string ByteArray.empty, .int .i64 0], .string ByteArray.empty]
theorem laid_met (os : Os) (args : Array Value) : laidMetH Tryd.prog Rows.numRoundRow.laid ((World.laidAll Tryd.prog os Rows.numRoundRow.laid).forCall (fun _ _ => 0) ⟨#[], args, []⟩).memory := by
 rw [MakeChecks.laidMetH_plain _ _ _ (by kernel_rfl)]
 exact laidMet_laidAll _ (by kernel_rfl) (by kernel_rfl)
noncomputable def wds (os : Os) {H : Type} (enc : TypeId × Value -> H) : List (DataW H) :=
 match DataW.whole enc Tryd.prog ((World.laidAll Tryd.prog os Rows.numRoundRow.laid).forCall (fun _ _ => 0) ⟨#[], wargs, []⟩).memory Tryd.f11.params.toList Rows.numRoundSpec.vars false wargs.toList 16 with
 | some (ds, _, _) => ds
 | none => []
theorem reads (os : Os) {H : Type} (enc : TypeId × Value -> H) : DataW.whole enc Tryd.prog ((World.laidAll Tryd.prog os Rows.numRoundRow.laid).forCall (fun _ _ => 0) ⟨#[], wargs, []⟩).memory Tryd.f11.params.toList Rows.numRoundSpec.vars false wargs.toList 16 =
  some (wds os enc, [], []) := by kernel_rfl

theorem lifted (os : Os) (started : os.Started) (H : Type) (enc : TypeId × Value -> H) (F : Stop.Interp) :
  ReturnsInHanded {} Tryd.checked os 11 .any ((OpenSpec.ofChange Rows.numRoundSpec).preRow enc Tryd.prog Tryd.f11 Rows.numRoundRow.domain false Rows.numRoundRow.laid) (((OpenSpec.ofChange Rows.numRoundSpec).at F).post enc Tryd.prog Tryd.f11 false true false false) := by
 refine returnsInHanded_of_row (C := Tryd.checked) (s := OpenSpec.ofChange Rows.numRoundSpec) own started (by kernel_rfl) Tryd.func11
  (witness_row_at (enc := enc) (C := Tryd.checked) false (World.laidAll Tryd.prog os Rows.numRoundRow.laid) wargs (World.laidAll_os _ _ _) (by kernel_rfl) (by kernel_rfl) (by kernel_rfl)
   (OpenSpec.preRow_of_cond 16 (reads os enc) (by kernel_rfl) (fun k hk => by cases hk) (by kernel_rfl) (laid_met os _))) ?_
 intro W base args ds gs before hval hW _ _ hR hL _ _
 exact contract H enc W base args ds gs before hval hW hR hL

theorem said : Rows.NumRoundSaid :=
 OpenClaim.holds_of_cond 11 Tryd.f11 rfl rfl rfl rfl rfl rfl rfl ⟨rfl, rfl, rfl, rfl, rfl⟩ rfl rfl rfl rfl rfl (by kernel_rfl) Tryd.func11 (by kernel_rfl)
  (of_decide_eq_true (by kernel_rfl)) (by unfold Func.isWrapper; first | (rw [if_pos (by decide +kernel)]; kernel_rfl) | (rw [if_neg (by decide +kernel)]; exact ⟨rfl, rfl⟩))
  (fun os started H enc _ F => by rw [OpenClaim.pre_eq_preRow]; exact lifted os started H enc F)

theorem plain (f : FuncId) (fn : Func) (hf : Tryd.pinned.checked.prog.funcNamed "calamus/calamuslaw01.NumRound" = some f) (hfn : Tryd.pinned.checked.prog.funcs[f]? = some fn) :
  true = Tryd.pinned.checked.prog.looks [] /\ ∀ (j : Nat) t, fn.params[j]? = some t -> Tryd.pinned.checked.prog.wantsStandIn t = false := by
 obtain rfl : f = 11 := Option.some.inj ((show Tryd.prog.funcNamed "calamus/calamuslaw01.NumRound" = some 11 by kernel_rfl).symm.trans hf) |>.symm
 obtain rfl : fn = Tryd.f11 := (Option.some.inj (Tryd.func11.symm.trans hfn)).symm
 refine ⟨by kernel_rfl, fun j t ht => ?_⟩
 have h : (Tryd.f11.params.all fun t => !Tryd.prog.wantsStandIn t) = true := by kernel_rfl
 have := Array.all_eq_true_iff_forall_mem.1 h t (Array.mem_of_getElem? ht)
 show Tryd.prog.wantsStandIn t = false
 simpa using this

theorem card : Rows.NumRoundCardSaid :=
 Claim7.holds_tied_plain_at .later [] _ _ _ _ said (fun _ h => by cases h) (by kernel_rfl) (fun _ h => by cases h) numRound_row_tie rfl ⟨rfl, rfl⟩ (by kernel_rfl) rfl plain (by kernel_rfl)
end Go.Proofs.YtflhikakndanjaaDoor.VkNumRound
