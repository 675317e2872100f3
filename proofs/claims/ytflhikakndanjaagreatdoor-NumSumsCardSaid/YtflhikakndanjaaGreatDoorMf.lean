/- Merged own texts, without what this claim does not use. -/
import Derived.Test.YtflhikakndanjaaGreatDoorMe
import Derived.Test.YtflhikakndanjaaGreatDoorMd
import Derived.Test.YtflhikakndanjaaGreatDoorCards
import Derived.Test.YtflhikakndanjaaGreatDoorTie
import Derived.KernelRfl
import Derived.ProofKit
import Derived.Deep.DeepHandedRow
import Derived.Lay
import Derived.SevenTiedAt
set_option maxRecDepth 100000
set_option linter.unusedVariables false
set_option linter.unusedSimpArgs false
set_option linter.unusedSectionVars false
set_option linter.constructorNameAsVariable false
/- Contracts of the reference of chapter 1: plus, minus. -/
namespace Go.Proofs.YtflhikakndanjaaGreatDoor.Vk
open Go Go.Ab Go.RowKit
theorem rowN_len : ∀ k m, (rowN k m).length = k
 | 0, _ => rfl
 | k + 1, m => by rw [rowN, List.length_append, rowN_len k]; rfl
theorem rowN_dig : ∀ k m, Dig (rowN k m)
 | 0, _ => fun x hx => by cases hx
 | k + 1, m => by
  rw [rowN]
  refine dig_append (rowN_dig k _) fun x hx => ?_
  rw [List.mem_singleton] at hx
  rw [hx, dig_byte (Nat.mod_lt _ (by decide))]; omega
theorem rowN_top : ∀ (k w X : Nat), w < 10 -> X < 10 ^ k -> rowN (k + 1) (w * 10 ^ k + X) = UInt8.ofNat (48 + w) :: rowN k X
 | 0, w, X, hw, hX => by
  have hX : X < 1 := hX
  obtain rfl : X = 0 := by omega
  show rowN 0 _ ++ [UInt8.ofNat (48 + (w * 1 + 0) % 10)] = _
  rw [show (w * 1 + 0) % 10 = w by omega]; rfl
 | k + 1, w, X, hw, hX => by
  rw [Nat.pow_succ] at hX
  have e : w * 10 ^ (k + 1) + X = (w * 10 ^ k + X / 10) * 10 + X % 10 := by rw [Nat.pow_succ, Nat.add_mul, Nat.mul_assoc]; omega
  rw [rowN, e, show ((w * 10 ^ k + X / 10) * 10 + X % 10) / 10 = w * 10 ^ k + X / 10 by omega, show ((w * 10 ^ k + X / 10) * 10 + X % 10) % 10 = X % 10 by omega, rowN_top k w (X / 10) hw (by omega), List.cons_append]
  rfl
theorem rowN_dv : ∀ (k m : Nat), m < 10 ^ k -> dv (rowN k m) = m
 | 0, m, h => by
  have h : m < 1 := h
  show 0 = m
  omega
 | k + 1, m, h => by
  rw [Nat.pow_succ] at h
  rw [rowN, dv_append, rowN_dv k (m / 10) (by omega), dv_cons, dig_byte (Nat.mod_lt _ (by decide))]
  show m / 10 * 10 ^ 1 + ((48 + m % 10 - 48) * 10 ^ 0 + 0) = m
  omega
theorem dig_of {s : ByteArray} (h : (s.data.toList.all fun c => decide (48 <= c.toNat /\ c.toNat <= 57)) = true) : Dig s.data.toList := fun x hx => of_decide_eq_true (List.all_eq_true.1 h x hx)
theorem dig_to {s : ByteArray} (h : Dig s.data.toList) : (s.data.toList.all fun c => decide (48 <= c.toNat /\ c.toNat <= 57)) = true := List.all_eq_true.2 fun x hx => decide_eq_true (h x hx)
theorem pre_qplus (n : Nat) (a b : ByteArray) : (@Interp.phi (I n) 2105 [sD a, sD b] = .v (.bool true)) ↔ (a.size = b.size /\ a.size <= 10000) /\ Dig a.data.toList /\ Dig b.data.toList := by
 show (bD (decide (a.size = b.size /\ a.size <= 10000) && (a.data.toList.all (fun c => decide (48 <= c.toNat /\ c.toNat <= 57)) && b.data.toList.all fun c => decide (48 <= c.toNat /\ c.toNat <= 57))) = _) ↔ _
 rw [bD_true, Bool.and_eq_true, Bool.and_eq_true, decide_eq_true_iff]
 exact ⟨fun h => ⟨h.1, dig_of h.2.1, dig_of h.2.2⟩, fun h => ⟨h.1, dig_to h.2.1, dig_to h.2.2⟩⟩
theorem pre_qminus (n : Nat) (a b : ByteArray) : (@Interp.phi (I n) 2106 [sD a, sD b] = .v (.bool true)) ↔ (a.size = b.size /\ a.size <= 10000 /\ dv b.data.toList <= dv a.data.toList) /\ Dig a.data.toList /\ Dig b.data.toList := by
 show (bD (decide (a.size = b.size /\ a.size <= 10000 /\ dv b.data.toList <= dv a.data.toList) && (a.data.toList.all (fun c => decide (48 <= c.toNat /\ c.toNat <= 57)) && b.data.toList.all fun c => decide (48 <= c.toNat /\ c.toNat <= 57))) = _) ↔ _
 rw [bD_true, Bool.and_eq_true, Bool.and_eq_true, decide_eq_true_iff]
 exact ⟨fun h => ⟨h.1, dig_of h.2.1, dig_of h.2.2⟩, fun h => ⟨h.1, dig_to h.2.1, dig_to h.2.2⟩⟩
theorem row_put {k w X : Nat} (hw : w < 10) (hX : X < 10 ^ k) : (⟨[UInt8.ofNat (48 + w)].toArray⟩ : ByteArray) ++ ⟨(rowN k X).toArray⟩ = ⟨(rowN (k + 1) (w * 10 ^ k + X)).toArray⟩ := by
 rw [rowN_top k w X hw hX]
 apply ByteArray.ext
 rw [ByteArray.data_append]; simp
theorem row_lt {k w X : Nat} (hw : w < 10) (hX : X < 10 ^ k) : w * 10 ^ k + X < 10 ^ (k + 1) := by
 have : w * 10 ^ k <= 9 * 10 ^ k := Nat.mul_le_mul_right _ (by omega)
 rw [Nat.pow_succ]; omega
theorem digV_at {l : List UInt8} {i : Nat} {x : UInt8} (h : l[i]? = some x) : l.getD i 0 = x := by rw [List.getD_eq_getElem?_getD, h]; rfl
def PlusInv (n : Nat) (d : D) (ds : List D) : Prop :=
 ∃ (a b : ByteArray) (k X c : Nat), ds = [sD a, sD b, sD ⟨(rowN k X).toArray⟩, iD c, iD ((a.size : Int) - 1 - k)] /\ a.size = b.size /\ a.size <= 10000 /\ Dig a.data.toList /\ Dig b.data.toList /\ k <= a.size /\ X < 10 ^ k /\ c <= 1 /\
  dv (a.data.toList.drop (a.size - k)) + dv (b.data.toList.drop (a.size - k)) = X + c * 10 ^ k /\ d = sD (plusV a b)
theorem plus_step {T p q c A B X d w : Nat} (h : A + B = X + c * T) (hv : p + q + c = 10 * d + w) : (p * T + A) + (q * T + B) = (w * T + X) + d * (T * 10) := by
 have : (p + q + c) * T = (10 * d + w) * T := by rw [hv]
 grind
-- head 0 of loop 0: [t0 .sh (.cell (.sc .s)), t1 .sh (.cell (.sc .s)), t5 .sh (.cell (.sc .s)), t6 .sh (.cell (.sc (.i .i64))), t7 .sh (.cell (.sc (.i .i64)))]
def heads_qplus : List Hd := [⟨0, [.sh (.cell (.sc .s)), .sh (.cell (.sc .s)), .any, .any, .any, .sh (.cell (.sc .s)), .sh (.cell (.sc (.i .i64))), .sh (.cell (.sc (.i .i64))), .any, .any, .any, .any, .any, .any, .any, .any, .any, .any, .any, .any, .any, .any, .any, .any, .any, .any, .any, .any, .any, .any, .any, .any, .any, .any, .any, .any, .any, .any, .any, .any, .any, .any, .any, .any]⟩]
def entry_qplus : Tree :=
 (.g 0 [.v0, .v1, (.lit (.string .empty)), (.i 0), (.pr (.iop .sub .i64) [(.pr .slen [.v0]), (.i 1)])])
def head_qplus_0 : Tree :=
 (.ite (.ge .v4 (.i 0))
 (.giv (.le (.i 0) .v4)
 (.giv (.lt .v4 (.pr .slen [.v0]))
 (.giv (.lt .v4 (.pr .slen [.v1]))
 (.giv (.le (.i 0) (.pr (.iop .rem .i64) [(.pr (.iop .add .i64) [(.pr (.iop .add .i64) [(.pr (.conv .i64) [(.pr (.iop .sub .u8) [(.pr .sat [.v0, .v4]), (.lit (.int .u8 48))])]), (.pr (.conv .i64) [(.pr (.iop .sub .u8) [(.pr .sat [.v1, .v4]), (.lit (.int .u8 48))])])]), .v3]), (.i 10)]))
 (.giv (.le (.i 0) (.pr (.iop .add .i64) [(.pr (.iop .rem .i64) [(.pr (.iop .add .i64) [(.pr (.iop .add .i64) [(.pr (.conv .i64) [(.pr (.iop .sub .u8) [(.pr .sat [.v0, .v4]), (.lit (.int .u8 48))])]), (.pr (.conv .i64) [(.pr (.iop .sub .u8) [(.pr .sat [.v1, .v4]), (.lit (.int .u8 48))])])]), .v3]), (.i 10)]), (.i 1)]))
 (.giv (.le (.pr (.iop .rem .i64) [(.pr (.iop .add .i64) [(.pr (.iop .add .i64) [(.pr (.conv .i64) [(.pr (.iop .sub .u8) [(.pr .sat [.v0, .v4]), (.lit (.int .u8 48))])]), (.pr (.conv .i64) [(.pr (.iop .sub .u8) [(.pr .sat [.v1, .v4]), (.lit (.int .u8 48))])])]), .v3]), (.i 10)]) (.pr (.iop .add .i64) [(.pr (.iop .rem .i64) [(.pr (.iop .add .i64) [(.pr (.iop .add .i64) [(.pr (.conv .i64) [(.pr (.iop .sub .u8) [(.pr .sat [.v0, .v4]), (.lit (.int .u8 48))])]), (.pr (.conv .i64) [(.pr (.iop .sub .u8) [(.pr .sat [.v1, .v4]), (.lit (.int .u8 48))])])]), .v3]), (.i 10)]), (.i 1)]))
 (.giv (.le (.pr (.iop .add .i64) [(.pr (.iop .rem .i64) [(.pr (.iop .add .i64) [(.pr (.iop .add .i64) [(.pr (.conv .i64) [(.pr (.iop .sub .u8) [(.pr .sat [.v0, .v4]), (.lit (.int .u8 48))])]), (.pr (.conv .i64) [(.pr (.iop .sub .u8) [(.pr .sat [.v1, .v4]), (.lit (.int .u8 48))])])]), .v3]), (.i 10)]), (.i 1)]) (.pr .slen [(.lit (.string (mkS [48, 49, 50, 51, 52, 53, 54, 55, 56, 57])))]))
 (.giv (.le (.pr .slen [(.pr .ssub [(.lit (.string (mkS [48, 49, 50, 51, 52, 53, 54, 55, 56, 57]))), (.pr (.iop .rem .i64) [(.pr (.iop .add .i64) [(.pr (.iop .add .i64) [(.pr (.conv .i64) [(.pr (.iop .sub .u8) [(.pr .sat [.v0, .v4]), (.lit (.int .u8 48))])]), (.pr (.conv .i64) [(.pr (.iop .sub .u8) [(.pr .sat [.v1, .v4]), (.lit (.int .u8 48))])])]), .v3]), (.i 10)]), (.pr (.iop .add .i64) [(.pr (.iop .rem .i64) [(.pr (.iop .add .i64) [(.pr (.iop .add .i64) [(.pr (.conv .i64) [(.pr (.iop .sub .u8) [(.pr .sat [.v0, .v4]), (.lit (.int .u8 48))])]), (.pr (.conv .i64) [(.pr (.iop .sub .u8) [(.pr .sat [.v1, .v4]), (.lit (.int .u8 48))])])]), .v3]), (.i 10)]), (.i 1)])])]) (.i 1099511627776))
 (.giv (.le (.pr .slen [.v2]) (.i 1099511627776))
 (.g 0 [.v0, .v1, (.pr .scat [(.pr .ssub [(.lit (.string (mkS [48, 49, 50, 51, 52, 53, 54, 55, 56, 57]))), (.pr (.iop .rem .i64) [(.pr (.iop .add .i64) [(.pr (.iop .add .i64) [(.pr (.conv .i64) [(.pr (.iop .sub .u8) [(.pr .sat [.v0, .v4]), (.lit (.int .u8 48))])]), (.pr (.conv .i64) [(.pr (.iop .sub .u8) [(.pr .sat [.v1, .v4]), (.lit (.int .u8 48))])])]), .v3]), (.i 10)]), (.pr (.iop .add .i64) [(.pr (.iop .rem .i64) [(.pr (.iop .add .i64) [(.pr (.iop .add .i64) [(.pr (.conv .i64) [(.pr (.iop .sub .u8) [(.pr .sat [.v0, .v4]), (.lit (.int .u8 48))])]), (.pr (.conv .i64) [(.pr (.iop .sub .u8) [(.pr .sat [.v1, .v4]), (.lit (.int .u8 48))])])]), .v3]), (.i 10)]), (.i 1)])]), .v2]), (.pr (.iop .quo .i64) [(.pr (.iop .add .i64) [(.pr (.iop .add .i64) [(.pr (.conv .i64) [(.pr (.iop .sub .u8) [(.pr .sat [.v0, .v4]), (.lit (.int .u8 48))])]), (.pr (.conv .i64) [(.pr (.iop .sub .u8) [(.pr .sat [.v1, .v4]), (.lit (.int .u8 48))])])]), .v3]), (.i 10)]), (.pr (.iop .sub .i64) [.v4, (.i 1)])]))))))))))
 (.ite (.gt .v3 (.i 0))
 (.giv (.le (.pr .slen [.v2]) (.i 1099511627776))
 (.rt (.pr .scat [(.lit (.string (mkS [49]))), .v2])))
 (.rt .v2)))
def trees_qplus : List Tree := [head_qplus_0]
noncomputable def deps_qplus : List Sig := []
theorem ok_qplus : check q_qplus deps_qplus heads_qplus entry_qplus trees_qplus = true := by kernel_rfl
theorem hv_dig {x : UInt8} (h : 48 <= x.toNat /\ x.toNat <= 57) : IntKind.i64.wrap (IntKind.u8.wrap ((x.toNat : Int) - 48)) = ((x.toNat - 48 : Nat) : Int) := by
 rw [wrap8 (by omega) (by omega), wrapI (by omega) (by omega)]; omega
theorem wrapK {i : Int} {k : Nat} (h : i = k) (hk : k <= 1099511627776) : IntKind.i64.wrap i = (k : Int) := by
 rw [h, wrapI (by omega) (by omega)]
theorem qplus_ok (n : Nat) : @Ok (I n) q_qplus (@okS (I n) n q_qplus.g) := by
 letI := I n
 refine fn_okS (hphi n) ok_qplus (by intro q hq; simp [deps_qplus] at hq) (fun _ d ds => PlusInv n d ds) (fun _ ds => ((ds.getD 4 .nil).int + 1).toNat) ?_ ?_
 ·intro ds hf hp
  obtain ⟨a, b, rfl⟩ : ∃ a b, ds = [sD a, sD b] := by
   match ds, hf with
   | [x, y], ⟨h1, h2, _⟩ =>
    obtain ⟨a, rfl⟩ := fits_str h1
    obtain ⟨b, rfl⟩ := fits_str h2
    exact ⟨a, b, rfl⟩
  obtain ⟨⟨p1, p2⟩, p3, p4⟩ := (pre_qplus n a b).1 (hp.2 rfl)
  simp only [entry_qplus, q_qplus, Tree.holds, Out.den, E.den, E.denL, dn, List.getD_cons_zero, List.getD_cons_succ, List.length_map, phi_1000, phi_qplus]
  refine ⟨a, b, 0, 0, 0, ?_, p1, p2, p3, p4, by omega, by decide, by omega, ?_, rfl⟩
  ·rw [wrapI (i := (a.size : Int) - 1) (by omega) (by omega), show (a.size : Int) - 1 - ((0 : Nat) : Int) = (a.size : Int) - 1 by omega]
   rfl
  ·rw [List.drop_eq_nil_of_le (by rw [list_len]; omega), List.drop_eq_nil_of_le (by rw [list_len]; omega)]; rfl
 ·rintro j h t dd ds hj ht hf ⟨a, b, k, X, c, rfl, hab, hm, ga, gb, hk, hX, hc, hval, rfl⟩
  obtain rfl : t = head_qplus_0 := by
   match j, ht with
   | 0, ht => exact (Option.some.inj ht).symm
  by_cases hlt : k < a.size
  ·obtain ⟨p, hp, _, _⟩ := drop_get (l := a.data.toList) (i := a.size - (k + 1)) (by rw [list_len]; omega)
   obtain ⟨q, hq, _, _⟩ := drop_get (l := b.data.toList) (i := a.size - (k + 1)) (by rw [list_len]; omega)
   have hpd := dig_at ga hp
   have hqd := dig_at gb hq
   have hti : ((a.size : Int) - 1 - k).toNat = a.size - (k + 1) := by omega
   have e1 := dv_drop (k := k) hp (by rw [list_len]; omega)
   have e2 := dv_drop (k := k) hq (by rw [list_len]; omega)
   rw [show a.size - (k + 1) + 1 = a.size - k by omega] at e1 e2
   simp only [head_qplus_0, Tree.holds, Out.den, E.den, E.denL, dn, List.getD_cons_zero, List.getD_cons_succ, List.length_map, phi_1000, hti, digV_at hp, digV_at hq, hv_dig hpd, hv_dig hqd]
   have w1 : IntKind.i64.wrap (((p.toNat - 48 : Nat) : Int) + ((q.toNat - 48 : Nat) : Int)) = ((p.toNat - 48 + (q.toNat - 48) : Nat) : Int) := wrapK (by omega) (by omega)
   have w2 : IntKind.i64.wrap (((p.toNat - 48 + (q.toNat - 48) : Nat) : Int) + (c : Int)) = ((p.toNat - 48 + (q.toNat - 48) + c : Nat) : Int) := wrapK (by omega) (by omega)
   have w5 : IntKind.i64.wrap ((a.size : Int) - 1 - k - 1) = (a.size : Int) - 1 - ((k + 1 : Nat) : Int) := by rw [wrapI (by omega) (by omega)]; omega
   rw [w1, w2]
   have hst := plus_step (T := 10 ^ k) (d := (p.toNat - 48 + (q.toNat - 48) + c) / 10) (w := (p.toNat - 48 + (q.toNat - 48) + c) % 10) hval (Nat.div_add_mod _ 10).symm
   have hv9 : (p.toNat - 48 + (q.toNat - 48) + c) / 10 <= 1 := by omega
   generalize p.toNat - 48 + (q.toNat - 48) + c = v at *
   have hw : v % 10 < 10 := Nat.mod_lt _ (by decide)
   have w3 : IntKind.i64.wrap (((v % 10 : Nat) : Int) + 1) = ((v % 10 + 1 : Nat) : Int) := wrapK (by omega) (by omega)
   have w4 : IntKind.i64.wrap ((v / 10 : Nat) : Int) = ((v / 10 : Nat) : Int) := wrapK rfl (by omega)
   have hts : ((mkS [48, 49, 50, 51, 52, 53, 54, 55, 56, 57]).size : Int) = 10 := rfl
   have hes : (⟨[UInt8.ofNat (48 + v % 10)].toArray⟩ : ByteArray).size = 1 := rfl
   have hrs : (⟨(rowN k X).toArray⟩ : ByteArray).size = k := by rw [bytes_len, rowN_len]
   simp only [tmod10, tdiv10, w3, w4, w5, Int.toNat_natCast, ten_at _ hw, hts, hes, hrs, row_put hw hX]
   refine ⟨fun _ => ⟨by omega, by omega, by omega, by omega, by omega, by omega, by omega, by omega, by omega, ?_, ?_⟩, fun h => by omega⟩
   ·refine ⟨a, b, k + 1, v % 10 * 10 ^ k + X, v / 10, rfl, hab, hm, ga, gb, hlt, row_lt hw hX, hv9, ?_, rfl⟩
    rw [e1, e2, Nat.pow_succ]
    exact hst
   ·omega
  ·obtain rfl : k = a.size := by omega
   rw [Nat.sub_self, List.drop_zero, List.drop_zero] at hval
   simp only [head_qplus_0, Tree.holds, Out.den, E.den, E.denL, dn, List.getD_cons_zero, List.getD_cons_succ, List.length_map, phi_1000, bytes_len, rowN_len]
   have hp := pow_pos10 a.size
   refine ⟨fun h => by omega, fun _ => ⟨fun h1 => ⟨by omega, ?_⟩, fun h1 => ?_⟩⟩
   ·obtain rfl : c = 1 := by omega
    unfold plusV
    simp only
    rw [hval, if_pos (by omega), Nat.one_mul, Nat.add_mod_right, Nat.mod_eq_of_lt hX]
    congr 2
   ·obtain rfl : c = 0 := by omega
    unfold plusV
    simp only
    rw [hval, Nat.zero_mul, Nat.add_zero, if_neg (by omega), Nat.mod_eq_of_lt hX, List.nil_append]
def MinusInv (n : Nat) (d : D) (ds : List D) : Prop :=
 ∃ (a b : ByteArray) (k X o : Nat), ds = [sD a, sD b, sD ⟨(rowN k X).toArray⟩, iD o, iD ((a.size : Int) - 1 - k)] /\ a.size = b.size /\ a.size <= 10000 /\ Dig a.data.toList /\ Dig b.data.toList /\ k <= a.size /\ X < 10 ^ k /\ o <= 1 /\ dv b.data.toList <= dv a.data.toList /\
  dv (a.data.toList.drop (a.size - k)) + o * 10 ^ k = dv (b.data.toList.drop (a.size - k)) + X /\ d = sD (minusV a b)
theorem minus_step {T p q o A B X d w o' : Nat} (h : A + o * T = B + X) (hv : p + 10 = 10 * d + w + q + o) (ho : o' + d = 1) : (p * T + A) + o' * (T * 10) = (q * T + B) + (w * T + X) := by
 have h1 : (p + 10) * T = (10 * d + w + q + o) * T := by rw [hv]
 have h2 : (o' + d) * (T * 10) = T * 10 := by rw [ho, Nat.one_mul]
 grind
-- head 0 of loop 0: [t0 .sh (.cell (.sc .s)), t1 .sh (.cell (.sc .s)), t5 .sh (.cell (.sc .s)), t6 .sh (.cell (.sc (.i .i64))), t7 .sh (.cell (.sc (.i .i64)))]
def heads_qminus : List Hd := [⟨0, [.sh (.cell (.sc .s)), .sh (.cell (.sc .s)), .any, .any, .any, .sh (.cell (.sc .s)), .sh (.cell (.sc (.i .i64))), .sh (.cell (.sc (.i .i64))), .any, .any, .any, .any, .any, .any, .any, .any, .any, .any, .any, .any, .any, .any, .any, .any, .any, .any, .any, .any, .any, .any, .any, .any, .any, .any, .any, .any, .any, .any, .any, .any, .any, .any]⟩]
def entry_qminus : Tree :=
 (.g 0 [.v0, .v1, (.lit (.string .empty)), (.i 0), (.pr (.iop .sub .i64) [(.pr .slen [.v0]), (.i 1)])])
def head_qminus_0 : Tree :=
 (.ite (.ge .v4 (.i 0))
 (.giv (.le (.i 0) .v4)
 (.giv (.lt .v4 (.pr .slen [.v0]))
 (.giv (.lt .v4 (.pr .slen [.v1]))
 (.giv (.le (.i 0) (.pr (.iop .rem .i64) [(.pr (.iop .add .i64) [(.pr (.iop .sub .i64) [(.pr (.iop .sub .i64) [(.pr (.conv .i64) [(.pr (.iop .sub .u8) [(.pr .sat [.v0, .v4]), (.lit (.int .u8 48))])]), (.pr (.conv .i64) [(.pr (.iop .sub .u8) [(.pr .sat [.v1, .v4]), (.lit (.int .u8 48))])])]), .v3]), (.i 10)]), (.i 10)]))
 (.giv (.le (.i 0) (.pr (.iop .add .i64) [(.pr (.iop .rem .i64) [(.pr (.iop .add .i64) [(.pr (.iop .sub .i64) [(.pr (.iop .sub .i64) [(.pr (.conv .i64) [(.pr (.iop .sub .u8) [(.pr .sat [.v0, .v4]), (.lit (.int .u8 48))])]), (.pr (.conv .i64) [(.pr (.iop .sub .u8) [(.pr .sat [.v1, .v4]), (.lit (.int .u8 48))])])]), .v3]), (.i 10)]), (.i 10)]), (.i 1)]))
 (.giv (.le (.pr (.iop .rem .i64) [(.pr (.iop .add .i64) [(.pr (.iop .sub .i64) [(.pr (.iop .sub .i64) [(.pr (.conv .i64) [(.pr (.iop .sub .u8) [(.pr .sat [.v0, .v4]), (.lit (.int .u8 48))])]), (.pr (.conv .i64) [(.pr (.iop .sub .u8) [(.pr .sat [.v1, .v4]), (.lit (.int .u8 48))])])]), .v3]), (.i 10)]), (.i 10)]) (.pr (.iop .add .i64) [(.pr (.iop .rem .i64) [(.pr (.iop .add .i64) [(.pr (.iop .sub .i64) [(.pr (.iop .sub .i64) [(.pr (.conv .i64) [(.pr (.iop .sub .u8) [(.pr .sat [.v0, .v4]), (.lit (.int .u8 48))])]), (.pr (.conv .i64) [(.pr (.iop .sub .u8) [(.pr .sat [.v1, .v4]), (.lit (.int .u8 48))])])]), .v3]), (.i 10)]), (.i 10)]), (.i 1)]))
 (.giv (.le (.pr (.iop .add .i64) [(.pr (.iop .rem .i64) [(.pr (.iop .add .i64) [(.pr (.iop .sub .i64) [(.pr (.iop .sub .i64) [(.pr (.conv .i64) [(.pr (.iop .sub .u8) [(.pr .sat [.v0, .v4]), (.lit (.int .u8 48))])]), (.pr (.conv .i64) [(.pr (.iop .sub .u8) [(.pr .sat [.v1, .v4]), (.lit (.int .u8 48))])])]), .v3]), (.i 10)]), (.i 10)]), (.i 1)]) (.pr .slen [(.lit (.string (mkS [48, 49, 50, 51, 52, 53, 54, 55, 56, 57])))]))
 (.giv (.le (.pr .slen [(.pr .ssub [(.lit (.string (mkS [48, 49, 50, 51, 52, 53, 54, 55, 56, 57]))), (.pr (.iop .rem .i64) [(.pr (.iop .add .i64) [(.pr (.iop .sub .i64) [(.pr (.iop .sub .i64) [(.pr (.conv .i64) [(.pr (.iop .sub .u8) [(.pr .sat [.v0, .v4]), (.lit (.int .u8 48))])]), (.pr (.conv .i64) [(.pr (.iop .sub .u8) [(.pr .sat [.v1, .v4]), (.lit (.int .u8 48))])])]), .v3]), (.i 10)]), (.i 10)]), (.pr (.iop .add .i64) [(.pr (.iop .rem .i64) [(.pr (.iop .add .i64) [(.pr (.iop .sub .i64) [(.pr (.iop .sub .i64) [(.pr (.conv .i64) [(.pr (.iop .sub .u8) [(.pr .sat [.v0, .v4]), (.lit (.int .u8 48))])]), (.pr (.conv .i64) [(.pr (.iop .sub .u8) [(.pr .sat [.v1, .v4]), (.lit (.int .u8 48))])])]), .v3]), (.i 10)]), (.i 10)]), (.i 1)])])]) (.i 1099511627776))
 (.giv (.le (.pr .slen [.v2]) (.i 1099511627776))
 (.g 0 [.v0, .v1, (.pr .scat [(.pr .ssub [(.lit (.string (mkS [48, 49, 50, 51, 52, 53, 54, 55, 56, 57]))), (.pr (.iop .rem .i64) [(.pr (.iop .add .i64) [(.pr (.iop .sub .i64) [(.pr (.iop .sub .i64) [(.pr (.conv .i64) [(.pr (.iop .sub .u8) [(.pr .sat [.v0, .v4]), (.lit (.int .u8 48))])]), (.pr (.conv .i64) [(.pr (.iop .sub .u8) [(.pr .sat [.v1, .v4]), (.lit (.int .u8 48))])])]), .v3]), (.i 10)]), (.i 10)]), (.pr (.iop .add .i64) [(.pr (.iop .rem .i64) [(.pr (.iop .add .i64) [(.pr (.iop .sub .i64) [(.pr (.iop .sub .i64) [(.pr (.conv .i64) [(.pr (.iop .sub .u8) [(.pr .sat [.v0, .v4]), (.lit (.int .u8 48))])]), (.pr (.conv .i64) [(.pr (.iop .sub .u8) [(.pr .sat [.v1, .v4]), (.lit (.int .u8 48))])])]), .v3]), (.i 10)]), (.i 10)]), (.i 1)])]), .v2]), (.pr (.iop .sub .i64) [(.i 1), (.pr (.iop .quo .i64) [(.pr (.iop .add .i64) [(.pr (.iop .sub .i64) [(.pr (.iop .sub .i64) [(.pr (.conv .i64) [(.pr (.iop .sub .u8) [(.pr .sat [.v0, .v4]), (.lit (.int .u8 48))])]), (.pr (.conv .i64) [(.pr (.iop .sub .u8) [(.pr .sat [.v1, .v4]), (.lit (.int .u8 48))])])]), .v3]), (.i 10)]), (.i 10)])]), (.pr (.iop .sub .i64) [.v4, (.i 1)])]))))))))))
 (.rt .v2))
def trees_qminus : List Tree := [head_qminus_0]
noncomputable def deps_qminus : List Sig := []
theorem ok_qminus : check q_qminus deps_qminus heads_qminus entry_qminus trees_qminus = true := by kernel_rfl
theorem qminus_ok (n : Nat) : @Ok (I n) q_qminus (@okS (I n) n q_qminus.g) := by
 letI := I n
 refine fn_okS (hphi n) ok_qminus (by intro q hq; simp [deps_qminus] at hq) (fun _ d ds => MinusInv n d ds) (fun _ ds => ((ds.getD 4 .nil).int + 1).toNat) ?_ ?_
 ·intro ds hf hp
  obtain ⟨a, b, rfl⟩ : ∃ a b, ds = [sD a, sD b] := by
   match ds, hf with
   | [x, y], ⟨h1, h2, _⟩ =>
    obtain ⟨a, rfl⟩ := fits_str h1
    obtain ⟨b, rfl⟩ := fits_str h2
    exact ⟨a, b, rfl⟩
  obtain ⟨⟨p1, p2, p5⟩, p3, p4⟩ := (pre_qminus n a b).1 (hp.2 rfl)
  simp only [entry_qminus, q_qminus, Tree.holds, Out.den, E.den, E.denL, dn, List.getD_cons_zero, List.getD_cons_succ, List.length_map, phi_1000, phi_qminus]
  refine ⟨a, b, 0, 0, 0, ?_, p1, p2, p3, p4, by omega, by decide, by omega, p5, ?_, rfl⟩
  ·rw [wrapI (i := (a.size : Int) - 1) (by omega) (by omega), show (a.size : Int) - 1 - ((0 : Nat) : Int) = (a.size : Int) - 1 by omega]
   rfl
  ·rw [List.drop_eq_nil_of_le (by rw [list_len]; omega), List.drop_eq_nil_of_le (by rw [list_len]; omega)]
 ·rintro j h t dd ds hj ht hf ⟨a, b, k, X, o, rfl, hab, hm, ga, gb, hk, hX, hc, hle, hval, rfl⟩
  obtain rfl : t = head_qminus_0 := by
   match j, ht with
   | 0, ht => exact (Option.some.inj ht).symm
  by_cases hlt : k < a.size
  ·obtain ⟨p, hp, _, _⟩ := drop_get (l := a.data.toList) (i := a.size - (k + 1)) (by rw [list_len]; omega)
   obtain ⟨q, hq, _, _⟩ := drop_get (l := b.data.toList) (i := a.size - (k + 1)) (by rw [list_len]; omega)
   have hpd := dig_at ga hp
   have hqd := dig_at gb hq
   have hti : ((a.size : Int) - 1 - k).toNat = a.size - (k + 1) := by omega
   have e1 := dv_drop (k := k) hp (by rw [list_len]; omega)
   have e2 := dv_drop (k := k) hq (by rw [list_len]; omega)
   rw [show a.size - (k + 1) + 1 = a.size - k by omega] at e1 e2
   simp only [head_qminus_0, Tree.holds, Out.den, E.den, E.denL, dn, List.getD_cons_zero, List.getD_cons_succ, List.length_map, phi_1000, hti, digV_at hp, digV_at hq, hv_dig hpd, hv_dig hqd]
   have w1 : IntKind.i64.wrap (((p.toNat - 48 : Nat) : Int) - ((q.toNat - 48 : Nat) : Int)) = ((p.toNat - 48 : Nat) : Int) - ((q.toNat - 48 : Nat) : Int) := wrapI (by omega) (by omega)
   have w2 : IntKind.i64.wrap (((p.toNat - 48 : Nat) : Int) - ((q.toNat - 48 : Nat) : Int) - (o : Int)) = ((p.toNat - 48 : Nat) : Int) - ((q.toNat - 48 : Nat) : Int) - (o : Int) := wrapI (by omega) (by omega)
   obtain ⟨v, hv⟩ : ∃ v : Nat, v + (q.toNat - 48) + o = p.toNat - 48 + 10 := ⟨p.toNat - 48 + 10 - (q.toNat - 48) - o, by omega⟩
   have w6 : IntKind.i64.wrap (((p.toNat - 48 : Nat) : Int) - ((q.toNat - 48 : Nat) : Int) - (o : Int) + 10) = (v : Int) := wrapK (by omega) (by omega)
   have w5 : IntKind.i64.wrap ((a.size : Int) - 1 - k - 1) = (a.size : Int) - 1 - ((k + 1 : Nat) : Int) := by rw [wrapI (by omega) (by omega)]; omega
   rw [w1, w2, w6]
   have hv9 : v / 10 <= 1 := by omega
   have hst := minus_step (T := 10 ^ k) (p := p.toNat - 48) (q := q.toNat - 48) (d := v / 10) (w := v % 10) (o' := 1 - v / 10) hval (by omega) (by omega)
   have hw : v % 10 < 10 := Nat.mod_lt _ (by decide)
   have w3 : IntKind.i64.wrap (((v % 10 : Nat) : Int) + 1) = ((v % 10 + 1 : Nat) : Int) := wrapK (by omega) (by omega)
   have w4 : IntKind.i64.wrap ((v / 10 : Nat) : Int) = ((v / 10 : Nat) : Int) := wrapK rfl (by omega)
   have w7 : IntKind.i64.wrap (1 - ((v / 10 : Nat) : Int)) = ((1 - v / 10 : Nat) : Int) := wrapK (by omega) (by omega)
   have hts : ((mkS [48, 49, 50, 51, 52, 53, 54, 55, 56, 57]).size : Int) = 10 := rfl
   have hes : (⟨[UInt8.ofNat (48 + v % 10)].toArray⟩ : ByteArray).size = 1 := rfl
   have hrs : (⟨(rowN k X).toArray⟩ : ByteArray).size = k := by rw [bytes_len, rowN_len]
   simp only [tmod10, tdiv10, w3, w4, w5, w7, Int.toNat_natCast, ten_at _ hw, hts, hes, hrs, row_put hw hX]
   refine ⟨fun _ => ⟨by omega, by omega, by omega, by omega, by omega, by omega, by omega, by omega, by omega, ?_, ?_⟩, fun h => by omega⟩
   ·refine ⟨a, b, k + 1, v % 10 * 10 ^ k + X, 1 - v / 10, rfl, hab, hm, ga, gb, hlt, row_lt hw hX, by omega, hle, ?_, rfl⟩
    rw [e1, e2, Nat.pow_succ]
    exact hst
   ·omega
  ·obtain rfl : k = a.size := by omega
   rw [Nat.sub_self, List.drop_zero, List.drop_zero] at hval
   simp only [head_qminus_0, Tree.holds, Out.den, E.den, E.denL, dn, List.getD_cons_zero, List.getD_cons_succ, List.length_map, phi_1000]
   refine ⟨fun h => by omega, fun _ => ?_⟩
   have ho : o = 0 := by
    have : o = 0 \/ o = 1 := by omega
    rcases this with h | h
    ·exact h
    ·rw [h, Nat.one_mul] at hval; omega
   rw [ho, Nat.zero_mul, Nat.add_zero] at hval
   unfold minusV
   rw [show dv a.data.toList - dv b.data.toList = X by omega]
end Go.Proofs.YtflhikakndanjaaGreatDoor.Vk
/- Contracts of the reference of chapter 1: Cmp, Add. -/
namespace Go.Proofs.YtflhikakndanjaaGreatDoor.Vk
open Go Go.Ab Go.RowKit
theorem cmp_snd {a a' : Bool} {d d' : ByteArray} {e e' : Int} (h : numV a d e = 0) (h' : numV a' d' e' = 0) : (numcmpV a d e a' d' e').2 = 0 := by
 unfold numcmpV
 rw [if_neg (by simpa using h), if_neg (by simpa using h')]
 split
 ·rfl
 ·split
  ·rfl
  ·split <;> rfl
theorem made_bad {a : Bool} {d : ByteArray} {e : Int} (h : ¬ (madeV a d e).2 = 0) : madeV a d e = (noNumT, 2) := by
 unfold madeV at h ⊢
 split at h
 ·exact absurd rfl h
 ·rename_i h1
  rw [if_neg h1]
  simp only at h ⊢
  split at h
  ·exact absurd rfl h
  ·rename_i h2
   rw [if_neg h2]
def heads_qcmp : List Hd := []
def entry_qcmp : Tree :=
 (.giv (.app 1000 [(.r3 .v0)])
 (.ite (.app 96 [(.r3 .v0)])
 (.giv (.app 1000 [(.r3 .v1)])
 (.ite (.app 96 [(.r3 .v1)])
 (.giv (.app 1000 [(.r3 .v0), (.r3 .v1)])
 (.giv (.app 2039 [(.r3 .v0), (.r3 .v1)])
 (.ite (.app 39 [(.r3 .v0), (.r3 .v1)])
 (.rt (.pr .row [(.i (-1)), (.i 0)]))
 (.giv (.app 1000 [(.r3 .v1), (.r3 .v0)])
 (.giv (.app 2039 [(.r3 .v1), (.r3 .v0)])
 (.ite (.app 39 [(.r3 .v1), (.r3 .v0)])
 (.rt (.pr .row [(.i 1), (.i 0)]))
 (.rt (.pr .row [(.i 0), (.i 0)]))))))))
 (.rt (.pr .row [(.i 0), (.i 10)]))))
 (.rt (.pr .row [(.i 0), (.i 10)]))))
def trees_qcmp : List Tree := []
noncomputable def deps_qcmp : List Sig := [q_qis, q_rnumless]
theorem ok_qcmp : check q_qcmp deps_qcmp heads_qcmp entry_qcmp trees_qcmp = true := by kernel_rfl
theorem phi_isR (n : Nat) (a : Bool) (d : ByteArray) (e : Int) : @Interp.phi (I n) 96 [.row [bD a, sD d, iD e]] = bD (decide (numV a d e = 0)) := rfl
theorem qcmp_ok (n : Nat) : @Ok (I n) q_qcmp (okD n) := by
 letI := I n
 refine fn_okS (hphi n) ok_qcmp (by
  intro q hq
  simp only [deps_qcmp, List.mem_cons, List.not_mem_nil, or_false] at hq
  rcases hq with rfl | rfl
  ·exact okS_of (qis_ok n)
  ·exact rnumless_ok n) (fun _ _ _ => False) (fun _ _ => 0) ?_ (fun j h t d ds hj => by simp [heads_qcmp] at hj)
 intro ds hf hp
 obtain ⟨a, d, e, a', d', e', rfl⟩ := num_two hf
 have o0 := hp
 rw [okD_two] at hp
 obtain ⟨h1, h2, h3⟩ := hp
 rw [sz_row, sz_row] at h1
 simp only [D.szL, D.sz] at h1
 have o1 : okD n [.row [bD a, sD d, iD e]] := okD_one.2 ⟨by rw [sz_row]; simp only [D.szL, D.sz]; omega, h2⟩
 have o2 : okD n [.row [bD a', sD d', iD e']] := okD_one.2 ⟨by rw [sz_row]; simp only [D.szL, D.sz]; omega, h3⟩
 have o3 : okD n [.row [bD a', sD d', iD e'], .row [bD a, sD d, iD e]] := okD_two.2 ⟨by rw [sz_row, sz_row]; simp only [D.szL, D.sz]; omega, h3, h2⟩
 have hc : @Interp.phi (I n) 104 [.row [bD a, sD d, iD e], .row [bD a', sD d', iD e']] = .row [iD (numcmpV a d e a' d' e').1, iD (numcmpV a d e a' d' e').2] := rfl
 simp only [entry_qcmp, q_qcmp, Tree.holds, Out.den, E.den, E.denL, dn, List.getD_cons_zero, List.getD_cons_succ, List.length_map, phi_1000, phi_isR, hc, phi_rnumless, pre_rnumless, row_at0, row_at1, row_at2, o0, o1, o2, o3, decide_eq_true_eq, decide_eq_false_iff_not]
 by_cases k1 : numV a d e = 0
 ·by_cases k2 : numV a' d' e' = 0
  ·have hk : (numcmpV a d e a' d' e').1 = _ := numC_key (a, d, e) (a', d', e') k1 k2
   have hk' : (numcmpV a' d' e' a d e).1 = _ := numC_key (a', d', e') (a, d, e) k2 k1
   rw [hk, hk', cmp_snd k1 k2]
   generalize keyN (a, d, e) = x
   generalize keyN (a', d', e') = y
   refine ⟨fun _ => ⟨fun _ => ⟨⟨k1, k2⟩, fun h => ?_, fun h => ⟨⟨k2, k1⟩, fun h' => ?_, fun h' => ?_⟩⟩, fun h => absurd k2 h⟩, fun h => absurd k1 h⟩
   ·rw [h]
   ·rw [cmpZ_lt] at h h'
    have : cmpZ x y = 1 := by unfold cmpZ; rw [if_neg h, if_pos h']
    rw [this]
   ·rw [cmpZ_lt] at h h'
    have : cmpZ x y = 0 := by unfold cmpZ; rw [if_neg h, if_neg h']
    rw [this]
  ·have : numcmpV a d e a' d' e' = (0, 10) := by unfold numcmpV; rw [if_neg (by simpa using k1), if_pos k2]
   rw [this]
   exact ⟨fun _ => ⟨fun h => absurd h k2, fun _ => rfl⟩, fun h => absurd k1 h⟩
 ·have : numcmpV a d e a' d' e' = (0, 10) := by unfold numcmpV; rw [if_pos k1]
  rw [this]
  exact ⟨fun h => absurd h k1, fun _ => rfl⟩
theorem plus_dv {P Q : ByteArray} (h : P.size = Q.size) (gP : Dig P.data.toList) (gQ : Dig Q.data.toList) : Dig (plusV P Q).data.toList /\ dv (plusV P Q).data.toList = dv P.data.toList + dv Q.data.toList := by
 have l1 := dv_lt _ gP
 have l2 := dv_lt _ gQ
 rw [list_len] at l1 l2
 rw [<- h] at l2
 have hp := pow_pos10 P.size
 unfold plusV
 simp only [bytes_list]
 have lm : dv P.data.toList + dv Q.data.toList < 10 ^ P.size + 10 ^ P.size := by omega
 generalize dv P.data.toList + dv Q.data.toList = m at *
 by_cases hc : 10 ^ P.size <= m
 ·rw [if_pos hc]
  have hm : m % 10 ^ P.size = m - 10 ^ P.size := by rw [Nat.mod_eq_sub_mod hc, Nat.mod_eq_of_lt (by omega)]
  refine ⟨dig_append (fun x hx => ?_) (rowN_dig _ _), ?_⟩
  ·rw [List.mem_singleton] at hx
   rw [hx]; decide
  ·rw [List.singleton_append, dv_cons, rowN_len, rowN_dv _ _ (Nat.mod_lt _ hp), hm]
   show 1 * 10 ^ P.size + _ = m
   omega
 ·rw [if_neg hc, List.nil_append]
  refine ⟨rowN_dig _ _, ?_⟩
  rw [Nat.mod_eq_of_lt (by omega), rowN_dv _ _ (by omega)]
theorem minus_dv {P Q : ByteArray} (h : P.size = Q.size) (gP : Dig P.data.toList) (gQ : Dig Q.data.toList) : Dig (minusV P Q).data.toList /\ dv (minusV P Q).data.toList = dv P.data.toList - dv Q.data.toList := by
 have l1 := dv_lt _ gP
 rw [list_len] at l1
 unfold minusV
 simp only [bytes_list]
 exact ⟨rowN_dig _ _, rowN_dv _ _ (by omega)⟩
def heads_qadd : List Hd := []
def entry_qadd : Tree :=
 (.giv (.app 1000 [(.r3 .v0)])
 (.ite (.app 96 [(.r3 .v0)])
 (.giv (.app 1000 [(.r3 .v1)])
 (.ite (.app 96 [(.r3 .v1)])
 (.giv (.app 1000 [(.r3 .v0), (.r3 .v1)])
 (.giv (.app 2056 [(.r3 .v0), (.r3 .v1)])
 (.ite (.pr (.bcmp .eql) [(.c 0 .v0), (.c 0 .v1)])
 (.giv (.app 1000 [(.c 0 (.app 56 [(.r3 .v0), (.r3 .v1)])), (.c 1 (.app 56 [(.r3 .v0), (.r3 .v1)]))])
 (.giv (.app 2105 [(.c 0 (.app 56 [(.r3 .v0), (.r3 .v1)])), (.c 1 (.app 56 [(.r3 .v0), (.r3 .v1)]))])
 (.giv (.app 1000 [(.c 0 .v0), (.app 105 [(.c 0 (.app 56 [(.r3 .v0), (.r3 .v1)])), (.c 1 (.app 56 [(.r3 .v0), (.r3 .v1)]))]), (.c 2 (.app 56 [(.r3 .v0), (.r3 .v1)]))])
 (.giv (.app 2098 [(.c 0 .v0), (.app 105 [(.c 0 (.app 56 [(.r3 .v0), (.r3 .v1)])), (.c 1 (.app 56 [(.r3 .v0), (.r3 .v1)]))]), (.c 2 (.app 56 [(.r3 .v0), (.r3 .v1)]))])
 (.ite (.c 1 (.app 98 [(.c 0 .v0), (.app 105 [(.c 0 (.app 56 [(.r3 .v0), (.r3 .v1)])), (.c 1 (.app 56 [(.r3 .v0), (.r3 .v1)]))]), (.c 2 (.app 56 [(.r3 .v0), (.r3 .v1)]))]))
 (.rt (.pr .row [(.r3 (.c 0 (.app 98 [(.c 0 .v0), (.app 105 [(.c 0 (.app 56 [(.r3 .v0), (.r3 .v1)])), (.c 1 (.app 56 [(.r3 .v0), (.r3 .v1)]))]), (.c 2 (.app 56 [(.r3 .v0), (.r3 .v1)]))]))), (.i 0)]))
 (.rt (.pr .row [(.pr .row [(.lit (.bool false)), (.lit (.string .empty)), (.i 0)]), (.i 2)])))))))
 (.giv (.app 1000 [(.c 0 (.app 56 [(.r3 .v0), (.r3 .v1)])), (.c 1 (.app 56 [(.r3 .v0), (.r3 .v1)]))])
 (.giv (.app 2038 [(.c 0 (.app 56 [(.r3 .v0), (.r3 .v1)])), (.c 1 (.app 56 [(.r3 .v0), (.r3 .v1)]))])
 (.ite (.app 38 [(.c 0 (.app 56 [(.r3 .v0), (.r3 .v1)])), (.c 1 (.app 56 [(.r3 .v0), (.r3 .v1)]))])
 (.giv (.app 1000 [(.c 1 (.app 56 [(.r3 .v0), (.r3 .v1)])), (.c 0 (.app 56 [(.r3 .v0), (.r3 .v1)]))])
 (.giv (.app 2106 [(.c 1 (.app 56 [(.r3 .v0), (.r3 .v1)])), (.c 0 (.app 56 [(.r3 .v0), (.r3 .v1)]))])
 (.giv (.app 1000 [(.c 0 .v1), (.app 106 [(.c 1 (.app 56 [(.r3 .v0), (.r3 .v1)])), (.c 0 (.app 56 [(.r3 .v0), (.r3 .v1)]))]), (.c 2 (.app 56 [(.r3 .v0), (.r3 .v1)]))])
 (.giv (.app 2098 [(.c 0 .v1), (.app 106 [(.c 1 (.app 56 [(.r3 .v0), (.r3 .v1)])), (.c 0 (.app 56 [(.r3 .v0), (.r3 .v1)]))]), (.c 2 (.app 56 [(.r3 .v0), (.r3 .v1)]))])
 (.ite (.c 1 (.app 98 [(.c 0 .v1), (.app 106 [(.c 1 (.app 56 [(.r3 .v0), (.r3 .v1)])), (.c 0 (.app 56 [(.r3 .v0), (.r3 .v1)]))]), (.c 2 (.app 56 [(.r3 .v0), (.r3 .v1)]))]))
 (.rt (.pr .row [(.r3 (.c 0 (.app 98 [(.c 0 .v1), (.app 106 [(.c 1 (.app 56 [(.r3 .v0), (.r3 .v1)])), (.c 0 (.app 56 [(.r3 .v0), (.r3 .v1)]))]), (.c 2 (.app 56 [(.r3 .v0), (.r3 .v1)]))]))), (.i 0)]))
 (.rt (.pr .row [(.pr .row [(.lit (.bool false)), (.lit (.string .empty)), (.i 0)]), (.i 2)])))))))
 (.giv (.app 2106 [(.c 0 (.app 56 [(.r3 .v0), (.r3 .v1)])), (.c 1 (.app 56 [(.r3 .v0), (.r3 .v1)]))])
 (.giv (.app 1000 [(.c 0 .v0), (.app 106 [(.c 0 (.app 56 [(.r3 .v0), (.r3 .v1)])), (.c 1 (.app 56 [(.r3 .v0), (.r3 .v1)]))]), (.c 2 (.app 56 [(.r3 .v0), (.r3 .v1)]))])
 (.giv (.app 2098 [(.c 0 .v0), (.app 106 [(.c 0 (.app 56 [(.r3 .v0), (.r3 .v1)])), (.c 1 (.app 56 [(.r3 .v0), (.r3 .v1)]))]), (.c 2 (.app 56 [(.r3 .v0), (.r3 .v1)]))])
 (.ite (.c 1 (.app 98 [(.c 0 .v0), (.app 106 [(.c 0 (.app 56 [(.r3 .v0), (.r3 .v1)])), (.c 1 (.app 56 [(.r3 .v0), (.r3 .v1)]))]), (.c 2 (.app 56 [(.r3 .v0), (.r3 .v1)]))]))
 (.rt (.pr .row [(.r3 (.c 0 (.app 98 [(.c 0 .v0), (.app 106 [(.c 0 (.app 56 [(.r3 .v0), (.r3 .v1)])), (.c 1 (.app 56 [(.r3 .v0), (.r3 .v1)]))]), (.c 2 (.app 56 [(.r3 .v0), (.r3 .v1)]))]))), (.i 0)]))
 (.rt (.pr .row [(.pr .row [(.lit (.bool false)), (.lit (.string .empty)), (.i 0)]), (.i 2)]))))))))))))
 (.rt (.pr .row [(.pr .row [(.lit (.bool false)), (.lit (.string .empty)), (.i 0)]), (.i 10)]))))
 (.rt (.pr .row [(.pr .row [(.lit (.bool false)), (.lit (.string .empty)), (.i 0)]), (.i 10)]))))
def trees_qadd : List Tree := []
noncomputable def deps_qadd : List Sig := [q_qis, q_raligned, q_rless, q_qplus, q_qminus, q_qmade]
theorem ok_qadd : check q_qadd deps_qadd heads_qadd entry_qadd trees_qadd = true := by kernel_rfl
theorem levX_rng {e e' : Int} (p3 : -400 <= e) (p4 : e <= 400) (p5 : -400 <= e') (p6 : e' <= 400) : -1099511627776 <= levX e e' /\ levX e e' <= 1099511627776 := by
 obtain ⟨x1, x2, x3⟩ := levX_le e e'; omega
theorem qadd_ok (n : Nat) : @Ok (I n) q_qadd (okD n) := by
 letI := I n
 refine fn_okS (hphi n) ok_qadd (by
  intro q hq
  simp only [deps_qadd, List.mem_cons, List.not_mem_nil, or_false] at hq
  rcases hq with rfl | rfl | rfl | rfl | rfl | rfl
  ·exact okS_of (qis_ok n)
  ·exact raligned_ok n
  ·exact rless_ok n
  ·exact qplus_ok n
  ·exact qminus_ok n
  ·exact qmade_ok n) (fun _ _ _ => False) (fun _ _ => 0) ?_ (fun j h t d ds hj => by simp [heads_qadd] at hj)
 intro ds hf hp
 obtain ⟨a, d, e, a', d', e', rfl⟩ := num_two hf
 have o0 := hp
 rw [okD_two] at hp
 obtain ⟨h1, h2, h3⟩ := hp
 rw [sz_row, sz_row] at h1
 simp only [D.szL, D.sz] at h1
 have o1 : okD n [.row [bD a, sD d, iD e]] := okD_one.2 ⟨by rw [sz_row]; simp only [D.szL, D.sz]; omega, h2⟩
 have o2 : okD n [.row [bD a', sD d', iD e']] := okD_one.2 ⟨by rw [sz_row]; simp only [D.szL, D.sz]; omega, h3⟩
 have hc : @Interp.phi (I n) 107 [.row [bD a, sD d, iD e], .row [bD a', sD d', iD e']] = .row [numD (addV (a, d, e) (a', d', e')).1, iD (addV (a, d, e) (a', d', e')).2] := rfl
 simp only [entry_qadd, q_qadd, Tree.holds, Out.den, E.den, E.denL, dn, List.getD_cons_zero, List.getD_cons_succ, List.length_map, phi_1000, phi_isR, hc, phi_raligned, pre_raligned, row_at0, row_at1, row_at2, o0, o1, o2, decide_eq_true_eq, decide_eq_false_iff_not]
 by_cases k1 : numV a d e = 0
 case neg =>
  rw [add_bad (t := (a, d, e)) (u := (a', d', e')) fun h => k1 h.1]
  exact ⟨fun h => absurd h k1, fun _ => rfl⟩
 by_cases k2 : numV a' d' e' = 0
 case neg =>
  rw [add_bad (t := (a, d, e)) (u := (a', d', e')) fun h => k2 h.2]
  exact ⟨fun _ => ⟨fun h => absurd h k2, fun _ => rfl⟩, fun h => absurd k1 h⟩
 obtain ⟨b1, b2, b3⟩ := numV_num k1
 obtain ⟨b4, b5, b6⟩ := numV_num k2
 obtain ⟨v1, v2, v3, v4, v5, v6⟩ := lev_vals (numOk_dig (t := (a, d, e)) k1) (numOk_dig (t := (a', d', e')) k2) b1 b4 b2 b3 b5 b6
 have hcmp := cmp_dv _ _ (by rw [list_len, list_len]; exact v1) v3 v4
 have hsum := fun ng m => @add_sumD a a' d d' e e' k1 k2 _ _ v5 v6 ng m
 have hx := levX_rng b2 b3 b5 b6
 generalize levQ (levP d e (levX e e')) (levP d' e' (levX e e')) = P at *
 generalize levQ (levP d' e' (levX e e')) P = Q at *
 generalize levX e e' = x at *
 have hlim : ∀ s : ByteArray, s.size <= 10000 -> s.size <= lim := fun s h => Nat.le_trans h (by decide)
 have o3 : ∀ p q : ByteArray, p.size <= 10000 -> q.size <= 10000 -> okD n [sD p, sD q] := fun p q hp hq => okD_two.2 ⟨by rw [sz_sD, sz_sD]; omega, lim_sD.2 (hlim _ hp), lim_sD.2 (hlim _ hq)⟩
 have o4 : ∀ (b : Bool) (p : ByteArray), p.size <= 10000 -> okD n [bD b, sD p, iD x] := fun b p hp => ⟨by simp only [D.szL, D.sz]; omega, by simp only [D.LimL, D.Lim, and_true, true_and]; exact hlim _ hp⟩
 have zp : (plusV P Q).size <= 10000 := by
  unfold plusV
  rw [bytes_len, List.length_append, rowN_len]
  split
  ·show 1 + _ <= _; omega
  ·show 0 + _ <= _; omega
 have zm : ∀ p q : ByteArray, p.size <= 840 -> (minusV p q).size <= 10000 := fun p q h => by
  unfold minusV
  rw [bytes_len, rowN_len]; omega
 have hless : ∀ p q : ByteArray, @Interp.phi (I n) 38 [sD p, sD q] = bD (decide (cmpS p q = -1)) := fun _ _ => rfl
 have hmade : ∀ (b : Bool) (p : ByteArray) (y : Int), @Interp.phi (I n) 98 [bD b, sD p, iD y] = .row [numD (madeV b p y).1, bD (decide ((madeV b p y).2 = 0))] := fun _ _ _ => rfl
 have leaf : ∀ (b ng : Bool) (s : ByteArray) (m : Nat), Dig s.data.toList -> dv s.data.toList = m -> (m ≠ 0 -> b = ng) -> D.row [numD (addV (a, d, e) (a', d', e')).1, iD (addV (a, d, e) (a', d', e')).2] = sumD ng m x ->
   ((madeV b s x).2 = 0 -> D.row [numD (madeV b s x).1, iD 0] = D.row [numD (addV (a, d, e) (a', d', e')).1, iD (addV (a, d, e) (a', d', e')).2]) /\ (¬ (madeV b s x).2 = 0 -> D.row [D.row [bD false, sD ByteArray.empty, iD 0], iD 2] = D.row [numD (addV (a, d, e) (a', d', e')).1, iD (addV (a, d, e) (a', d', e')).2]) := by
  intro b ng s m hd hm hn hs
  rw [hs]
  unfold sumD
  rw [<- made_dv (e := x) hd hm hn]
  refine ⟨fun h => ?_, fun h => ?_⟩
  ·rw [h]
  ·rw [made_bad h]; rfl
 simp only [Tree.holds, Out.den, E.den, E.denL, dn, List.getD_cons_zero, List.getD_cons_succ, List.length_map, phi_1000, phi_rless, pre_rless, phi_qplus, pre_qplus, phi_qminus, pre_qminus, hmade, pre_qmade, num_at0, num_at1, num_at2, num_put, row_at0, row_at1, row_at2, decide_eq_true_eq, decide_eq_false_iff_not]
 have oPQ := o3 P Q (by omega) (by omega)
 have oQP := o3 Q P (by omega) (by omega)
 obtain ⟨gp1, gp2⟩ := plus_dv v1 v3 v4
 obtain ⟨gm1, gm2⟩ := minus_dv v1 v3 v4
 obtain ⟨gn1, gn2⟩ := minus_dv v1.symm v4 v3
 refine ⟨fun _ => ⟨fun _ => ⟨⟨b1, b4, b2, b3, b5, b6⟩, fun heq => ⟨oPQ, ⟨⟨v1, by omega⟩, v3, v4⟩, o4 _ _ zp, hx, ?_⟩, fun hne => ⟨oPQ, v1, fun hlt => ⟨oQP, ⟨⟨v1.symm, by omega, ?_⟩, v4, v3⟩, o4 _ _ (zm _ _ (by omega)), hx, ?_⟩, fun hge => ⟨⟨⟨v1, by omega, ?_⟩, v3, v4⟩, o4 _ _ (zm _ _ (by omega)), hx, ?_⟩⟩⟩, fun h => absurd k2 h⟩, fun h => absurd k1 h⟩
 ·have heq : a = a' := by simpa using heq
  subst heq
  refine leaf a a _ _ gp1 gp2 (fun _ => rfl) (hsum a _ ?_ fun hm => ?_)
  ·cases a <;> simp <;> omega
  ·cases a <;> simp at hm ⊢ <;> omega
 ·have := cmpZ_lt.1 (hcmp.symm.trans hlt); omega
 ·have hlt := cmpZ_lt.1 (hcmp.symm.trans hlt)
  refine leaf a' a' _ _ gn1 gn2 (fun _ => rfl) (hsum a' _ ?_ fun _ => ?_)
  ·cases a <;> cases a' <;> simp at hne ⊢ <;> omega
  ·cases a <;> cases a' <;> simp at hne ⊢ <;> omega
 ·have hge : ¬ ((dv P.data.toList : Int) < dv Q.data.toList) := fun h => hge (hcmp.trans (cmpZ_lt.2 h))
  omega
 ·have hge : ¬ ((dv P.data.toList : Int) < dv Q.data.toList) := fun h => hge (hcmp.trans (cmpZ_lt.2 h))
  refine leaf a a _ _ gm1 gm2 (fun _ => rfl) (hsum a _ ?_ fun hm => ?_)
  ·cases a <;> cases a' <;> simp at hne ⊢ <;> omega
  ·cases a <;> cases a' <;> simp at hne ⊢ <;> omega
end Go.Proofs.YtflhikakndanjaaGreatDoor.Vk
/- NumSums: its function answers true. -/
namespace Go.Proofs.YtflhikakndanjaaGreatDoor.Vk
open Go Go.Ab Go.RowKit
def heads_nsums : List Hd := []
def entry_nsums : Tree :=
 (.giv (.app 1000 [])
 (.ite (.gt (.pr .slen [(.c 1 .v0)]) (.i 4096)) .ye
 (.ite (.gt (.pr .slen [(.c 1 .v1)]) (.i 4096)) .ye
 (.giv (.app 1000 [(.r3 .v0), (.r3 .v1)])
 (.ite (.app 112 [])
 (.ite (.eq (.c 0 (.app 22 [(.r3 .v0), (.r3 .v1)])) (.c 0 (.app 104 [(.r3 .v0), (.r3 .v1)])))
 (.ite (.eq (.c 1 (.app 22 [(.r3 .v0), (.r3 .v1)])) (.c 1 (.app 104 [(.r3 .v0), (.r3 .v1)])))
 (.ite (.pr .and [(.pr (.bcmp .eql) [(.c 0 (.c 0 (.app 92 [(.r3 .v0), (.r3 .v1)]))), (.c 0 (.c 0 (.app 107 [(.r3 .v0), (.r3 .v1)])))]), (.pr (.scmp .eql) [(.c 1 (.c 0 (.app 92 [(.r3 .v0), (.r3 .v1)]))), (.c 1 (.c 0 (.app 107 [(.r3 .v0), (.r3 .v1)])))]), (.eq (.c 2 (.c 0 (.app 92 [(.r3 .v0), (.r3 .v1)]))) (.c 2 (.c 0 (.app 107 [(.r3 .v0), (.r3 .v1)]))))])
 (.rt (.eq (.c 1 (.app 92 [(.r3 .v0), (.r3 .v1)])) (.c 1 (.app 107 [(.r3 .v0), (.r3 .v1)])))) .no) .no) .no) .no)))))
def trees_nsums : List Tree := []
noncomputable def deps_nsums : List Sig := [q_numcmp, q_qcmp, q_nadd, q_qadd, q_nawake]
theorem ok_nsums : check q_nsums deps_nsums heads_nsums entry_nsums trees_nsums = true := by kernel_rfl
theorem nsums_ok (n : Nat) : @Ok (I n) q_nsums (fun ds => 4 * D.szL ds + 200 <= n /\ D.LimL ds) := by
 letI := I n
 refine fn_ok (hphi n) ok_nsums (by
  intro q hq
  simp only [deps_nsums, List.mem_cons, List.not_mem_nil, or_false] at hq
  rcases hq with rfl | rfl | rfl | rfl | rfl
  ·exact numcmp_ok n
  ·exact qcmp_ok n
  ·exact nadd_ok n
  ·exact qadd_ok n
  ·exact nawake_ok n) (fun _ _ _ => False) (fun _ _ => 0) ?_ (fun j h t d ds hj => by simp [heads_nsums] at hj)
 intro ds hf hp
 obtain ⟨a, b, rfl⟩ : ∃ a b : NumT, ds = [numD a, numD b] := by
  obtain ⟨a, d, e, a', d', e', rfl⟩ := num_two hf
  exact ⟨(a, d, e), (a', d', e'), rfl⟩
 obtain ⟨hp1, hp2, hp3, _⟩ := hp
 rw [lim_numD] at hp2 hp3
 have hn : 8 < n := by omega
 have oz : okD n [] := ⟨by simp only [D.szL]; omega, by simp only [D.LimL]⟩
 have oab : okD n [numD a, numD b] := okD_nums hn hp2 hp3
 simp only [entry_nsums, q_nsums, Tree.holds, Out.den, E.den, E.denL, dn, List.getD_cons_zero, List.getD_cons_succ, List.length_map, phi_1000, num_at0, num_at1, num_at2, num_put, phi_add, phi_cmpN, phi_qcmp, phi_qadd, phi_nawake, phi_nsums, row_at0, row_at1, oz, oab]
 simp [eqS_t, eqI_t]
end Go.Proofs.YtflhikakndanjaaGreatDoor.Vk
/- The law NumSums: whatever is handed in, the law's function answers true and leaves it as it was. Conditions: those of the row alone. -/
namespace Go.Proofs.YtflhikakndanjaaGreatDoor.VkNumSums
open Go Go.Ab Go.RowKit Go.ChangeShapes Go.WideShapes Go.ChangeAt Go.Proofs.YtflhikakndanjaaGreatDoor.Vk

theorem own : ownKnob Tryz.prog.godebug = none := by kernel_rfl
theorem laidOut : laidOutB Tryz.prog = true := by kernel_rfl
theorem met {W : World} (h : laidMetH Tryz.prog Rows.numSumsRow.laid W) : TabsMet tabs W := by
 rw [MakeChecks.laidMetH_plain _ _ _ (by kernel_rfl)] at h
 obtain ⟨ps, h, _, _⟩ := h
 haveI : Interp := ⟨fun _ _ => .nil⟩
 exact tabs_of_laid h
theorem tbIs : tbOk Tryz.prog tb = true := by kernel_rfl
theorem argsAre : argsOk Tryz.prog tb Tryz.f3.params.toList q_nsums.args = true := by kernel_rfl

theorem trodAll_len {H : Type} {enc : TypeId × Value -> H} {P : Program} {w : World} {sp : Nat -> Bool} {held : Bool} : ∀ {ts : List TypeId} {vs : List Value} {ds : List (DataW H)} {ps : List MemPlace}, DataW.TrodAll enc P w 0 sp held ts vs ds ps -> ds.length = ts.length
 | [], [], [], _, _ => rfl
 | t :: ts, v :: vs, d :: ds, ps, h => by
  obtain ⟨p, q, h1, h2, rfl⟩ := h
  rw [List.length_cons, List.length_cons, trodAll_len h2]
 | [], [], _ :: _, _, h => h.elim
 | [], _ :: _, [], _, h => h.elim
 | [], _ :: _, _ :: _, _, h => h.elim
 | _ :: _, [], [], _, h => h.elim
 | _ :: _, [], _ :: _, _, h => h.elim
 | _ :: _, _ :: _, [], _, h => h.elim

theorem len_two {α : Type} {l : List α} (h : l.length = 2) : ∃ a b, l = [a, b] := by
 match l, h with
 | [a, b], _ => exact ⟨a, b, rfl⟩
theorem len_three {α : Type} {l : List α} (h : l.length = 3) : ∃ a b c, l = [a, b, c] := by
 match l, h with
 | [a, b, c], _ => exact ⟨a, b, c, rfl⟩
theorem contract (H : Type) (enc : TypeId × Value -> H) (W : World) (base : Nat) (args : Array Value) (ds gs : List (DataW H)) (before : List MemPlace)
  (hval : ∀ (j : Nat) t v, Tryz.f3.params[j]? = some t -> args[j]? = some v -> Value.okWide Tryz.prog W .any base t v)
  (hW : DataW.Whole enc Tryz.prog Tryz.f3.params.toList Rows.numSumsSpec.vars false W args.toList ds gs before)
  (hR : (DataW.weightsEach Tryz.prog (Tryz.f3.params.toList ++ (OpenSpec.ofChange Rows.numSumsSpec).bare.plain.varTypes Tryz.prog) (ds ++ gs)).all (· <= reachBytes) = true)
  (hL : laidMetH Tryz.prog Rows.numSumsRow.laid W) :
  Calls Tryz.prog 3 args W fun e W' => ∃ v, e = .returned v /\ Rows.numSumsSpec.post enc Tryz.prog Tryz.f3 false true false false W args v W' := by
 have hW' := hW
 obtain ⟨p, q, hA0, hV, rfl, hfz, hnd⟩ := hW
 have hA : DataW.TrodAll enc Tryz.prog W 0 (fun _ => true) true Tryz.f3.params.toList args.toList ds p := hA0
 obtain ⟨rfl, rfl⟩ := trodVars_none hV
 have hw : ∀ m, m ∈ DataW.weightsEach Tryz.prog Tryz.f3.params.toList ds -> m <= lim := fun m hm => by
  have h1 : m ∈ DataW.weightsEach Tryz.prog (Tryz.f3.params.toList ++ (OpenSpec.ofChange Rows.numSumsSpec).bare.plain.varTypes Tryz.prog) (ds ++ []) := by
   rw [show (OpenSpec.ofChange Rows.numSumsSpec).bare.plain.varTypes Tryz.prog = [] from rfl, List.append_nil, List.append_nil]; exact hm
  have h2 := List.all_eq_true.1 hR m h1
  exact Nat.le_trans (of_decide_eq_true h2) (by show 0x7ffffffff000 <= lim; decide)
 obtain ⟨xs, hx, hlim⟩ := args_read (P := Tryz.prog) tbIs argsAre (fun j t v h1 h2 => hval j t v (by simpa using h1) (by simpa using h2)) hA hw
 letI := I (4 * D.szL xs + 200)
 have hok := nsums_ok (4 * D.szL xs + 200) W (fun _ _ => True) args xs (met hL) (fun _ _ _ _ _ => trivial) hx ⟨by omega, hlim⟩
 refine (callsIn_wide.1 hok).mono fun e' W' hq => ?_
 obtain ⟨v, rfl, hb, hr⟩ := hq
 refine ⟨v, rfl, ?_⟩
 obtain rfl : v = .bool true := by
  have e : @Interp.phi (I (4 * D.szL xs + 200)) q_nsums.g xs = bD true := phi_nsums _ _
  rw [e] at hr
  have := hr.1
  unfold bD DV at this
  exact this.1
 obtain ⟨d0, d1, rfl⟩ := len_two (trodAll_len hA)
 exact post_true (t := 4) laidOut (by kernel_rfl) (by kernel_rfl) Tryz.underlying4 hW' rfl rfl rfl rfl hb

/- A world for the witness: the settled one, each listed table holding what its initialiser lays. -/
noncomputable def wargs : Array Value := #[.agg #[.bool false, .string ByteArray.empty, .int .i64 0], .agg #[.bool false, .string ByteArray.empty, .int .i64 0]]
theorem laid_met (os : Os) (args : Array Value) : laidMetH Tryz.prog Rows.numSumsRow.laid ((World.laidAll Tryz.prog os Rows.numSumsRow.laid).forCall (fun _ _ => 0) ⟨#[], args, []⟩).memory := by
 rw [MakeChecks.laidMetH_plain _ _ _ (by kernel_rfl)]
 exact laidMet_laidAll _ (by kernel_rfl) (by kernel_rfl)
noncomputable def wds (os : Os) {H : Type} (enc : TypeId × Value -> H) : List (DataW H) :=
 match DataW.whole enc Tryz.prog ((World.laidAll Tryz.prog os Rows.numSumsRow.laid).forCall (fun _ _ => 0) ⟨#[], wargs, []⟩).memory Tryz.f3.params.toList Rows.numSumsSpec.vars false wargs.toList 16 with
 | some (ds, _, _) => ds
 | none => []
theorem reads (os : Os) {H : Type} (enc : TypeId × Value -> H) : DataW.whole enc Tryz.prog ((World.laidAll Tryz.prog os Rows.numSumsRow.laid).forCall (fun _ _ => 0) ⟨#[], wargs, []⟩).memory Tryz.f3.params.toList Rows.numSumsSpec.vars false wargs.toList 16 =
  some (wds os enc, [], []) := by kernel_rfl

theorem lifted (os : Os) (started : os.Started) (H : Type) (enc : TypeId × Value -> H) (F : Stop.Interp) :
  ReturnsInHanded {} Tryz.checked os 3 .any ((OpenSpec.ofChange Rows.numSumsSpec).preRow enc Tryz.prog Tryz.f3 Rows.numSumsRow.domain false Rows.numSumsRow.laid) (((OpenSpec.ofChange Rows.numSumsSpec).at F).post enc Tryz.prog Tryz.f3 false true false false) := by
 refine returnsInHanded_of_row (C := Tryz.checked) (s := OpenSpec.ofChange Rows.numSumsSpec) own started (by kernel_rfl) Tryz.func3
  (witness_row_at (enc := enc) (C := Tryz.checked) false (World.laidAll Tryz.prog os Rows.numSumsRow.laid) wargs (World.laidAll_os _ _ _) (by kernel_rfl) (by kernel_rfl) (by kernel_rfl)
   (OpenSpec.preRow_of_cond 16 (reads os enc) (by kernel_rfl) (fun k hk => by cases hk) (by kernel_rfl) (laid_met os _))) ?_
 intro W base args ds gs before hval hW _ _ hR hL _ _
 exact contract H enc W base args ds gs before hval hW hR hL

theorem said : Rows.NumSumsSaid :=
 OpenClaim.holds_of_cond 3 Tryz.f3 rfl rfl rfl rfl rfl rfl rfl ⟨rfl, rfl, rfl, rfl, rfl⟩ rfl rfl rfl rfl rfl (by kernel_rfl) Tryz.func3 (by kernel_rfl)
  (of_decide_eq_true (by kernel_rfl)) (by unfold Func.isWrapper; first | (rw [if_pos (by decide +kernel)]; kernel_rfl) | (rw [if_neg (by decide +kernel)]; exact ⟨rfl, rfl⟩))
  (fun os started H enc _ F => by rw [OpenClaim.pre_eq_preRow]; exact lifted os started H enc F)

theorem plain (f : FuncId) (fn : Func) (hf : Tryz.pinned.checked.prog.funcNamed "calamus/calamuslaw01.NumSums" = some f) (hfn : Tryz.pinned.checked.prog.funcs[f]? = some fn) :
  true = Tryz.pinned.checked.prog.looks [] /\ ∀ (j : Nat) t, fn.params[j]? = some t -> Tryz.pinned.checked.prog.wantsStandIn t = false := by
 obtain rfl : f = 3 := Option.some.inj ((show Tryz.prog.funcNamed "calamus/calamuslaw01.NumSums" = some 3 by kernel_rfl).symm.trans hf) |>.symm
 obtain rfl : fn = Tryz.f3 := (Option.some.inj (Tryz.func3.symm.trans hfn)).symm
 refine ⟨by kernel_rfl, fun j t ht => ?_⟩
 have h : (Tryz.f3.params.all fun t => !Tryz.prog.wantsStandIn t) = true := by kernel_rfl
 have := Array.all_eq_true_iff_forall_mem.1 h t (Array.mem_of_getElem? ht)
 show Tryz.prog.wantsStandIn t = false
 simpa using this

theorem card : Rows.NumSumsCardSaid :=
 Claim7.holds_tied_plain_at .later [] _ _ _ _ said (fun _ h => by cases h) (by kernel_rfl) (fun _ h => by cases h) numSums_row_tie rfl ⟨rfl, rfl⟩ (by kernel_rfl) rfl plain (by kernel_rfl)
end Go.Proofs.YtflhikakndanjaaGreatDoor.VkNumSums
