/- Merged own texts, without what this claim does not use. -/
import Derived.Test.YtflhikakndanjaaDoorMf
import Derived.Test.YtflhikakndanjaaDoorMe
import Derived.Test.YtflhikakndanjaaDoorCards
import Derived.Test.YtflhikakndanjaaDoorTie
import Derived.KernelRfl
import Derived.ProofKit
import Derived.Deep.DeepHandedRow
import Derived.Lay
import Derived.SevenTiedAt
set_option maxRecDepth 100000
set_option linter.unusedVariables false
set_option linter.unusedSimpArgs false
set_option linter.unusedSectionVars false
set_option linter.constructorNameAsVariable false
/- Contracts of the reference of chapter 1: Of, Bytes, IsInt. -/
namespace Go.Proofs.YtflhikakndanjaaDoor.Vk
open Go Go.Ab Go.RowKit
theorem made_badR' {a : Bool} {d : ByteArray} {e : Int} (h : ¬ (madeV a d e).2 = 0) : madeV a d e = (noNumT, 2) := by
 unfold madeV at h ⊢
 split at h
 ·exact absurd rfl h
 ·rename_i h1
  rw [if_neg h1]
  simp only at h ⊢
  split at h
  ·exact absurd rfl h
  ·rename_i h2
   rw [if_neg h2]
theorem pos_of' {s : ByteArray} (h : s ≠ ByteArray.empty) : 0 < s.size := by
 rcases Nat.eq_zero_or_pos s.size with h1 | h1
 ·exact absurd (size_zero.1 h1) h
 ·exact h1
theorem digV_at' {l : List UInt8} {i : Nat} {x : UInt8} (h : l[i]? = some x) : l.getD i 0 = x := by rw [List.getD_eq_getElem?_getD, h]; rfl
def intsD (l : List UInt8) : D := .lst (l.map fun c => .row [iD c.toNat])
theorem ints_at {l : List UInt8} {i : Nat} {x : UInt8} (h : l[i]? = some x) : cellAt (Go.Ab.rowAt (intsD l) (i : Int)) 0 = iD x.toNat := by
 unfold intsD
 rw [rowAt_map h]; rfl
theorem ints_upd (l : List UInt8) (j v : Nat) (h1 : v < 256) : Prim.upd.den [intsD l, iD (j : Int), .row [.v (.int .i64 (v : Int))]] = intsD (l.set j (UInt8.ofNat v)) := by
 show D.lst ((l.map _).set j _) = _
 unfold intsD
 rw [List.map_set, byte_of h1]
theorem ints_push (l : List UInt8) (v : Nat) (h1 : v < 256) : D.lst ((intsD l).rows ++ [D.row [.v (.int .i64 (v : Int))]]) = intsD (l ++ [UInt8.ofNat v]) := by
 show D.lst (l.map _ ++ _) = _
 unfold intsD
 rw [List.map_append, List.map_cons, List.map_nil, byte_of h1]
theorem ints_one (v : Nat) (h1 : v < 256) : D.lst [D.row [.v (.int .i64 (v : Int))]] = intsD [UInt8.ofNat v] := ints_push [] v h1
theorem ints_rows (l : List UInt8) : (intsD l).rows.length = l.length := by
 show (l.map _).length = _; rw [List.length_map]
theorem asc_text {x : UInt8} (h : x.toNat < 10) : (mkS [48, 49, 50, 51, 52, 53, 54, 55, 56, 57]).extract x.toNat (x.toNat + 1) = ⟨[asc x].toArray⟩ := by
 rw [ten_at _ h]
 unfold asc
 rw [Nat.add_comm]
-- head 0 of loop 0: [t0 .sh (.cell (.sc .b)), t1 .sh (.cell (.sl 5)), t4 .bx 24 107374182400, t6 .ar 3, t7 .sh (.cell (.sc (.i .i64)))]
-- head 1 of loop 0: [t0 .sh (.cell (.sc .b)), t1 .sh (.cell (.sl 5)), t4 .bx 24 107374182400, t6 .con (.v (.slice none 0 0)), t7 .sh (.cell (.sc (.i .i64)))]
-- head 2 of loop 1: [t0 .sh (.cell (.sc .b)), t1 .sh (.cell (.sl 5)), t4 .bx 24 107374182400, t6 .ar 3, t7 .sh (.cell (.sc (.i .i64))), t8 .sh (.cell (.sc (.i .i64))), t9 .sh (.cell (.sc (.i .i64)))]
-- head 3 of loop 1: [t0 .sh (.cell (.sc .b)), t1 .sh (.cell (.sl 5)), t4 .bx 24 107374182400, t6 .con (.v (.slice none 0 0)), t7 .sh (.cell (.sc (.i .i64))), t8 .sh (.cell (.sc (.i .i64))), t9 .sh (.cell (.sc (.i .i64)))]
-- head 4 of loop 2: [t0 .sh (.cell (.sc .b)), t1 .sh (.cell (.sl 5)), t4 .bx 24 107374182400, t6 .ar 3, t7 .sh (.cell (.sc (.i .i64))), t8 .sh (.cell (.sc (.i .i64)))]
-- head 5 of loop 2: [t0 .sh (.cell (.sc .b)), t1 .sh (.cell (.sl 5)), t4 .bx 24 107374182400, t6 .con (.v (.slice none 0 0)), t7 .sh (.cell (.sc (.i .i64))), t8 .sh (.cell (.sc (.i .i64)))]
-- head 6 of loop 3: [t0 .sh (.cell (.sc .b)), t4 .bx 24 107374182400, t6 .sh (.cell (.sl 3)), t11 .sh (.cell (.sc .s)), t12 .sh (.cell (.sc (.i .i64)))]
def heads_qof : List Hd := [⟨0, [.sh (.cell (.sc .b)), .sh (.cell (.sl 5)), .any, .any, .bx 24 107374182400, .any, .ar 3, .sh (.cell (.sc (.i .i64))), .any, .any, .any, .any, .any, .any, .any, .any, .any, .any, .any, .any, .any, .any, .any, .any, .any, .any, .any, .any, .any, .any, .any, .any, .any, .any, .any, .any, .any, .any, .any, .any, .any, .any, .any, .any, .any, .any, .any, .any, .any, .any, .any, .any, .any, .any, .any, .any, .any, .any, .any, .any, .any, .any, .any, .any, .any, .any, .any, .any, .any, .any, .any, .any, .any, .any, .any, .any, .any, .any, .any, .any, .any, .any, .any, .any, .any, .any, .any, .any]⟩, ⟨0, [.sh (.cell (.sc .b)), .sh (.cell (.sl 5)), .any, .any, .bx 24 107374182400, .any, .con (.v (.slice none 0 0)), .sh (.cell (.sc (.i .i64))), .any, .any, .any, .any, .any, .any, .any, .any, .any, .any, .any, .any, .any, .any, .any, .any, .any, .any, .any, .any, .any, .any, .any, .any, .any, .any, .any, .any, .any, .any, .any, .any, .any, .any, .any, .any, .any, .any, .any, .any, .any, .any, .any, .any, .any, .any, .any, .any, .any, .any, .any, .any, .any, .any, .any, .any, .any, .any, .any, .any, .any, .any, .any, .any, .any, .any, .any, .any, .any, .any, .any, .any, .any, .any, .any, .any, .any, .any, .any, .any]⟩, ⟨1, [.sh (.cell (.sc .b)), .sh (.cell (.sl 5)), .any, .any, .bx 24 107374182400, .any, .ar 3, .sh (.cell (.sc (.i .i64))), .sh (.cell (.sc (.i .i64))), .sh (.cell (.sc (.i .i64))), .any, .any, .any, .any, .any, .any, .any, .any, .any, .any, .any, .any, .any, .any, .any, .any, .any, .any, .any, .any, .any, .any, .any, .any, .any, .any, .any, .any, .any, .any, .any, .any, .any, .any, .any, .any, .any, .any, .any, .any, .any, .any, .any, .any, .any, .any, .any, .any, .any, .any, .any, .any, .any, .any, .any, .any, .any, .any, .any, .any, .any, .any, .any, .any, .any, .any, .any, .any, .any, .any, .any, .any, .any, .any, .any, .any, .any, .any]⟩, ⟨1, [.sh (.cell (.sc .b)), .sh (.cell (.sl 5)), .any, .any, .bx 24 107374182400, .any, .con (.v (.slice none 0 0)), .sh (.cell (.sc (.i .i64))), .sh (.cell (.sc (.i .i64))), .sh (.cell (.sc (.i .i64))), .any, .any, .any, .any, .any, .any, .any, .any, .any, .any, .any, .any, .any, .any, .any, .any, .any, .any, .any, .any, .any, .any, .any, .any, .any, .any, .any, .any, .any, .any, .any, .any, .any, .any, .any, .any, .any, .any, .any, .any, .any, .any, .any, .any, .any, .any, .any, .any, .any, .any, .any, .any, .any, .any, .any, .any, .any, .any, .any, .any, .any, .any, .any, .any, .any, .any, .any, .any, .any, .any, .any, .any, .any, .any, .any, .any, .any, .any]⟩, ⟨2, [.sh (.cell (.sc .b)), .sh (.cell (.sl 5)), .any, .any, .bx 24 107374182400, .any, .ar 3, .sh (.cell (.sc (.i .i64))), .sh (.cell (.sc (.i .i64))), .any, .any, .any, .any, .any, .any, .any, .any, .any, .any, .any, .any, .any, .any, .any, .any, .any, .any, .any, .any, .any, .any, .any, .any, .any, .any, .any, .any, .any, .any, .any, .any, .any, .any, .any, .any, .any, .any, .any, .any, .any, .any, .any, .any, .any, .any, .any, .any, .any, .any, .any, .any, .any, .any, .any, .any, .any, .any, .any, .any, .any, .any, .any, .any, .any, .any, .any, .any, .any, .any, .any, .any, .any, .any, .any, .any, .any, .any, .any]⟩, ⟨2, [.sh (.cell (.sc .b)), .sh (.cell (.sl 5)), .any, .any, .bx 24 107374182400, .any, .con (.v (.slice none 0 0)), .sh (.cell (.sc (.i .i64))), .sh (.cell (.sc (.i .i64))), .any, .any, .any, .any, .any, .any, .any, .any, .any, .any, .any, .any, .any, .any, .any, .any, .any, .any, .any, .any, .any, .any, .any, .any, .any, .any, .any, .any, .any, .any, .any, .any, .any, .any, .any, .any, .any, .any, .any, .any, .any, .any, .any, .any, .any, .any, .any, .any, .any, .any, .any, .any, .any, .any, .any, .any, .any, .any, .any, .any, .any, .any, .any, .any, .any, .any, .any, .any, .any, .any, .any, .any, .any, .any, .any, .any, .any, .any, .any]⟩, ⟨3, [.sh (.cell (.sc .b)), .any, .any, .any, .bx 24 107374182400, .any, .sh (.cell (.sl 3)), .any, .any, .any, .any, .sh (.cell (.sc .s)), .sh (.cell (.sc (.i .i64))), .any, .any, .any, .any, .any, .any, .any, .any, .any, .any, .any, .any, .any, .any, .any, .any, .any, .any, .any, .any, .any, .any, .any, .any, .any, .any, .any, .any, .any, .any, .any, .any, .any, .any, .any, .any, .any, .any, .any, .any, .any, .any, .any, .any, .any, .any, .any, .any, .any, .any, .any, .any, .any, .any, .any, .any, .any, .any, .any, .any, .any, .any, .any, .any, .any, .any, .any, .any, .any, .any, .any, .any, .any, .any, .any]⟩]
def eZ22 : E := (.pr .row [(.lit (.bool false)), (.lit (.string .empty)), (.i 0)])
def eZ23 : E := (.pr (.iop .add .i64) [(.pr (.iop .mul .i64) [(.i 256), (.c 0 (.a .v3 .v6))]), .v5])
def eZ24 : E := (.pr .cat [.v3, (.pr .lst [(.pr .row [(.pr (.iop .rem .i64) [.v5, (.i 10)])])])])
def eZ25 : E := (.c 0 (.a .v2 .v4))
def eZ26 : E := (.pr (.iop .add .i64) [eZ25, (.i 1)])
def eZ27 : E := (.lit (.string (mkS [48, 49, 50, 51, 52, 53, 54, 55, 56, 57])))
def entry_qof : Tree :=
 (.g 1 [.v0, .v1, eZ22, (.i 0)])
def head_qof_0 : Tree :=
 (.ite (.lt .v4 (.n .v1))
 (.giv (.le (.i 0) .v4)
 (.g 2 [.v0, .v1, (.r3 .v2), .v3, .v4, (.pr (.conv .i64) [(.c 0 (.a .v1 .v4))]), (.i 0)]))
 (.g 6 [.v0, (.r3 .v2), .v3, (.lit (.string (mkS [48]))), (.pr (.iop .sub .i64) [(.n .v3), (.i 1)])]))
def head_qof_1 : Tree :=
 (.ite (.lt .v3 (.n .v1))
 (.giv (.le (.i 0) .v3)
 (.g 3 [.v0, .v1, (.r3 .v2), .v3, (.pr (.conv .i64) [(.c 0 (.a .v1 .v3))]), (.i 0)]))
 (.g 6 [.v0, (.r3 .v2), (.pr .lst []), (.lit (.string (mkS [48]))), (.i (-1))]))
def head_qof_2 : Tree :=
 (.ite (.lt .v6 (.n .v3))
 (.giv (.le (.i 0) .v6)
 (.g 2 [.v0, .v1, (.r3 .v2), (.pr .upd [.v3, .v6, (.pr .row [(.pr (.iop .rem .i64) [eZ23, (.i 10)])])]), .v4, (.pr (.iop .quo .i64) [eZ23, (.i 10)]), (.pr (.iop .add .i64) [.v6, (.i 1)])]))
 (.g 4 [.v0, .v1, (.r3 .v2), .v3, .v4, .v5]))
def head_qof_3 : Tree :=
 (.ite (.lt .v5 (.i 0)) .dead
 (.g 5 [.v0, .v1, (.r3 .v2), .v3, .v4]))
def head_qof_4 : Tree :=
 (.ite (.gt .v5 (.i 0))
 (.giv (.le (.n eZ24) (.i 4294967296))
 (.g 4 [.v0, .v1, (.r3 .v2), eZ24, .v4, (.pr (.iop .quo .i64) [.v5, (.i 10)])]))
 (.ite (.gt (.n .v3) (.i 443))
 (.rt (.pr .row [eZ22, (.i 2)]))
 (.g 0 [.v0, .v1, (.r3 .v2), .v3, (.pr (.iop .add .i64) [.v4, (.i 1)])])))
def head_qof_5 : Tree :=
 (.ite (.gt .v4 (.i 0))
 (.g 4 [.v0, .v1, (.r3 .v2), (.pr .lst [(.pr .row [(.pr (.iop .rem .i64) [.v4, (.i 10)])])]), .v3, (.pr (.iop .quo .i64) [.v4, (.i 10)])])
 (.g 1 [.v0, .v1, (.r3 .v2), (.pr (.iop .add .i64) [.v3, (.i 1)])]))
def head_qof_6 : Tree :=
 (.ite (.ge .v4 (.i 0))
 (.giv (.le (.i 0) .v4)
 (.giv (.lt .v4 (.n .v2))
 (.giv (.le (.i 0) eZ25)
 (.giv (.le (.i 0) eZ26)
 (.giv (.le eZ25 eZ26)
 (.giv (.le eZ26 (.pr .slen [eZ27]))
 (.giv (.le (.pr .slen [.v3]) (.i 1099511627776))
 (.giv (.le (.pr .slen [(.pr .ssub [eZ27, eZ25, eZ26])]) (.i 1099511627776))
 (.g 6 [.v0, (.r3 .v1), .v2, (.pr .scat [.v3, (.pr .ssub [eZ27, eZ25, eZ26])]), (.pr (.iop .sub .i64) [.v4, (.i 1)])])))))))))
 (.giv (.app 1000 [.v0, .v3, (.i 0)])
 (.giv (.app 2098 [.v0, .v3, (.i 0)])
 (.ite (.c 1 (.app 98 [.v0, .v3, (.i 0)]))
 (.rt (.pr .row [(.r3 (.c 0 (.app 98 [.v0, .v3, (.i 0)]))), (.i 0)]))
 (.rt (.pr .row [eZ22, (.i 2)]))))))
def trees_qof : List Tree := [head_qof_0, head_qof_1, head_qof_2, head_qof_3, head_qof_4, head_qof_5, head_qof_6]
noncomputable def deps_qof : List Sig := [q_qmade]
theorem ok_qof : check q_qof deps_qof heads_qof entry_qof trees_qof = true := by kernel_rfl
def Qo0 (ng : Bool) (z : D) (b : List UInt8) (ds : List D) : Prop := ∃ (l : List UInt8) (i : Nat), ds = [bD ng, bytesD b, z, intsD l, iD i] /\ i <= b.length /\ LD 10 l /\ l ≠ [] /\ Top l /\ l.length <= 443 /\ lv 10 l = bvA 0 (b.take i)
def Qo1 (ng : Bool) (z : D) (b : List UInt8) (ds : List D) : Prop := ∃ i : Nat, ds = [bD ng, bytesD b, z, iD i] /\ i <= b.length /\ bvA 0 (b.take i) = 0
def Qo2 (ng : Bool) (z : D) (b : List UInt8) (ds : List D) : Prop := ∃ (l : List UInt8) (i : Nat) (x : UInt8) (c k : Nat), ds = [bD ng, bytesD b, z, intsD l, iD i, iD c, iD k] /\ b[i]? = some x /\ l ≠ [] /\ l.length <= 443 /\
 MulInv 10 256 l c k (x.toNat + 256 * bvA 0 (b.take i)) /\ c <= 256 /\ ((k < l.length /\ Top l) \/ (k = l.length /\ 0 < c))
def Qo3 (ng : Bool) (z : D) (b : List UInt8) (ds : List D) : Prop := ∃ (i : Nat) (x : UInt8), ds = [bD ng, bytesD b, z, iD i, iD x.toNat, iD 0] /\ b[i]? = some x /\ bvA 0 (b.take i) = 0
def Qo4 (ng : Bool) (z : D) (b : List UInt8) (ds : List D) : Prop := ∃ (l : List UInt8) (i : Nat) (x : UInt8) (c : Nat), ds = [bD ng, bytesD b, z, intsD l, iD i, iD c] /\ b[i]? = some x /\ l ≠ [] /\ LD 10 l /\
 lv 10 l + 10 ^ l.length * c = bvA 0 (b.take (i + 1)) /\ c <= 256 /\ (c = 0 -> Top l) /\ (l.length <= 446 /\ (0 < c -> l.length <= 445) /\ (10 <= c -> l.length <= 444) /\ (100 <= c -> l.length <= 443))
def Qo5 (ng : Bool) (z : D) (b : List UInt8) (ds : List D) : Prop := ∃ (i : Nat) (x : UInt8), ds = [bD ng, bytesD b, z, iD i, iD x.toNat] /\ b[i]? = some x /\ bvA 0 (b.take i) = 0
def Qo6 (ng : Bool) (z : D) (b : List UInt8) (ds : List D) : Prop := ∃ (l : List UInt8) (j : Nat) (s : ByteArray), ds = [bD ng, z, intsD l, sD s, iD ((l.length : Int) - 1 - j)] /\ j <= l.length /\ LD 10 l /\ l.length <= 443 /\ lv 10 l = bvA 0 b /\
 s.data.toList = 48 :: ((l.drop (l.length - j)).map asc).reverse
def QoInv (n j : Nat) (d : D) (ds : List D) : Prop := ∃ (ng : Bool) (z : D) (b : List UInt8), 2000 < n /\ b.length <= 1000000 /\ d = OfR ng b /\ (match j with
 | 0 => Qo0 ng z b ds | 1 => Qo1 ng z b ds | 2 => Qo2 ng z b ds | 3 => Qo3 ng z b ds | 4 => Qo4 ng z b ds | 5 => Qo5 ng z b ds | 6 => Qo6 ng z b ds | _ => False)
abbrev gL (ds : List D) (i : Nat) : Int := ((ds.getD i .nil).rows.length : Int)
def qoM (j : Nat) (ds : List D) : Nat := match j with
 | 0 => 2000 * (gL ds 1 - gI ds 4).toNat + 1950
 | 1 => 2000 * (gL ds 1 - gI ds 3).toNat + 1950
 | 2 => 2000 * (gL ds 1 - gI ds 4).toNat + 1900 - (gI ds 6).toNat
 | 3 => 2000 * (gL ds 1 - gI ds 3).toNat + 1900
 | 4 => 2000 * (gL ds 1 - gI ds 4).toNat + 300 + (gI ds 5).toNat
 | 5 => 2000 * (gL ds 1 - gI ds 3).toNat + 1000
 | 6 => (gI ds 4 + 2).toNat
 | _ => 0
theorem bl_len (b : List UInt8) : ((bytesD b).rows.length : Int) = b.length := by rw [bytes_rows]
theorem qof_more (n : Nat) : @Ok (I n) q_qof (fun ds => @okS (I n) n q_qof.g ds /\ 2000 < n) := by
 letI := I n
 refine fn_okS (hphi n) ok_qof (by
  intro q hq
  simp only [deps_qof, List.mem_singleton] at hq
  subst hq
  exact qmade_ok n) (QoInv n) qoM ?_ ?_
 ·intro ds hf ⟨hp, hn⟩
  match ds, hf with
  | [d0, d1], ⟨h1, h2, _⟩ =>
  obtain ⟨ng, rfl⟩ := fits_bool h1
  obtain ⟨b, rfl, hb⟩ := (pre_qof n _ d1).1 (hp.2 rfl)
  simp only [entry_qof, eZ22, eZ23, eZ24, eZ25, eZ26, eZ27, q_qof, Tree.holds, Out.den, E.den, E.denL, dn, List.getD_cons_zero, List.getD_cons_succ, List.length_map, phi_1000, phi_qof]
  exact ⟨ng, _, b, hn, hb, rfl, 0, rfl, Nat.zero_le _, rfl⟩
 ·intro j h t d ds hj ht hf ⟨ng, z, b, hn, hb, hd, hI⟩
  have hjl : j < 7 := (List.getElem?_eq_some_iff.1 ht).1
  have hwi : ∀ i : Nat, i < b.length -> IntKind.i64.wrap ((i : Int) + 1) = ((i + 1 : Nat) : Int) := fun i hi => wrapK' (by omega) (by omega)
  rcases (show j = 0 \/ j = 1 \/ j = 2 \/ j = 3 \/ j = 4 \/ j = 5 \/ j = 6 by omega) with rfl | rfl | rfl | rfl | rfl | rfl | rfl
  ·obtain rfl : t = head_qof_0 := (Option.some.inj ht).symm
   obtain ⟨l, i, rfl, hi, hl, hne, htop, hlen, hv⟩ := hI
   by_cases hlt : i < b.length
   ·obtain ⟨x, hx, _, _⟩ := drop_get hlt
    simp only [head_qof_0, eZ22, eZ23, eZ24, eZ25, eZ26, eZ27, Tree.holds, Out.den, E.den, E.denL, dn, List.getD_cons_zero, List.getD_cons_succ, List.length_map, phi_1000, bytes_at hx, bytes_rows, wrapB]
    refine ⟨fun _ => ⟨by omega, ⟨ng, _, b, hn, hb, hd, l, i, x, x.toNat, 0, rfl, hx, hne, hlen, ?_, ?_, .inl ⟨List.length_pos_iff.2 hne, htop⟩⟩, ?_⟩, fun h => by omega⟩
    ·rw [<- hv]; exact mul_start hl
    ·have := x.toNat_lt; omega
    ·show 2000 * (((bytesD b).rows.length : Int) - (i : Int)).toNat + 1900 - (0 : Int).toNat < 2000 * (((bytesD b).rows.length : Int) - (i : Int)).toNat + 1950
     omega
   ·obtain rfl : i = b.length := by omega
    rw [List.take_length] at hv
    have w1 : IntKind.i64.wrap ((l.length : Int) - 1) = (l.length : Int) - 1 - ((0 : Nat) : Int) := by rw [wrapI (by omega) (by omega)]; omega
    simp only [head_qof_0, eZ22, eZ23, eZ24, eZ25, eZ26, eZ27, Tree.holds, Out.den, E.den, E.denL, dn, List.getD_cons_zero, List.getD_cons_succ, List.length_map, phi_1000, bytes_rows, ints_rows, w1]
    refine ⟨fun h => by omega, fun _ => ⟨⟨ng, _, b, hn, hb, hd, l, 0, _, rfl, Nat.zero_le _, hl, hlen, hv, ?_⟩, ?_⟩⟩
    ·rw [List.drop_eq_nil_of_le (by omega)]; rfl
    ·show ((l.length : Int) - 1 - ((0 : Nat) : Int) + 2).toNat < 2000 * (((bytesD b).rows.length : Int) - (b.length : Int)).toNat + 1950
     omega
  ·obtain rfl : t = head_qof_1 := (Option.some.inj ht).symm
   obtain ⟨i, rfl, hi, hv⟩ := hI
   by_cases hlt : i < b.length
   ·obtain ⟨x, hx, _, _⟩ := drop_get hlt
    simp only [head_qof_1, eZ22, eZ23, eZ24, eZ25, eZ26, eZ27, Tree.holds, Out.den, E.den, E.denL, dn, List.getD_cons_zero, List.getD_cons_succ, List.length_map, phi_1000, bytes_at hx, bytes_rows, wrapB]
    refine ⟨fun _ => ⟨by omega, ⟨ng, _, b, hn, hb, hd, i, x, rfl, hx, hv⟩, ?_⟩, fun h => by omega⟩
    show 2000 * (((bytesD b).rows.length : Int) - (i : Int)).toNat + 1900 < 2000 * (((bytesD b).rows.length : Int) - (i : Int)).toNat + 1950
    omega
   ·obtain rfl : i = b.length := by omega
    rw [List.take_length] at hv
    simp only [head_qof_1, eZ22, eZ23, eZ24, eZ25, eZ26, eZ27, Tree.holds, Out.den, E.den, E.denL, dn, List.getD_cons_zero, List.getD_cons_succ, List.length_map, phi_1000, bytes_rows]
    refine ⟨fun h => by omega, fun _ => ⟨⟨ng, _, b, hn, hb, hd, [], 0, _, rfl, Nat.zero_le _, fun x hx => (by cases hx), by decide, hv.symm, rfl⟩, ?_⟩⟩
    show ((-1 : Int) + 2).toNat < 2000 * (((bytesD b).rows.length : Int) - (b.length : Int)).toNat + 1950
    omega
  ·obtain rfl : t = head_qof_2 := (Option.some.inj ht).symm
   obtain ⟨l, i, x, c, k, rfl, hx, hne, hlen, hm, hc, hcase⟩ := hI
   have hil := idx_lt hx
   by_cases hlt : k < l.length
   ·obtain ⟨y, hy, hmem, _⟩ := drop_get hlt
    have hy10 := hm.2.1 y hmem
    have htop : Top l := by
     rcases hcase with h | h
     ·exact h.2
     ·omega
    have w1 : IntKind.i64.wrap (256 * (y.toNat : Int)) = ((256 * y.toNat : Nat) : Int) := wrapK' (by omega) (by omega)
    have w2 : IntKind.i64.wrap (((256 * y.toNat : Nat) : Int) + (c : Int)) = ((c + 256 * y.toNat : Nat) : Int) := wrapK' (by omega) (by omega)
    have hst := mul_step (B := 10) (by decide) (by decide) hm hy
    have hv0 : c + 256 * y.toNat <= 2560 := by omega
    have hlast : k + 1 = l.length -> 0 < (c + 256 * y.toNat) / 10 := fun hk => by
     have := top_at htop hy hk
     omega
    simp only [head_qof_2, eZ22, eZ23, eZ24, eZ25, eZ26, eZ27, Tree.holds, Out.den, E.den, E.denL, dn, List.getD_cons_zero, List.getD_cons_succ, List.length_map, phi_1000, ints_at hy, ints_rows, w1, w2, tmod10, tdiv10]
    generalize hvv : c + 256 * y.toNat = v at *
    have hm10 : v % 10 < 10 := Nat.mod_lt _ (by decide)
    have w4 : IntKind.i64.wrap ((v / 10 : Nat) : Int) = ((v / 10 : Nat) : Int) := wrapK' rfl (by omega)
    have w5 : IntKind.i64.wrap ((k : Int) + 1) = ((k + 1 : Nat) : Int) := wrapK' (by omega) (by omega)
    rw [w4, w5, ints_upd l k _ (by omega)]
    refine ⟨fun _ => ⟨by omega, ⟨ng, .row [cellAt z 0, cellAt z 1, cellAt z 2], b, hn, hb, hd, l.set k (UInt8.ofNat (v % 10)), i, x, v / 10, k + 1, rfl, hx, ?_, by rw [List.length_set]; exact hlen, hst, by omega, ?_⟩, ?_⟩, fun h => by omega⟩
    ·intro h0
     have := congrArg List.length h0
     rw [List.length_set] at this
     exact hne (List.eq_nil_of_length_eq_zero this)
    ·rw [List.length_set]
     by_cases hk : k + 1 < l.length
     ·exact .inl ⟨hk, top_set htop hk⟩
     ·exact .inr ⟨by omega, hlast (by omega)⟩
    ·show 2000 * (((bytesD b).rows.length : Int) - (i : Int)).toNat + 1900 - ((k + 1 : Nat) : Int).toNat < 2000 * (((bytesD b).rows.length : Int) - (i : Int)).toNat + 1900 - (k : Int).toNat
     omega
   ·obtain rfl : k = l.length := by have := hm.1; omega
    have hc0 : 0 < c := by
     rcases hcase with h | h
     ·omega
     ·exact h.2
    have he := mul_end hm
    simp only [head_qof_2, eZ22, eZ23, eZ24, eZ25, eZ26, eZ27, Tree.holds, Out.den, E.den, E.denL, dn, List.getD_cons_zero, List.getD_cons_succ, List.length_map, phi_1000, ints_rows]
    refine ⟨fun h => by omega, fun _ => ⟨⟨ng, _, b, hn, hb, hd, l, i, x, c, rfl, hx, hne, hm.2.1, ?_, hc, fun h => by omega, by omega, fun _ => by omega, fun _ => by omega, fun _ => by omega⟩, ?_⟩⟩
    ·rw [bv_next hx]; exact he
    ·show 2000 * (((bytesD b).rows.length : Int) - (i : Int)).toNat + 300 + (c : Int).toNat < 2000 * (((bytesD b).rows.length : Int) - (i : Int)).toNat + 1900 - (l.length : Int).toNat
     omega
  ·obtain rfl : t = head_qof_3 := (Option.some.inj ht).symm
   obtain ⟨i, x, rfl, hx, hv⟩ := hI
   have hil := idx_lt hx
   simp only [head_qof_3, eZ22, eZ23, eZ24, eZ25, eZ26, eZ27, Tree.holds, Out.den, E.den, E.denL, dn, List.getD_cons_zero, List.getD_cons_succ, List.length_map, phi_1000]
   refine ⟨fun h => by omega, fun _ => ⟨⟨ng, _, b, hn, hb, hd, i, x, rfl, hx, hv⟩, ?_⟩⟩
   show 2000 * (((bytesD b).rows.length : Int) - (i : Int)).toNat + 1000 < 2000 * (((bytesD b).rows.length : Int) - (i : Int)).toNat + 1900
   omega
  ·obtain rfl : t = head_qof_4 := (Option.some.inj ht).symm
   obtain ⟨l, i, x, c, rfl, hx, hne, hl, hv, hc, htop, g1, g2, g3, g4⟩ := hI
   have hil := idx_lt hx
   have hbl := bl_len b
   have hm10 : c % 10 < 10 := Nat.mod_lt _ (by decide)
   have w4 : IntKind.i64.wrap ((c / 10 : Nat) : Int) = ((c / 10 : Nat) : Int) := wrapK' rfl (by omega)
   have hyb := byte_of (v := c % 10) (by omega)
   simp only [head_qof_4, eZ22, eZ23, eZ24, eZ25, eZ26, eZ27, Tree.holds, Out.den, E.den, E.denL, dn, List.getD_cons_zero, List.getD_cons_succ, List.length_map, phi_1000, tmod10, tdiv10, w4, ints_push l _ (show c % 10 < 256 by omega), ints_rows, hwi i hil]
   refine ⟨fun hc0 => ⟨?_, ⟨ng, _, b, hn, hb, hd, l ++ [UInt8.ofNat (c % 10)], i, x, c / 10, rfl, hx, by simp, ld_push hl (by rw [hyb]; exact hm10), ?_, by omega, fun h => top_push (by rw [hyb]; omega), ?_⟩, ?_⟩, fun hc0 => ⟨fun hbig => ?_, fun hsm => ⟨⟨ng, _, b, hn, hb, hd, l, i + 1, rfl, hil, hl, hne, htop (by omega), by omega, ?_⟩, ?_⟩⟩⟩
   ·rw [List.length_append]; show ((l.length + 1 : Nat) : Int) <= _; omega
   ·rw [lv_push, hyb, List.length_append, <- hv]
    show lv 10 l + 10 ^ l.length * (c % 10) + 10 ^ (l.length + 1) * (c / 10) = _
    rw [Nat.pow_succ]
    have := Nat.div_add_mod c 10
    generalize c % 10 = y at *
    generalize c / 10 = c' at *
    rw [<- this]
    grind
   ·rw [List.length_append]
    show l.length + 1 <= 446 /\ (0 < c / 10 -> l.length + 1 <= 445) /\ (10 <= c / 10 -> l.length + 1 <= 444) /\ (100 <= c / 10 -> l.length + 1 <= 443)
    omega
   ·show 2000 * (((bytesD b).rows.length : Int) - (i : Int)).toNat + 300 + ((c / 10 : Nat) : Int).toNat < 2000 * (((bytesD b).rows.length : Int) - (i : Int)).toNat + 300 + (c : Int).toNat
    omega
   ·have hc00 : c = 0 := by omega
    rw [hc00, Nat.mul_zero, Nat.add_zero] at hv
    have := of_far (ng := ng) hb hl hne (htop hc00) hv (by omega)
    rw [hd]
    unfold OfR
    rw [this]; rfl
   ·have hc00 : c = 0 := by omega
    rw [hc00, Nat.mul_zero, Nat.add_zero] at hv
    exact hv
   ·show 2000 * (((bytesD b).rows.length : Int) - ((i + 1 : Nat) : Int)).toNat + 1950 < 2000 * (((bytesD b).rows.length : Int) - (i : Int)).toNat + 300 + (c : Int).toNat
    omega
  ·obtain rfl : t = head_qof_5 := (Option.some.inj ht).symm
   obtain ⟨i, x, rfl, hx, hv⟩ := hI
   have hil := idx_lt hx
   have hbl := bl_len b
   have hxl := x.toNat_lt
   generalize hc : x.toNat = c at *
   have hm10 : c % 10 < 10 := Nat.mod_lt _ (by decide)
   have w4 : IntKind.i64.wrap ((c / 10 : Nat) : Int) = ((c / 10 : Nat) : Int) := wrapK' rfl (by omega)
   have hyb := byte_of (v := c % 10) (by omega)
   simp only [head_qof_5, eZ22, eZ23, eZ24, eZ25, eZ26, eZ27, Tree.holds, Out.den, E.den, E.denL, dn, List.getD_cons_zero, List.getD_cons_succ, List.length_map, phi_1000, tmod10, tdiv10, w4, ints_one _ (show c % 10 < 256 by omega), hwi i hil]
   refine ⟨fun hc0 => ⟨⟨ng, _, b, hn, hb, hd, [UInt8.ofNat (c % 10)], i, x, c / 10, rfl, hx, by simp, ?_, ?_, by omega, fun h => top_push (l := []) (by rw [hyb]; omega), ?_⟩, ?_⟩, fun hc0 => ⟨⟨ng, _, b, hn, hb, hd, i + 1, rfl, hil, ?_⟩, ?_⟩⟩
   ·intro y hy; rw [List.mem_singleton.1 hy, hyb]; exact hm10
   ·rw [bv_next hx, hv, hc]
    show (UInt8.ofNat (c % 10)).toNat + 10 * 0 + 10 ^ 1 * (c / 10) = c + 256 * 0
    rw [hyb]; omega
   ·show 1 <= 446 /\ (0 < c / 10 -> 1 <= 445) /\ (10 <= c / 10 -> 1 <= 444) /\ (100 <= c / 10 -> 1 <= 443)
    omega
   ·show 2000 * (((bytesD b).rows.length : Int) - (i : Int)).toNat + 300 + ((c / 10 : Nat) : Int).toNat < 2000 * (((bytesD b).rows.length : Int) - (i : Int)).toNat + 1000
    omega
   ·rw [bv_next hx, hv, hc]; omega
   ·show 2000 * (((bytesD b).rows.length : Int) - ((i + 1 : Nat) : Int)).toNat + 1950 < 2000 * (((bytesD b).rows.length : Int) - (i : Int)).toNat + 1000
    omega
  ·obtain rfl : t = head_qof_6 := (Option.some.inj ht).symm
   obtain ⟨l, k, s, rfl, hk, hl, hlen, hv, hs⟩ := hI
   have hss : s.size = k + 1 := by
    rw [size_len, hs, List.length_cons, List.length_reverse, List.length_map, List.length_drop]; omega
   by_cases hlt : k < l.length
   ·obtain ⟨i, hi⟩ : ∃ i : Nat, (l.length : Int) - 1 - k = i := ⟨l.length - 1 - k, by omega⟩
    obtain ⟨y, hy, hmem, hdr⟩ := drop_get (show i < l.length by omega)
    have hy10 := hl y hmem
    have w1 : IntKind.i64.wrap ((y.toNat : Int) + 1) = ((y.toNat + 1 : Nat) : Int) := wrapK' (by omega) (by omega)
    have w2 : IntKind.i64.wrap ((i : Int) - 1) = (l.length : Int) - 1 - ((k + 1 : Nat) : Int) := by rw [wrapI (by omega) (by omega)]; omega
    have hts : ((mkS [48, 49, 50, 51, 52, 53, 54, 55, 56, 57]).size : Int) = 10 := rfl
    have hes : (⟨[asc y].toArray⟩ : ByteArray).size = 1 := rfl
    rw [hi]
    simp only [head_qof_6, eZ22, eZ23, eZ24, eZ25, eZ26, eZ27, Tree.holds, Out.den, E.den, E.denL, dn, List.getD_cons_zero, List.getD_cons_succ, List.length_map, phi_1000, ints_at hy, ints_rows, w1, w2, Int.toNat_natCast, asc_text hy10, hts, hes]
    refine ⟨fun _ => ⟨by omega, by omega, by omega, by omega, by omega, by omega, by omega, by omega, ⟨ng, _, b, hn, hb, hd, l, k + 1, _, rfl, hlt, hl, hlen, hv, ?_⟩, ?_⟩, fun h => by omega⟩
    ·rw [cat_list, hs, show l.length - (k + 1) = i by omega, hdr, show i + 1 = l.length - k by omega, List.map_cons, List.reverse_cons, List.cons_append]
    ·show ((l.length : Int) - 1 - ((k + 1 : Nat) : Int) + 2).toNat < ((i : Int) + 2).toNat
     omega
   ·obtain rfl : k = l.length := by omega
    rw [Nat.sub_self, List.drop_zero] at hs
    have hdg : Dig s.data.toList := by
     rw [hs]
     intro x hx
     rcases List.mem_cons.1 hx with rfl | hx
     ·decide
     ·exact asc_dig hl x hx
    have hdv : dv s.data.toList = bvA 0 b := by
     rw [hs, dv_cons, asc_dv l hl, hv]
     show (48 - 48) * _ + _ = _
     omega
    have hm : madeV ng s 0 = ofV ng b := by
     unfold ofV
     exact made_dv hdg hdv fun _ => rfl
    have ok2 : okD n [bD ng, sD s, iD 0] := ⟨by simp only [D.szL, D.sz]; omega, by simp only [D.LimL, D.Lim, and_true, true_and]; rw [hss]; exact Nat.le_trans (Nat.succ_le_succ hlen) (by decide)⟩
    have hmade : ∀ (b : Bool) (p : ByteArray) (y : Int), @Interp.phi (I n) 98 [bD b, sD p, iD y] = .row [numD (madeV b p y).1, bD (decide ((madeV b p y).2 = 0))] := fun _ _ _ => rfl
    simp only [head_qof_6, eZ22, eZ23, eZ24, eZ25, eZ26, eZ27, Tree.holds, Out.den, E.den, E.denL, dn, List.getD_cons_zero, List.getD_cons_succ, List.length_map, phi_1000, hmade, pre_qmade, hm, row_at0, row_at1, ok2, num_at0, num_at1, num_at2, num_put, decide_eq_true_eq, decide_eq_false_iff_not]
    refine ⟨fun h => by omega, fun _ => ⟨⟨by decide, by decide⟩, fun h => ?_, fun h => ?_⟩⟩
    ·rw [hd]; unfold OfR; rw [h]
    ·rw [hd]; unfold OfR
     rw [show ofV ng b = (noNumT, 2) by rw [<- hm] at h ⊢; exact made_badR' h]
     rfl
theorem qof_ok (n : Nat) : @Ok (I n) q_qof (@okS (I n) n q_qof.g) :=
 ok_irrel (by decide) (@Ok.less (I (n + 3000)) _ _ _ (qof_more (n + 3000)) fun ds h => ⟨⟨⟨by have := h.1.1; omega, h.1.2⟩, h.2⟩, by omega⟩)
def QyR (V : Nat) : D := .row [bytesD (byts V), iD 0]
def Qy0 (V : Nat) (ds : List D) : Prop := ∃ (s : ByteArray) (out : List UInt8), ds = [sD s, bytesD out] /\ Dig s.data.toList /\ out.length + s.size <= 40 /\ (s = ByteArray.empty \/ s = one \/ at0 s ≠ 48) /\ byts V = byts (dv s.data.toList) ++ out
def Qy1 (V : Nat) (ds : List D) : Prop := ∃ (s next : ByteArray) (out : List UInt8) (rest i : Nat), ds = [sD s, bytesD out, iD rest, sD next, iD i] /\ Dig s.data.toList /\ out.length + s.size <= 40 /\ byts V = byts (dv s.data.toList) ++ out /\ dv s.data.toList ≠ 0 /\
 i <= s.size /\ rest < 256 /\ Dig next.data.toList /\ (next = ByteArray.empty \/ at0 next ≠ 48) /\ ((i = 0 /\ next = ByteArray.empty /\ rest = 0) \/ (1 <= i /\ next.size + 1 <= i)) /\ dv (s.data.toList.take i) = 256 * dv next.data.toList + rest
def QyInv (n j : Nat) (d : D) (ds : List D) : Prop := ∃ V : Nat, 2000 < n /\ d = QyR V /\ (match j with | 0 => Qy0 V ds | 1 => Qy1 V ds | _ => False)
abbrev gS (ds : List D) (i : Nat) : Nat := (ds.getD i .nil).str.size
def qyM (j : Nat) (ds : List D) : Nat := match j with
 | 0 => 100 * gS ds 0 + 50
 | 1 => 100 * gS ds 0 + (gS ds 0 - (gI ds 4).toNat)
 | _ => 0
theorem bytes_cons (l : List UInt8) (v : Nat) (h1 : v < 256) : D.lst ((D.lst [D.row [.v (.int .u8 (v : Int))]]).rows ++ (bytesD l).rows) = bytesD (UInt8.ofNat v :: l) := by
 show D.lst ([_] ++ l.map _) = _
 unfold bytesD
 rw [List.map_cons, byte_of h1]; rfl
theorem tmod256 (m : Nat) : (m : Int).tmod 256 = ((m % 256 : Nat) : Int) := by
 rw [Int.tmod_eq_emod_of_nonneg (by omega)]; omega
theorem tdiv256 (m : Nat) : (m : Int).tdiv 256 = ((m / 256 : Nat) : Int) := by
 rw [Int.tdiv_eq_ediv_of_nonneg (by omega)]; omega
theorem at0_app {a b : ByteArray} (h : a ≠ ByteArray.empty) : at0 (a ++ b) = at0 a := at0_cat (pos_of' h)
-- head 0 of loop 0: [t4 .sh (.cell (.sc .s)), t5 .sh (.cell (.sl 5))]
-- head 1 of loop 1: [t4 .sh (.cell (.sc .s)), t5 .sh (.cell (.sl 5)), t6 .sh (.cell (.sc (.i .i64))), t7 .sh (.cell (.sc .s)), t8 .sh (.cell (.sc (.i .i64)))]
def heads_qbytes : List Hd := [⟨0, [.any, .any, .any, .any, .sh (.cell (.sc .s)), .sh (.cell (.sl 5)), .any, .any, .any, .any, .any, .any, .any, .any, .any, .any, .any, .any, .any, .any, .any, .any, .any, .any, .any, .any, .any, .any, .any, .any, .any, .any, .any, .any, .any, .any, .any, .any, .any, .any, .any, .any, .any, .any, .any, .any, .any, .any, .any, .any, .any, .any, .any, .any, .any, .any, .any, .any, .any, .any, .any, .any, .any, .any, .any, .any, .any, .any, .any, .any, .any, .any, .any, .any, .any, .any, .any, .any, .any, .any]⟩, ⟨1, [.any, .any, .any, .any, .sh (.cell (.sc .s)), .sh (.cell (.sl 5)), .sh (.cell (.sc (.i .i64))), .sh (.cell (.sc .s)), .sh (.cell (.sc (.i .i64))), .any, .any, .any, .any, .any, .any, .any, .any, .any, .any, .any, .any, .any, .any, .any, .any, .any, .any, .any, .any, .any, .any, .any, .any, .any, .any, .any, .any, .any, .any, .any, .any, .any, .any, .any, .any, .any, .any, .any, .any, .any, .any, .any, .any, .any, .any, .any, .any, .any, .any, .any, .any, .any, .any, .any, .any, .any, .any, .any, .any, .any, .any, .any, .any, .any, .any, .any, .any, .any, .any, .any]⟩]
def eZ28 : E := (.lit (.string .empty))
def eZ29 : E := (.pr (.iop .add .i64) [(.pr (.iop .mul .i64) [(.i 10), .v2]), (.pr (.conv .i64) [(.pr (.iop .sub .u8) [(.pr .sat [.v0, .v4]), (.lit (.int .u8 48))])])])
def eZ30 : E := (.pr (.iop .quo .i64) [eZ29, (.i 256)])
def eZ31 : E := (.pr (.iop .add .i64) [eZ30, (.i 1)])
def eZ32 : E := (.lit (.string (mkS [48, 49, 50, 51, 52, 53, 54, 55, 56, 57])))
def eZ33 : E := (.le (.pr .slen [.v3]) (.i 1099511627776))
def eZ34 : E := (.le (.pr .slen [(.pr .ssub [eZ32, eZ30, eZ31])]) (.i 1099511627776))
def eZ35 : E := (.pr (.iop .rem .i64) [eZ29, (.i 256)])
def eZ36 : E := (.pr .scat [.v3, (.pr .ssub [eZ32, eZ30, eZ31])])
def eZ37 : E := (.pr (.iop .add .i64) [.v4, (.i 1)])
def eZ38 : E := (.pr .cat [(.pr .lst [(.pr .row [(.pr (.conv .u8) [.v2])])]), .v1])
def entry_qbytes : Tree :=
 (.giv (.app 1000 [(.r3 .v0)])
 (.ite (.app 96 [(.r3 .v0)])
 (.ite (.lt (.c 2 .v0) (.i 0))
 (.rt (.pr .row [(.pr .lst []), (.i 11)]))
 (.ite (.gt (.pr (.iop .add .i64) [(.pr .slen [(.c 1 .v0)]), (.c 2 .v0)]) (.i 40))
 (.rt (.pr .row [(.pr .lst []), (.i 2)]))
 (.giv (.app 1000 [(.c 2 .v0)])
 (.giv (.app 2037 [(.c 2 .v0)])
 (.giv (.le (.pr .slen [(.c 1 .v0)]) (.i 1099511627776))
 (.giv (.le (.pr .slen [(.app 37 [(.c 2 .v0)])]) (.i 1099511627776))
 (.g 0 [(.pr .scat [(.c 1 .v0), (.app 37 [(.c 2 .v0)])]), (.pr .lst [])])))))))
 (.rt (.pr .row [(.pr .lst []), (.i 10)]))))
def head_qbytes_0 : Tree :=
 (.ite (.pr (.scmp .neq) [.v0, eZ28])
 (.ite (.pr (.scmp .neq) [.v0, (.lit (.string (mkS [48])))])
 (.g 1 [.v0, .v1, (.i 0), eZ28, (.i 0)])
 (.rt (.pr .row [.v1, (.i 0)])))
 (.rt (.pr .row [.v1, (.i 0)])))
def head_qbytes_1 : Tree :=
 (.ite (.lt .v4 (.pr .slen [.v0]))
 (.giv (.le (.i 0) .v4)
 (.ite (.pr (.scmp .neq) [.v3, eZ28])
 (.giv (.le (.i 0) eZ30)
 (.giv (.le (.i 0) eZ31)
 (.giv (.le eZ30 eZ31)
 (.giv (.le eZ31 (.pr .slen [eZ32]))
 (.giv eZ33
 (.giv eZ34
 (.g 1 [.v0, .v1, eZ35, eZ36, eZ37])))))))
 (.ite (.gt eZ30 (.i 0))
 (.giv (.le (.i 0) eZ30)
 (.giv (.le (.i 0) eZ31)
 (.giv (.le eZ30 eZ31)
 (.giv (.le eZ31 (.pr .slen [eZ32]))
 (.giv eZ33
 (.giv eZ34
 (.g 1 [.v0, .v1, eZ35, eZ36, eZ37])))))))
 (.g 1 [.v0, .v1, eZ35, .v3, eZ37]))))
 (.giv (.le (.n eZ38) (.i 4294967296))
 (.g 0 [.v3, eZ38])))
def trees_qbytes : List Tree := [head_qbytes_0, head_qbytes_1]
noncomputable def deps_qbytes : List Sig := [q_qis, q_rzeros]
theorem ok_qbytes : check q_qbytes deps_qbytes heads_qbytes entry_qbytes trees_qbytes = true := by kernel_rfl
theorem qbytes_more (n : Nat) : @Ok (I n) q_qbytes (fun ds => okD n ds /\ 2000 < n) := by
 letI := I n
 refine fn_okS (hphi n) ok_qbytes (by
  intro q hq
  simp only [deps_qbytes, List.mem_cons, List.not_mem_nil, or_false] at hq
  rcases hq with rfl | rfl
  ·exact okS_of (qis_ok n)
  ·exact rzeros_ok n) (QyInv n) qyM ?_ ?_
 ·intro ds hf ⟨hp, hn⟩
  obtain ⟨a, d, x, rfl⟩ := one_num hf
  have hP : @Interp.phi (I n) 110 [.row [bD a, sD d, iD x]] = ByR (a, d, x) := rfl
  have hI : @Interp.phi (I n) 96 [.row [bD a, sD d, iD x]] = bD (decide (numV a d x = 0)) := rfl
  have oi : ∀ k : Int, okD n [iD k] := fun k => okD_one.2 ⟨by simp only [D.sz]; omega, by simp only [D.Lim]⟩
  have hb : ∀ l e, bytesV (a, d, x) = (l, e) -> D.row [bytesD l, iD e] = ByR (a, d, x) := fun l e h => by unfold ByR; rw [h]
  by_cases hv : numV a d x = 0
  case neg =>
   simp only [entry_qbytes, eZ28, eZ29, eZ30, eZ31, eZ32, eZ33, eZ34, eZ35, eZ36, eZ37, eZ38, q_qbytes, Tree.holds, Out.den, E.den, E.denL, dn, List.getD_cons_zero, List.getD_cons_succ, List.length_map, phi_1000, hI, hP, row_at0, row_at1, row_at2, hp, decide_eq_true_eq, decide_eq_false_iff_not]
   refine ⟨fun h => absurd h hv, fun _ => hb [] 10 ?_⟩
   unfold bytesV
   rw [if_pos (show ¬ formN (a, d, x) = 0 from hv)]
  obtain ⟨hd, hpos, b1, b2, b3, hfst⟩ := num_first (t := (a, d, x)) hv
  simp only at hd hpos b1 b2 b3 hfst
  have w1 : IntKind.i64.wrap ((d.size : Int) + x) = d.size + x := wrapI (by omega) (by omega)
  have hS : (d ++ zer x).data.toList = d.data.toList ++ List.replicate x.toNat 48 := by rw [cat_list, zer_list]
  simp only [entry_qbytes, eZ28, eZ29, eZ30, eZ31, eZ32, eZ33, eZ34, eZ35, eZ36, eZ37, eZ38, q_qbytes, Tree.holds, Out.den, E.den, E.denL, dn, List.getD_cons_zero, List.getD_cons_succ, List.length_map, phi_1000, hI, phi_rzeros, pre_rzeros, hP, row_at0, row_at1, row_at2, hp, hv, w1, oi, decide_eq_true_eq, decide_eq_false_iff_not, not_true_eq_false, false_implies, true_implies, true_and, and_true]
  have hV := fun h2 h3 => show bytesV (a, d, x) = (byts (dv d.data.toList * 10 ^ x.toNat), 0) by
   unfold bytesV
   rw [if_neg (show ¬ ¬ formN (a, d, x) = 0 from fun k => k hv), if_neg h2, if_neg h3]
  refine ⟨fun h2 => hb [] 11 ?_, fun h2 => ⟨fun h3 => hb [] 2 ?_, fun h3 => ⟨by omega, by omega, by rw [zer_size]; omega, dv d.data.toList * 10 ^ x.toNat, hn, ?_, d ++ zer x, [], rfl, ?_, ?_, ?_, ?_⟩⟩⟩
  ·unfold bytesV
   rw [if_neg (show ¬ ¬ formN (a, d, x) = 0 from fun k => k hv), if_pos h2]
  ·unfold bytesV
   rw [if_neg (show ¬ ¬ formN (a, d, x) = 0 from fun k => k hv), if_neg h2, if_pos h3]
  ·unfold ByR QyR; rw [hV h2 h3]
  ·rw [hS]; exact dig_append hd (dig_zeros _)
  ·rw [cat_size, zer_size]; show 0 + _ <= 40; omega
  ·rcases hfst with ⟨h1, hx⟩ | h1
   ·exact .inr (.inl (by rw [h1, hx]; rfl))
   ·exact .inr (.inr (by rw [at0_cat hpos]; exact h1))
  ·rw [hS, dv_append, dv_zeros, List.length_replicate, Nat.add_zero, List.append_nil]
 ·intro j h t d ds hj ht hf ⟨V, hn, hd, hI⟩
  have hjl : j < 2 := (List.getElem?_eq_some_iff.1 ht).1
  have ho : (mkS [48]) = one := rfl
  rcases (show j = 0 \/ j = 1 by omega) with rfl | rfl
  ·obtain rfl : t = head_qbytes_0 := (Option.some.inj ht).symm
   obtain ⟨s, out, rfl, hdg, hlen, hcan, hV⟩ := hI
   have fin : dv s.data.toList = 0 -> D.row [bytesD out, iD 0] = d := fun h0 => by
    rw [hd]; unfold QyR
    rw [hV, h0, byts_zero, List.nil_append]
   simp only [head_qbytes_0, eZ28, eZ29, eZ30, eZ31, eZ32, eZ33, eZ34, eZ35, eZ36, eZ37, eZ38, Tree.holds, Out.den, E.den, E.denL, dn, List.getD_cons_zero, List.getD_cons_succ, List.length_map, phi_1000, ho]
   refine ⟨fun h1 => ⟨fun h2 => ⟨⟨V, hn, hd, s, ByteArray.empty, out, 0, 0, rfl, hdg, hlen, hV, ?_, Nat.zero_le _, by decide, fun x hx => (by cases hx), .inl rfl, .inl ⟨rfl, rfl, rfl⟩, rfl⟩, ?_⟩, fun h2 => fin ?_⟩, fun h1 => fin ?_⟩
   ·have hat : at0 s ≠ 48 := by
     rcases hcan with h | h | h
     ·first | exact absurd h h1 | exact absurd (by assumption) h
     ·first | exact absurd h h2 | exact absurd (by assumption) h
     ·exact h
    have hps := pos_of' (s := s) (by first | exact h1 | exact fun k => absurd k h1)
    cases hl : s.data.toList with
    | nil => rw [size_len, hl] at hps; exact absurd hps (by decide)
    | cons x r =>
     have := dv_pos ⟨x, r, rfl, by unfold at0 at hat; rw [hl] at hat; exact hat⟩ (by rw [<- hl]; exact hdg)
     have := pow_pos10 ((x :: r).length - 1)
     omega
   ·show 100 * s.size + (s.size - 0) < 100 * s.size + 50
    omega
   ·first | (rw [h2]; rfl) | (rw [Classical.byContradiction h2]; rfl)
   ·first | (rw [h1]; rfl) | (rw [Classical.byContradiction h1]; rfl)
  ·obtain rfl : t = head_qbytes_1 := (Option.some.inj ht).symm
   obtain ⟨s, next, out, rest, i, rfl, hdg, hlen, hV, hne, hi, hr, hnd, hcan, hcase, hv⟩ := hI
   by_cases hlt : i < s.size
   ·obtain ⟨x, hx, hmem, _⟩ := drop_get (show i < s.data.toList.length by rw [<- size_len]; exact hlt)
    have hxd := hdg x hmem
    have hx' : s.data.toList.getD i 0 = x := digV_at' hx
    have w0 : IntKind.i64.wrap (IntKind.u8.wrap ((x.toNat : Int) - 48)) = ((x.toNat - 48 : Nat) : Int) := by
     rw [wrap8 (by omega) (by omega), wrapI (by omega) (by omega)]; omega
    have w1 : IntKind.i64.wrap (10 * (rest : Int)) = ((10 * rest : Nat) : Int) := wrapK' (by omega) (by omega)
    have w2 : IntKind.i64.wrap (((10 * rest : Nat) : Int) + ((x.toNat - 48 : Nat) : Int)) = ((10 * rest + (x.toNat - 48) : Nat) : Int) := wrapK' (by omega) (by omega)
    have w3 : IntKind.i64.wrap ((i : Int) + 1) = ((i + 1 : Nat) : Int) := wrapK' (by omega) (by omega)
    have hnx := dv_next hx
    simp only [head_qbytes_1, eZ28, eZ29, eZ30, eZ31, eZ32, eZ33, eZ34, eZ35, eZ36, eZ37, eZ38, Tree.holds, Out.den, E.den, E.denL, dn, List.getD_cons_zero, List.getD_cons_succ, List.length_map, phi_1000, Int.toNat_natCast, hx', w0, w1, w2, w3, tmod256, tdiv256]
    have hv9 : 10 * rest + (x.toNat - 48) < 2560 := by omega
    have hkey : dv (s.data.toList.take (i + 1)) = 256 * (10 * dv next.data.toList) + (10 * rest + (x.toNat - 48)) := by rw [hnx, hv]; omega
    generalize 10 * rest + (x.toNat - 48) = v at *
    have hq : v / 256 < 10 := by omega
    have hm := Nat.div_add_mod v 256
    have hr' : v % 256 < 256 := Nat.mod_lt _ (by decide)
    have w4 : IntKind.i64.wrap ((v / 256 : Nat) : Int) = ((v / 256 : Nat) : Int) := wrapK' rfl (by omega)
    have w5 : IntKind.i64.wrap (((v / 256 : Nat) : Int) + 1) = ((v / 256 + 1 : Nat) : Int) := wrapK' (by omega) (by omega)
    have hts : ((mkS [48, 49, 50, 51, 52, 53, 54, 55, 56, 57]).size : Int) = 10 := rfl
    have hes : (⟨[UInt8.ofNat (48 + v / 256)].toArray⟩ : ByteArray).size = 1 := rfl
    have hns : next.size <= 40 := by rcases hcase with h | h <;> first | (rw [h.2.1]; decide) | omega
    have hl1 : (next ++ ⟨[UInt8.ofNat (48 + v / 256)].toArray⟩).data.toList = next.data.toList ++ [UInt8.ofNat (48 + v / 256)] := by rw [cat_list]
    have hd1 : dv (next ++ ⟨[UInt8.ofNat (48 + v / 256)].toArray⟩).data.toList = dv next.data.toList * 10 + v / 256 := by
     rw [hl1, show dv (next.data.toList ++ [UInt8.ofNat (48 + v / 256)]) = dv next.data.toList * 10 + ((UInt8.ofNat (48 + v / 256)).toNat - 48) from dvA_snoc 0 _ _, dig_byte hq]; omega
    have hg1 : Dig (next ++ ⟨[UInt8.ofNat (48 + v / 256)].toArray⟩).data.toList := by
     rw [hl1]
     refine dig_append hnd fun y hy => ?_
     rw [List.mem_singleton.1 hy, dig_byte hq]; omega
    have hsz1 : (next ++ ⟨[UInt8.ofNat (48 + v / 256)].toArray⟩).size = next.size + 1 := by rw [cat_size, hes]
    simp only [w4, w5, Int.toNat_natCast, ten_at _ hq, hts, hes]
    have go : ∀ nx : ByteArray, Dig nx.data.toList -> (nx = ByteArray.empty \/ at0 nx ≠ 48) -> nx.size <= i -> dv nx.data.toList = dv next.data.toList * 10 + v / 256 ->
      QyInv n 1 d [sD s, bytesD out, iD ((v % 256 : Nat) : Int), sD nx, iD ((i + 1 : Nat) : Int)] /\ qyM 1 [sD s, bytesD out, iD ((v % 256 : Nat) : Int), sD nx, iD ((i + 1 : Nat) : Int)] < qyM 1 [sD s, bytesD out, iD (rest : Int), sD next, iD (i : Int)] := fun nx g1 g2 g3 g4 => by
     refine ⟨⟨V, hn, hd, s, nx, out, v % 256, i + 1, rfl, hdg, hlen, hV, hne, hlt, hr', g1, g2, .inr ⟨by omega, by omega⟩, ?_⟩, ?_⟩
     ·rw [hkey, g4]; omega
     ·show 100 * s.size + (s.size - (i + 1)) < 100 * s.size + (s.size - i)
      omega
    have hi0 : next ≠ ByteArray.empty -> 1 <= i /\ next.size + 1 <= i := fun h => by
     rcases hcase with h' | h'
     ·exact absurd h'.2.1 h
     ·exact h'
    refine ⟨fun _ => ⟨by omega, fun hne' => ⟨by omega, by omega, by omega, by omega, by omega, by omega, go _ hg1 (.inr ?_) (by rw [hsz1]; exact (hi0 hne').2) hd1⟩, fun hem => ⟨fun hq0 => ⟨by omega, by omega, by omega, by omega, by omega, by omega, go _ hg1 (.inr ?_) ?_ hd1⟩, fun hq0 => go next hnd hcan ?_ ?_⟩⟩, fun h => by omega⟩
    ·rw [at0_app hne']
     rcases hcan with h | h
     ·exact absurd h hne'
     ·exact h
    ·have hem : next = ByteArray.empty := by first | exact hem | exact Classical.byContradiction hem
     rw [hem, nil_cat]
     show (UInt8.ofNat (48 + v / 256)).toNat ≠ 48
     rw [dig_byte hq]; omega
    ·have hem : next = ByteArray.empty := by first | exact hem | exact Classical.byContradiction hem
     rw [hsz1, hem]
     show 0 + 1 <= i
     rcases hcase with h | h
     ·have hrest := h.2.2
      have := hkey
      exfalso
      have hi00 := h.1
      rw [hem, h.1] at hkey
      have e0 : dv (ByteArray.empty).data.toList = 0 := rfl
      rw [e0] at hkey
      have hlt10 : dv (s.data.toList.take (0 + 1)) < 10 := by
       have hdt : Dig (s.data.toList.take (0 + 1)) := fun y hy => hdg y (List.mem_of_mem_take hy)
       have := dv_lt _ hdt
       have hle : (s.data.toList.take (0 + 1)).length <= 1 := by rw [List.length_take]; omega
       have h10 : 10 ^ (s.data.toList.take (0 + 1)).length <= 10 ^ 1 := Nat.pow_le_pow_right (by decide) hle
       omega
      omega
     ·omega
    ·have hem : next = ByteArray.empty := by first | exact hem | exact Classical.byContradiction hem
     rw [hem]; exact Nat.zero_le _
    ·have hem : next = ByteArray.empty := by first | exact hem | exact Classical.byContradiction hem
     rw [hem]
     show 0 = 0 * 10 + v / 256
     omega
   ·obtain rfl : i = s.size := by omega
    rw [List.take_of_length_le (by rw [list_len]; exact Nat.le_refl _)] at hv
    have hps : 1 <= s.size := by
     apply Classical.byContradiction
     intro h0
     have : s = ByteArray.empty := size_zero.1 (by omega)
     rw [this] at hne
     exact hne rfl
    have hcase' : next.size + 1 <= s.size := by rcases hcase with h | h <;> omega
    have w3 : IntKind.u8.wrap (rest : Int) = (rest : Int) := wrapB8 hr
    simp only [head_qbytes_1, eZ28, eZ29, eZ30, eZ31, eZ32, eZ33, eZ34, eZ35, eZ36, eZ37, eZ38, Tree.holds, Out.den, E.den, E.denL, dn, List.getD_cons_zero, List.getD_cons_succ, List.length_map, phi_1000, w3, List.length_append, List.length_cons, List.length_nil, bytes_rows]
    refine ⟨fun h => by omega, fun _ => ⟨?_, ?_, ?_⟩⟩
    ·omega
    ·have e1 : D.lst ([D.row [.v (.int .u8 (rest : Int))]] ++ (bytesD out).rows) = bytesD (UInt8.ofNat rest :: out) := bytes_cons out rest hr
     refine ⟨V, hn, hd, next, UInt8.ofNat rest :: out, ?_, hnd, ?_, ?_, ?_⟩
     ·rw [<- e1]
     ·rw [List.length_cons]; omega
     ·rcases hcan with h | h
      ·exact .inl h
      ·exact .inr (.inr h)
     ·rw [hV, byts_pos hne, show dv s.data.toList / 256 = dv next.data.toList by omega, show dv s.data.toList % 256 = rest by omega, List.append_assoc]
      rfl
    ·show 100 * next.size + 50 < 100 * s.size + (s.size - (s.size : Int).toNat)
     omega
theorem qbytes_ok (n : Nat) : @Ok (I n) q_qbytes (okD n) :=
 ok_irrel (by decide) (@Ok.less (I (n + 3000)) _ _ _ (qbytes_more (n + 3000)) fun ds h => ⟨⟨by have := h.1; omega, h.2⟩, by omega⟩)
def heads_nisint : List Hd := []
def entry_nisint : Tree :=
 (.giv (.app 1000 [(.r3 .v0)])
 (.ite (.eq (.app 5 [(.r3 .v0)]) (.i 0))
 (.rt (.ge (.c 2 .v0) (.i 0))) .no))
def trees_nisint : List Tree := []
noncomputable def deps_nisint : List Sig := [q_numcheck]
theorem ok_nisint : check q_nisint deps_nisint heads_nisint entry_nisint trees_nisint = true := by kernel_rfl
theorem nisint_ok (n : Nat) : @Ok (I n) q_nisint (okD n) := by
 letI := I n
 refine fn_ok (hphi n) ok_nisint (by
  intro q hq
  simp only [deps_nisint, List.mem_singleton] at hq
  subst hq
  exact numcheck_ok n) (fun _ _ _ => False) (fun _ _ => 0) ?_ (fun j h t d ds hj => by simp [heads_nisint] at hj)
 intro ds hf hp
 obtain ⟨a, d, x, rfl⟩ := one_num hf
 have hP : @Interp.phi (I n) 93 [.row [bD a, sD d, iD x]] = bD (decide (numV a d x = 0 /\ 0 <= x)) := rfl
 simp only [entry_nisint, q_nisint, Tree.holds, Out.den, E.den, E.denL, dn, List.getD_cons_zero, List.getD_cons_succ, List.length_map, phi_1000, phi_numcheck, hP, row_at0, row_at1, row_at2, hp]
 by_cases h : numV a d x = 0
 ·simp [h, leI]
 ·simp [h]
def heads_qisint : List Hd := []
def entry_qisint : Tree :=
 (.giv (.app 1000 [(.r3 .v0)])
 (.ite (.app 96 [(.r3 .v0)])
 (.rt (.ge (.c 2 .v0) (.i 0))) .no))
def trees_qisint : List Tree := []
noncomputable def deps_qisint : List Sig := [q_qis]
theorem ok_qisint : check q_qisint deps_qisint heads_qisint entry_qisint trees_qisint = true := by kernel_rfl
theorem qisint_ok (n : Nat) : @Ok (I n) q_qisint (okD n) := by
 letI := I n
 refine fn_ok (hphi n) ok_qisint (by
  intro q hq
  simp only [deps_qisint, List.mem_singleton] at hq
  subst hq
  exact qis_ok n) (fun _ _ _ => False) (fun _ _ => 0) ?_ (fun j h t d ds hj => by simp [heads_qisint] at hj)
 intro ds hf hp
 obtain ⟨a, d, x, rfl⟩ := one_num hf
 have hI : @Interp.phi (I n) 96 [.row [bD a, sD d, iD x]] = bD (decide (numV a d x = 0)) := rfl
 have hP : @Interp.phi (I n) 108 [.row [bD a, sD d, iD x]] = bD (decide (numV a d x = 0 /\ 0 <= x)) := rfl
 simp only [entry_qisint, q_qisint, Tree.holds, Out.den, E.den, E.denL, dn, List.getD_cons_zero, List.getD_cons_succ, List.length_map, phi_1000, hI, hP, row_at0, row_at1, row_at2, hp, decide_eq_true_eq, decide_eq_false_iff_not]
 by_cases h : numV a d x = 0
 ·simp [h, leI]
 ·simp [h]
end Go.Proofs.YtflhikakndanjaaDoor.Vk
/- NumBytes: its function answers true. -/
namespace Go.Proofs.YtflhikakndanjaaDoor.Vk
open Go Go.Ab Go.RowKit
theorem bytes_sub (l : List UInt8) (a c : Nat) : Prim.sub.den [bytesD l, iD (a : Int), iD (c : Int)] = bytesD ((l.take c).drop a) := by
 show D.lst (((l.map _).take (c : Int).toNat).drop (a : Int).toNat) = _
 unfold bytesD
 rw [Int.toNat_natCast, Int.toNat_natCast, List.map_drop, List.map_take]
theorem bytes_cat (a b : List UInt8) : D.lst ((bytesD a).rows ++ (bytesD b).rows) = bytesD (a ++ b) := by
 show D.lst (a.map _ ++ b.map _) = _
 unfold bytesD
 rw [List.map_append]
theorem bytes_sofl (l : List UInt8) : Prim.sofl.den [bytesD l] = sD ⟨l.toArray⟩ := by
 show D.ofStr ((l.map _).foldl _ .empty) = _
 rw [push_all]
 show D.v (.string _) = D.v (.string _)
 congr 2
def inB (ds : List D) : Prop := ∃ (a : D) (l : List UInt8) (c : D), ds = [a, bytesD l, c]
def heads_nbyt : List Hd := []
def eZ39 : E := (.pr (.iop .add .i64) [(.n .v1), (.i 1)])
def eZ40 : E := (.pr .rep [eZ39, (.pr .row [(.lit (.int .u8 0))])])
def eZ41 : E := (.pr .cat [.v1, (.pr .sub [eZ40, (.n .v1), (.n eZ40)])])
def eZ42 : E := (.pr .upd [eZ41, (.n .v1), (.pr .row [(.lit (.int .u8 77))])])
def eZ43 : E := (.pr .sub [eZ42, (.i 0), (.n .v1)])
def eZ44 : E := (.c 0 (.app 94 [.v0, eZ43]))
def eZ45 : E := (.c 0 (.app 109 [.v0, .v1]))
def entry_nbyt : Tree :=
 (.giv (.app 1000 [])
 (.ite (.gt (.n .v1) (.i 4096)) .ye
 (.ite (.gt (.pr .slen [(.c 1 .v2)]) (.i 4096)) .ye
 (.giv (.le (.i 0) eZ39)
 (.giv (.le eZ39 (.i 4294967296))
 (.giv (.le (.n .v1) eZ39)
 (.giv (.le eZ39 (.n eZ40))
 (.giv (.lt (.n .v1) eZ39)
 (.giv (.lt (.n .v1) (.n eZ41))
 (.giv (.le (.n .v1) (.n eZ41))
 (.giv (.app 1000 [.v0, eZ43])
 (.giv (.app 2094 [.v0, eZ43])
 (.giv (.app 1000 [.v0, .v1])
 (.giv (.app 2109 [.v0, .v1])
 (.ite (.pr (.scmp .eql) [(.pr .sofl [eZ43]), (.pr .sofl [.v1])])
 (.ite (.ne (.c 0 (.a eZ42 (.n .v1))) (.lit (.int .u8 77))) .no
 (.giv (.app 1000 [(.r3 .v2)])
 (.ite (.app 112 [])
 (.ite (.pr .and [(.pr (.bcmp .eql) [(.c 0 eZ44), (.c 0 eZ45)]), (.pr (.scmp .eql) [(.c 1 eZ44), (.c 1 eZ45)]), (.eq (.c 2 eZ44) (.c 2 eZ45))])
 (.ite (.eq (.c 1 (.app 94 [.v0, eZ43])) (.c 1 (.app 109 [.v0, .v1])))
 (.ite (.pr (.scmp .eql) [(.pr .sofl [(.c 0 (.app 95 [(.r3 .v2)]))]), (.pr .sofl [(.c 0 (.app 110 [(.r3 .v2)]))])])
 (.ite (.eq (.c 1 (.app 95 [(.r3 .v2)])) (.c 1 (.app 110 [(.r3 .v2)])))
 (.rt (.pr (.bcmp .eql) [(.app 93 [(.r3 .v2)]), (.app 108 [(.r3 .v2)])])) .no) .no) .no) .no) .no))) .no)))))))))))))))
def trees_nbyt : List Tree := []
noncomputable def deps_nbyt : List Sig := [q_nof, q_qof, q_nbytes, q_qbytes, q_nisint, q_qisint, q_nawake]
theorem ok_nbyt : check q_nbyt deps_nbyt heads_nbyt entry_nbyt trees_nbyt = true := by kernel_rfl
theorem nbyt_ok (n : Nat) : @Ok (I n) q_nbyt (fun ds => (4 * D.szL ds + 200 <= n /\ D.LimL ds) /\ inB ds) := by
 letI := I n
 refine fn_okS (hphi n) ok_nbyt (by
  intro q hq
  simp only [deps_nbyt, List.mem_cons, List.not_mem_nil, or_false] at hq
  rcases hq with rfl | rfl | rfl | rfl | rfl | rfl | rfl
  ·exact nof_ok n
  ·exact qof_ok n
  ·exact okS_of (nbytes_ok n)
  ·exact okS_of (qbytes_ok n)
  ·exact okS_of (nisint_ok n)
  ·exact okS_of (qisint_ok n)
  ·exact okS_of (nawake_ok n)) (fun _ _ _ => False) (fun _ _ => 0) ?_ (fun j h t d ds hj => by simp [heads_nbyt] at hj)
 rintro ds hf ⟨hp, hin⟩
 obtain ⟨ng, b, t, rfl⟩ : ∃ (ng : Bool) (b : List UInt8) (t : NumT), ds = [bD ng, bytesD b, numD t] := by
  obtain ⟨a, b, c, rfl⟩ := hin
  obtain ⟨h1, _, h3, _⟩ := hf
  obtain ⟨ng, rfl⟩ := fits_bool h1
  obtain ⟨x, s, e, rfl⟩ := fit_num h3
  exact ⟨ng, b, (x, s, e), rfl⟩
 obtain ⟨hp1, hp2, hp3, hp4, _⟩ := hp
 rw [lim_numD] at hp4
 simp only [D.szL, bytes_sz, sz_numD, D.sz] at hp1
 have hbl : b.length <= 140737488355328 := bytes_lim.1 hp3
 have oz : okD n [] := ⟨by simp only [D.szL]; omega, by simp only [D.LimL]⟩
 have ot : okD n [numD t] := okD_one.2 ⟨by rw [sz_numD]; omega, (lim_numD t).2 hp4⟩
 have ob : okD n [bD ng, bytesD b] := okD_two.2 ⟨by rw [bytes_sz]; simp only [D.sz]; omega, by simp only [D.Lim], hp3⟩
 have w1 : IntKind.i64.wrap ((b.length : Int) + 1) = ((b.length + 1 : Nat) : Int) := by rw [wrapI (by omega) (by omega)]; omega
 have r1 := bytes_rep (b.length + 1)
 have s1 := bytes_sub (List.replicate (b.length + 1) 0) b.length (b.length + 1)
 have e1 : ((List.replicate (b.length + 1) (0 : UInt8)).take (b.length + 1)).drop b.length = [0] := by
  rw [List.take_of_length_le (by rw [List.length_replicate]; exact Nat.le_refl _), List.drop_replicate, show b.length + 1 - b.length = 1 by omega]; rfl
 rw [e1] at s1
 have u1 : Prim.upd.den [bytesD (b ++ [0]), iD (b.length : Int), .row [.v (.int .u8 77)]] = bytesD (b ++ [77]) := by
  rw [bytes_upd (b ++ [0]) b.length 77 (by decide) (by decide), List.set_append_right _ _ (Nat.le_refl _), Nat.sub_self]; rfl
 have s2 : Prim.sub.den [bytesD (b ++ [77]), D.v (.int .i64 0), iD (b.length : Int)] = bytesD b := by
  have := bytes_sub (b ++ [77]) 0 b.length
  rw [List.take_left', List.drop_zero] at this
  ·exact this
  ·rfl
 have a1 : cellAt (Go.Ab.rowAt (bytesD (b ++ [77])) (b.length : Int)) 0 = .v (.int .u8 77) := bytes_at (x := 77) (by rw [List.getElem?_append_right (Nat.le_refl _), Nat.sub_self]; rfl)
 have hl0 : (b ++ [(0 : UInt8)]).length = b.length + 1 := by rw [List.length_append]; rfl
 have pn : b.length <= 4096 -> @Interp.phi (I n) 2094 [bD ng, bytesD b] = .v (.bool true) := fun h => (pre_nof n _ _).2 ⟨b, rfl, by omega⟩
 have pq : b.length <= 4096 -> @Interp.phi (I n) 2109 [bD ng, bytesD b] = .v (.bool true) := fun h => (pre_qof n _ _).2 ⟨b, rfl, by omega⟩
 simp only [entry_nbyt, eZ39, eZ40, eZ41, eZ42, eZ43, eZ44, eZ45, q_nbyt, Tree.holds, Out.den, E.den, E.denL, dn, List.getD_cons_zero, List.getD_cons_succ, List.length_map, phi_1000, bytes_rows, w1, r1, List.length_replicate, s1, bytes_cat, hl0, u1, s2, a1, bytes_sofl, num_at0, num_at1, num_at2, num_put, phi_nof, phi_qof, phi_nbytes, phi_qbytes, phi_nisint, phi_qisint, phi_nawake, phi_nbyt, row_at0, row_at1, oz, ot, ob]
 refine ⟨fun _ => trivial, fun hb => ⟨fun _ => trivial, fun _ => ⟨by omega, by omega, by omega, by omega, by omega, by omega, by omega, pn (by omega), pq (by omega), ?_⟩⟩⟩
 simp [eqS_t, eqI_t]
end Go.Proofs.YtflhikakndanjaaDoor.Vk
/- What is read of a row of bytes that is handed in. -/
namespace Go.Proofs.YtflhikakndanjaaDoor.Vk
open Go Go.Ab Go.RowKit
theorem bytes_of {w : World} {e : TypeId} (hk : (kn [] tb).shape e = [.sc (.i .u8)]) : ∀ {rows : List D} {b off : Nat}, fitsR (kn [] tb).shape rows e -> DVr (fun b off => w.cell? ⟨b, off, none⟩) (fun _ _ => True) rows b off ->
  (∀ i z, i < rows.length -> w.cell? ⟨b, off + i, none⟩ = some (.int .u8 z) -> 0 <= z /\ z <= 255) -> ∃ l : List UInt8, rows = l.map fun c => .row [.v (.int .u8 c.toNat)]
 | [], b, off, _, _, _ => ⟨[], rfl⟩
 | d :: r, b, off, hf, hd, hr => by
  unfold fitsR at hf
  unfold DVr at hd
  obtain ⟨cs, rfl, hc⟩ := fitsW_row hf.1
  rw [hk] at hc
  obtain ⟨x, r', rfl, g1, hc⟩ := fitsC_cons hc
  obtain rfl := fitsC_nil hc
  obtain ⟨z, rfl⟩ := fits_int g1
  obtain ⟨hd1, hd2⟩ := hd
  unfold DVw DVs at hd1
  obtain ⟨⟨v, hv, hv2⟩, _⟩ := hd1
  unfold DV at hv2
  obtain ⟨rfl, _⟩ := hv2
  have hz := hr 0 z (by rw [List.length_cons]; omega) (by rw [Nat.add_zero]; exact hv)
  obtain ⟨l, rfl⟩ := bytes_of hk hf.2 hd2 fun i z hi hz => hr (i + 1) z (by rw [List.length_cons]; omega) (by
   rw [show off + (i + 1) = off + (D.row [D.v (.int .u8 z)]).cells.length + i by show off + (i + 1) = off + 1 + i; omega]; exact hz)
  refine ⟨UInt8.ofNat z.toNat :: l, ?_⟩
  rw [List.map_cons, UInt8.toNat_ofNat', show ((z.toNat % 2 ^ 8 : Nat) : Int) = z by omega]
theorem bytes_read {H : Type} {enc : TypeId × Value -> H} {P : Program} {w : World} {sp : Nat -> Bool} {held : Bool} {t e : TypeId} {v : Value} {x : DataW H} {ps : List MemPlace} {d : D} (hu : P.underlying t = some (.slice e)) (he : P.underlying e = some (.int .u8)) (hc : P.cellsOf e = 1)
  (hk : (kn [] tb).shape e = [.sc (.i .u8)]) (h : DataW.Trod enc P w 0 sp held t v x ps) (ha : ArgR (kn [] tb).shape (fun b off => w.cell? ⟨b, off, none⟩) (fun _ _ => True) (.cell (.sl e)) v d) : ∃ l, d = bytesD l := by
 obtain ⟨h1, h2⟩ := ha
 obtain ⟨rows, rfl, hf⟩ := fits_lst h2
 unfold DV at h1
 rcases h1 with ⟨rfl, _⟩ | ⟨b, off, cap, rfl, hle, hr⟩
 ·exact ⟨[], rfl⟩
 ·obtain ⟨fuel, h⟩ := h
  have hcell : ∀ i z, i < rows.length -> w.cell? ⟨b, off + i, none⟩ = some (.int .u8 z) -> 0 <= z /\ z <= 255 := fun i z hi hz => by
   cases fuel with
   | zero => cases h
   | succ n =>
    rcases trod_slice (P := P) hu h with h' | ⟨a, len, cap', elems, rest, e1, _, e2, _⟩
    ·cases h'
    ·cases e1
     obtain ⟨_, k2⟩ := mapM_get e2
     obtain ⟨y, _, hy⟩ := k2 i i (by rw [List.getElem?_range hi])
     obtain ⟨cs, c1, c2⟩ := Option.bind_eq_some_iff.1 hy
     rw [hc, Nat.mul_one] at c1
     cases n with
     | zero => cases c2
     | succ m =>
      obtain ⟨z', rfl, hwf⟩ := trod_int he c2
      unfold World.cells? at c1
      rw [if_pos (Nat.zero_le _)] at c1
      obtain ⟨_, k3⟩ := mapM_get c1
      obtain ⟨u, u1, u2⟩ := k3 0 0 rfl
      simp only [List.getElem?_cons_zero, Option.some.injEq] at u1
      subst u1
      haveI : Interp := ⟨fun _ _ => .nil⟩
      rw [add_eq, add_eq, Nat.add_zero, hz] at u2
      cases u2
      have hwf : (decide ((0 : Int) <= z) && decide (z <= 255)) = true := hwf
      rw [Bool.and_eq_true, decide_eq_true_eq, decide_eq_true_eq] at hwf
      exact hwf
  obtain ⟨l, rfl⟩ := bytes_of hk hf hr hcell
  exact ⟨l, rfl⟩
end Go.Proofs.YtflhikakndanjaaDoor.Vk
/- The law NumBytes: whatever is handed in, the law's function answers true and leaves it as it was. Conditions: those of the row alone. -/
namespace Go.Proofs.YtflhikakndanjaaDoor.VkNumBytes
open Go Go.Ab Go.RowKit Go.ChangeShapes Go.WideShapes Go.ChangeAt Go.Proofs.YtflhikakndanjaaDoor.Vk

theorem own : ownKnob Tryd.prog.godebug = none := by kernel_rfl
theorem laidOut : laidOutB Tryd.prog = true := by kernel_rfl
theorem met {W : World} (h : laidMetH Tryd.prog Rows.numBytesRow.laid W) : TabsMet tabs W := by
 rw [MakeChecks.laidMetH_plain _ _ _ (by kernel_rfl)] at h
 obtain ⟨ps, h, _, _⟩ := h
 haveI : Interp := ⟨fun _ _ => .nil⟩
 exact tabs_of_laid h
theorem tbIs : tbOk Tryd.prog tb = true := by kernel_rfl
theorem argsAre : argsOk Tryd.prog tb Tryd.f12.params.toList q_nbyt.args = true := by kernel_rfl

theorem trodAll_len {H : Type} {enc : TypeId × Value -> H} {P : Program} {w : World} {sp : Nat -> Bool} {held : Bool} : ∀ {ts : List TypeId} {vs : List Value} {ds : List (DataW H)} {ps : List MemPlace}, DataW.TrodAll enc P w 0 sp held ts vs ds ps -> ds.length = ts.length
 | [], [], [], _, _ => rfl
 | t :: ts, v :: vs, d :: ds, ps, h => by
  obtain ⟨p, q, h1, h2, rfl⟩ := h
  rw [List.length_cons, List.length_cons, trodAll_len h2]
 | [], [], _ :: _, _, h => h.elim
 | [], _ :: _, [], _, h => h.elim
 | [], _ :: _, _ :: _, _, h => h.elim
 | _ :: _, [], [], _, h => h.elim
 | _ :: _, [], _ :: _, _, h => h.elim
 | _ :: _, _ :: _, [], _, h => h.elim

theorem len_two {α : Type} {l : List α} (h : l.length = 2) : ∃ a b, l = [a, b] := by
 match l, h with
 | [a, b], _ => exact ⟨a, b, rfl⟩
theorem len_three {α : Type} {l : List α} (h : l.length = 3) : ∃ a b c, l = [a, b, c] := by
 match l, h with
 | [a, b, c], _ => exact ⟨a, b, c, rfl⟩
theorem inB_of {H : Type} {enc : TypeId × Value -> H} {W : World} {sp : Nat -> Bool} {held : Bool} {t0 t1 t2 e : TypeId} {h0 h2 : Sh} {vs : List Value} {ds : List (DataW H)} {ps : List MemPlace} {xs : List D} (hu : Tryd.prog.underlying t1 = some (.slice e)) (he : Tryd.prog.underlying e = some (.int .u8)) (hc : Tryd.prog.cellsOf e = 1)
  (hk : (kn [] tb).shape e = [.sc (.i .u8)]) (h : DataW.TrodAll enc Tryd.prog W 0 sp held [t0, t1, t2] vs ds ps) (hx : ArgsR (kn [] tb).shape (fun b off => W.cell? ⟨b, off, none⟩) (fun _ _ => True) [h0, .cell (.sl e), h2] vs xs) : inB xs := by
 obtain _ | ⟨v0, vs⟩ := vs
 ·cases ds <;> exact h.elim
 obtain _ | ⟨d0, ds⟩ := ds
 ·exact h.elim
 obtain _ | ⟨x0, xs⟩ := xs
 ·exact hx.elim
 obtain ⟨_, _, _, h, _⟩ := h
 obtain ⟨_, hx⟩ := hx
 obtain _ | ⟨v1, vs⟩ := vs
 ·cases ds <;> exact h.elim
 obtain _ | ⟨d1, ds⟩ := ds
 ·exact h.elim
 obtain _ | ⟨x1, xs⟩ := xs
 ·exact hx.elim
 obtain ⟨_, _, h1, h, _⟩ := h
 obtain ⟨k1, hx⟩ := hx
 obtain _ | ⟨v2, vs⟩ := vs
 ·cases ds <;> exact h.elim
 obtain _ | ⟨d2, ds⟩ := ds
 ·exact h.elim
 obtain _ | ⟨x2, xs⟩ := xs
 ·exact hx.elim
 obtain ⟨_, hx⟩ := hx
 obtain _ | ⟨v3, vs⟩ := vs
 ·obtain _ | ⟨x3, xs⟩ := xs
  ·obtain ⟨l, rfl⟩ := bytes_read hu he hc hk h1 k1
   exact ⟨x0, l, x2, rfl⟩
  ·exact hx.elim
 ·cases xs <;> exact hx.elim
theorem contract (H : Type) (enc : TypeId × Value -> H) (W : World) (base : Nat) (args : Array Value) (ds gs : List (DataW H)) (before : List MemPlace)
  (hval : ∀ (j : Nat) t v, Tryd.f12.params[j]? = some t -> args[j]? = some v -> Value.okWide Tryd.prog W .any base t v)
  (hW : DataW.Whole enc Tryd.prog Tryd.f12.params.toList Rows.numBytesSpec.vars false W args.toList ds gs before)
  (hR : (DataW.weightsEach Tryd.prog (Tryd.f12.params.toList ++ (OpenSpec.ofChange Rows.numBytesSpec).bare.plain.varTypes Tryd.prog) (ds ++ gs)).all (· <= reachBytes) = true)
  (hL : laidMetH Tryd.prog Rows.numBytesRow.laid W) :
  Calls Tryd.prog 12 args W fun e W' => ∃ v, e = .returned v /\ Rows.numBytesSpec.post enc Tryd.prog Tryd.f12 false true false false W args v W' := by
 have hW' := hW
 obtain ⟨p, q, hA0, hV, rfl, hfz, hnd⟩ := hW
 have hA : DataW.TrodAll enc Tryd.prog W 0 (fun _ => true) true Tryd.f12.params.toList args.toList ds p := hA0
 obtain ⟨rfl, rfl⟩ := trodVars_none hV
 have hw : ∀ m, m ∈ DataW.weightsEach Tryd.prog Tryd.f12.params.toList ds -> m <= lim := fun m hm => by
  have h1 : m ∈ DataW.weightsEach Tryd.prog (Tryd.f12.params.toList ++ (OpenSpec.ofChange Rows.numBytesSpec).bare.plain.varTypes Tryd.prog) (ds ++ []) := by
   rw [show (OpenSpec.ofChange Rows.numBytesSpec).bare.plain.varTypes Tryd.prog = [] from rfl, List.append_nil, List.append_nil]; exact hm
  have h2 := List.all_eq_true.1 hR m h1
  exact Nat.le_trans (of_decide_eq_true h2) (by show 0x7ffffffff000 <= lim; decide)
 obtain ⟨xs, hx, hlim⟩ := args_read (P := Tryd.prog) tbIs argsAre (fun j t v h1 h2 => hval j t v (by simpa using h1) (by simpa using h2)) hA hw
 have hin : inB xs := inB_of (t0 := 4) (t1 := 70) (e := 5) (by kernel_rfl) (by kernel_rfl) (by kernel_rfl) rfl hA hx
 letI := I (4 * D.szL xs + 200)
 have hok := nbyt_ok (4 * D.szL xs + 200) W (fun _ _ => True) args xs (met hL) (fun _ _ _ _ _ => trivial) hx ⟨⟨by omega, hlim⟩, hin⟩
 refine (callsIn_wide.1 hok).mono fun e' W' hq => ?_
 obtain ⟨v, rfl, hb, hr⟩ := hq
 refine ⟨v, rfl, ?_⟩
 obtain rfl : v = .bool true := by
  have e : @Interp.phi (I (4 * D.szL xs + 200)) q_nbyt.g xs = bD true := phi_nbyt _ _
  rw [e] at hr
  have := hr.1
  unfold bD DV at this
  exact this.1
 obtain ⟨d0, d1, d2, rfl⟩ := len_three (trodAll_len hA)
 exact post_true (t := 4) laidOut (by kernel_rfl) (by kernel_rfl) Tryd.underlying4 hW' rfl rfl rfl rfl hb

/- A world for the witness: the settled one, each listed table holding what its initialiser lays. -/
noncomputable def wargs : Array Value := #[.bool false, .slice none 0 0, .agg #[.bool false, .string ByteArray.empty, .int .i64 0]]
theorem laid_met (os : Os) (args : Array Value) : laidMetH Tryd.prog Rows.numBytesRow.laid ((World.laidAll Tryd.prog os Rows.numBytesRow.laid).forCall (fun _ _ => 0) ⟨#[], args, []⟩).memory := by
 rw [MakeChecks.laidMetH_plain _ _ _ (by kernel_rfl)]
 exact laidMet_laidAll _ (by kernel_rfl) (by kernel_rfl)
noncomputable def wds (os : Os) {H : Type} (enc : TypeId × Value -> H) : List (DataW H) :=
 match DataW.whole enc Tryd.prog ((World.laidAll Tryd.prog os Rows.numBytesRow.laid).forCall (fun _ _ => 0) ⟨#[], wargs, []⟩).memory Tryd.f12.params.toList Rows.numBytesSpec.vars false wargs.toList 16 with
 | some (ds, _, _) => ds
 | none => []
theorem reads (os : Os) {H : Type} (enc : TypeId × Value -> H) : DataW.whole enc Tryd.prog ((World.laidAll Tryd.prog os Rows.numBytesRow.laid).forCall (fun _ _ => 0) ⟨#[], wargs, []⟩).memory Tryd.f12.params.toList Rows.numBytesSpec.vars false wargs.toList 16 =
  some (wds os enc, [], []) := by kernel_rfl

theorem lifted (os : Os) (started : os.Started) (H : Type) (enc : TypeId × Value -> H) (F : Stop.Interp) :
  ReturnsInHanded {} Tryd.checked os 12 .any ((OpenSpec.ofChange Rows.numBytesSpec).preRow enc Tryd.prog Tryd.f12 Rows.numBytesRow.domain false Rows.numBytesRow.laid) (((OpenSpec.ofChange Rows.numBytesSpec).at F).post enc Tryd.prog Tryd.f12 false true false false) := by
 refine returnsInHanded_of_row (C := Tryd.checked) (s := OpenSpec.ofChange Rows.numBytesSpec) own started (by kernel_rfl) Tryd.func12
  (witness_row_at (enc := enc) (C := Tryd.checked) false (World.laidAll Tryd.prog os Rows.numBytesRow.laid) wargs (World.laidAll_os _ _ _) (by kernel_rfl) (by kernel_rfl) (by kernel_rfl)
   (OpenSpec.preRow_of_cond 16 (reads os enc) (by kernel_rfl) (fun k hk => by cases hk) (by kernel_rfl) (laid_met os _))) ?_
 intro W base args ds gs before hval hW _ _ hR hL _ _
 exact contract H enc W base args ds gs before hval hW hR hL

theorem said : Rows.NumBytesSaid :=
 OpenClaim.holds_of_cond 12 Tryd.f12 rfl rfl rfl rfl rfl rfl rfl ⟨rfl, rfl, rfl, rfl, rfl⟩ rfl rfl rfl rfl rfl (by kernel_rfl) Tryd.func12 (by kernel_rfl)
  (of_decide_eq_true (by kernel_rfl)) (by unfold Func.isWrapper; first | (rw [if_pos (by decide +kernel)]; kernel_rfl) | (rw [if_neg (by decide +kernel)]; exact ⟨rfl, rfl⟩))
  (fun os started H enc _ F => by rw [OpenClaim.pre_eq_preRow]; exact lifted os started H enc F)

theorem plain (f : FuncId) (fn : Func) (hf : Tryd.pinned.checked.prog.funcNamed "calamus/calamuslaw01.NumBytes" = some f) (hfn : Tryd.pinned.checked.prog.funcs[f]? = some fn) :
  true = Tryd.pinned.checked.prog.looks [] /\ ∀ (j : Nat) t, fn.params[j]? = some t -> Tryd.pinned.checked.prog.wantsStandIn t = false := by
 obtain rfl : f = 12 := Option.some.inj ((show Tryd.prog.funcNamed "calamus/calamuslaw01.NumBytes" = some 12 by kernel_rfl).symm.trans hf) |>.symm
 obtain rfl : fn = Tryd.f12 := (Option.some.inj (Tryd.func12.symm.trans hfn)).symm
 refine ⟨by kernel_rfl, fun j t ht => ?_⟩
 have h : (Tryd.f12.params.all fun t => !Tryd.prog.wantsStandIn t) = true := by kernel_rfl
 have := Array.all_eq_true_iff_forall_mem.1 h t (Array.mem_of_getElem? ht)
 show Tryd.prog.wantsStandIn t = false
 simpa using this

theorem card : Rows.NumBytesCardSaid :=
 Claim7.holds_tied_plain_at .later [] _ _ _ _ said (fun _ h => by cases h) (by kernel_rfl) (fun _ h => by cases h) numBytes_row_tie rfl ⟨rfl, rfl⟩ (by kernel_rfl) rfl plain (by kernel_rfl)
end Go.Proofs.YtflhikakndanjaaDoor.VkNumBytes
