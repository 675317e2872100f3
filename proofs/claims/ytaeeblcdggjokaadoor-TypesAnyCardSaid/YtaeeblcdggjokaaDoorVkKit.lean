/- Plain data of the kinds of this program, as Lean's own types; what is small enough; what the operations of expressions come to on them. -/
import Derived.Test.YtaeeblcdggjokaaDoorSxRead
namespace Go.Ab
set_option linter.unusedVariables false
set_option linter.unusedSimpArgs false
set_option linter.unusedSectionVars false
set_option linter.constructorNameAsVariable false
set_option linter.unusedSectionVars false
set_option linter.constructorNameAsVariable false
open Go
set_option maxRecDepth 10000

/-! ### Scalars -/
def mkS (l : List Nat) : ByteArray := ⟨(l.map fun n => UInt8.ofNat n).toArray⟩
abbrev iD (i : Int) : D := .v (.int .i64 i)
abbrev uD (i : Int) : D := .v (.int .u64 i)
abbrev bD (b : Bool) : D := .v (.bool b)
abbrev sD (s : ByteArray) : D := .v (.string s)
def strD (s : ByteArray) : D := .row [sD s]
abbrev strsD (l : List ByteArray) : D := .lst (l.map strD)

/-! ### Small enough -/
def okD (n : Nat) (ds : List D) : Prop := D.szL ds < n ∧ D.LimL ds
theorem D.sz_pos : ∀ (d : D), 1 ≤ d.sz
  | .v _ => Nat.le_refl _
  | .nil => Nat.le_refl _
  | .lst _ => by unfold D.sz; omega
  | .row _ => by unfold D.sz; omega
theorem szL_mem {x : D} : ∀ {l : List D}, x ∈ l → x.sz ≤ D.szL l
  | d :: r, h => by
    unfold D.szL
    rcases List.mem_cons.1 h with rfl | h
    · omega
    · have := szL_mem h; omega
theorem limL_mem {x : D} : ∀ {l : List D}, x ∈ l → D.LimL l → x.Lim
  | d :: r, h, k => by
    unfold D.LimL at k
    rcases List.mem_cons.1 h with rfl | h
    · exact k.1
    · exact limL_mem h k.2
theorem szL_append : ∀ (a b : List D), D.szL (a ++ b) = D.szL a + D.szL b
  | [], b => by simp [D.szL]
  | d :: r, b => by
    rw [List.cons_append, szL_cons, szL_cons, szL_append r b]; omega
theorem okD.mono {n m : Nat} {ds : List D} (h : okD n ds) (hm : n ≤ m) : okD m ds := ⟨by have := h.1; omega, h.2⟩

/-! ### Values -/
/-- A value: its kind, a flag, a number (sign, digits, exponent), bits, a text, names, a list. -/
inductive Val where
  | mk (kind : Int) (flag neg : Bool) (dig : ByteArray) (exp bits : Int) (text : ByteArray) (names : List ByteArray) (list : List Val)
instance : Inhabited Val := ⟨.mk 0 false false .empty 0 0 .empty [] []⟩
namespace Val
def kind : Val → Int | .mk k _ _ _ _ _ _ _ _ => k
def flag : Val → Bool | .mk _ f _ _ _ _ _ _ _ => f
def neg : Val → Bool | .mk _ _ n _ _ _ _ _ _ => n
def dig : Val → ByteArray | .mk _ _ _ d _ _ _ _ _ => d
def exp : Val → Int | .mk _ _ _ _ e _ _ _ _ => e
def bits : Val → Int | .mk _ _ _ _ _ b _ _ _ => b
def text : Val → ByteArray | .mk _ _ _ _ _ _ t _ _ => t
def names : Val → List ByteArray | .mk _ _ _ _ _ _ _ n _ => n
def list : Val → List Val | .mk _ _ _ _ _ _ _ _ l => l
end Val
mutual
def Val.toD : Val → D
  | .mk k f n d e b t ns l => .row [iD k, bD f, bD n, sD d, iD e, uD b, sD t, strsD ns, .lst (Val.toDs l)]
def Val.toDs : List Val → List D
  | [] => []
  | v :: r => v.toD :: Val.toDs r
end
theorem toDs_map : ∀ (l : List Val), Val.toDs l = l.map Val.toD
  | [] => by unfold Val.toDs; rfl
  | v :: r => by unfold Val.toDs; rw [toDs_map r]; rfl
abbrev valsD (l : List Val) : D := .lst (l.map Val.toD)
theorem toD_row (v : Val) : v.toD = .row [iD v.kind, bD v.flag, bD v.neg, sD v.dig, iD v.exp, uD v.bits, sD v.text, strsD v.names, valsD v.list] := by
  cases v with
  | mk k f n d e b t ns l => unfold Val.toD; rw [toDs_map]; rfl
theorem val_ind {p : Val → Prop} (h : ∀ v, (∀ x, x ∈ v.list → p x) → p v) : ∀ v, p v := by
  intro v
  have key : ∀ (n : Nat) (v : Val), SizeOf.sizeOf v < n → p v := by
    intro n
    induction n with
    | zero => intro v hv; omega
    | succ n ih =>
      intro v hv
      refine h v fun x hx => ih x ?_
      have := List.sizeOf_lt_of_mem hx
      cases v with
      | mk k f ng d e b t ns l =>
        rw [Val.mk.sizeOf_spec] at hv
        show SizeOf.sizeOf x < n
        have : SizeOf.sizeOf x < SizeOf.sizeOf l := this
        omega
  exact key _ v (Nat.lt_succ_self _)
/-! And back. -/
def D.strs (d : D) : List ByteArray := d.rows.map fun r => (r.cells.getD 0 .nil).str
mutual
def D.val1 : D → Val
  | .row [k, f, n, d, e, b, t, ns, l] => .mk k.int f.bool n.bool d.str e.int b.int t.str ns.strs (D.vals l)
  | _ => default
def D.vals : D → List Val
  | .lst l => D.valsL l
  | _ => []
def D.valsL : List D → List Val
  | [] => []
  | d :: r => d.val1 :: D.valsL r
end
theorem strs_strsD (l : List ByteArray) : (strsD l).strs = l := by
  unfold D.strs strsD
  show (l.map strD).map _ = l
  rw [List.map_map]
  have : ((fun r : D => (r.cells.getD 0 .nil).str) ∘ strD) = id := by funext s; rfl
  rw [this, List.map_id]
theorem valsL_map : ∀ (l : List D), D.valsL l = l.map D.val1
  | [] => by unfold D.valsL; rfl
  | v :: r => by unfold D.valsL; rw [valsL_map r]; rfl
@[simp] theorem val1_toD (v : Val) : v.toD.val1 = v := by
  induction v using val_ind with
  | h v ih =>
    rw [toD_row]
    unfold D.val1
    show Val.mk v.kind v.flag v.neg v.dig v.exp v.bits v.text (strsD v.names).strs (D.vals (valsD v.list)) = v
    rw [strs_strsD]
    unfold D.vals
    rw [valsL_map, List.map_map]
    have : v.list.map (D.val1 ∘ Val.toD) = v.list := by
      conv => rhs; rw [← List.map_id v.list]
      exact List.map_congr_left fun x hx => ih x hx
    rw [this]
    cases v; rfl
@[simp] theorem vals_valsD (l : List Val) : (valsD l).vals = l := by
  unfold D.vals
  rw [valsL_map, List.map_map]
  conv => rhs; rw [← List.map_id l]
  exact List.map_congr_left fun x _ => val1_toD x

/-! ### What fits -/
section
variable {sh : Nat → List CT}
theorem fits_int {d : D} {k : IntKind} (h : fits sh d (.sc (.i k))) : ∃ z, d = .v (.int k z) := by
  cases d with
  | v x => unfold fits at h; haveI : Interp := ⟨fun _ _ => .nil⟩; obtain ⟨i, rfl⟩ := tyV_int h; exact ⟨i, rfl⟩
  | nil => unfold fits at h; exact h.elim
  | lst _ => unfold fits at h; exact h.elim
  | row _ => unfold fits at h; exact h.elim
theorem fits_bool {d : D} (h : fits sh d (.sc .b)) : ∃ z, d = bD z := by
  cases d with
  | v x => unfold fits at h; haveI : Interp := ⟨fun _ _ => .nil⟩; obtain ⟨i, rfl⟩ := tyV_b h; exact ⟨i, rfl⟩
  | nil => unfold fits at h; exact h.elim
  | lst _ => unfold fits at h; exact h.elim
  | row _ => unfold fits at h; exact h.elim
theorem fits_str {d : D} (h : fits sh d (.sc .s)) : ∃ z, d = sD z := by
  cases d with
  | v x => unfold fits at h; haveI : Interp := ⟨fun _ _ => .nil⟩; obtain ⟨i, rfl⟩ := tyV_s h; exact ⟨i, rfl⟩
  | nil => unfold fits at h; exact h.elim
  | lst _ => unfold fits at h; exact h.elim
  | row _ => unfold fits at h; exact h.elim
theorem fits_lst {d : D} {t : Nat} (h : fits sh d (.sl t)) : ∃ l, d = .lst l ∧ fitsR sh l t := by
  cases d with
  | v x => unfold fits at h; exact h.elim
  | nil => unfold fits at h; exact h.elim
  | lst l => unfold fits at h; exact ⟨l, rfl, h⟩
  | row _ => unfold fits at h; exact h.elim
theorem fitsC_cons {d : List D} {c : CT} {r : List CT} (h : fitsC sh d (c :: r)) : ∃ x t, d = x :: t ∧ fits sh x c ∧ fitsC sh t r := by
  cases d with
  | nil => unfold fitsC at h; exact h.elim
  | cons x t => unfold fitsC at h; exact ⟨x, t, rfl, h⟩
theorem fitsC_nil {d : List D} (h : fitsC sh d []) : d = [] := by
  cases d with
  | nil => rfl
  | cons x t => unfold fitsC at h; exact h.elim
theorem fitsW_row {d : D} {t : Nat} (h : fitsW sh d t) : ∃ cs, d = .row cs ∧ fitsC sh cs (sh t) := by
  cases d with
  | row cs => unfold fitsW at h; exact ⟨cs, rfl, h⟩
  | v _ => unfold fitsW at h; exact h.elim
  | nil => unfold fitsW at h; exact h.elim
  | lst _ => unfold fitsW at h; exact h.elim
theorem rows_of {α : Type} {t : Nat} {f : α → D} : ∀ {l : List D}, fitsR sh l t → (∀ d, d ∈ l → fitsW sh d t → ∃ x, d = f x) → ∃ xs : List α, l = xs.map f
  | [], _, _ => ⟨[], rfl⟩
  | d :: r, h, hf => by
    unfold fitsR at h
    obtain ⟨x, hx⟩ := hf d (List.mem_cons_self ..) h.1
    obtain ⟨xs, hxs⟩ := rows_of h.2 fun d hd => hf d (List.mem_cons_of_mem _ hd)
    exact ⟨x :: xs, by rw [List.map_cons, ← hx, ← hxs]⟩
theorem fits_strs {t : Nat} (ht : sh t = [.sc .s]) {d : D} (h : fits sh d (.sl t)) : ∃ l, d = strsD l := by
  obtain ⟨l, rfl, hl⟩ := fits_lst h
  obtain ⟨xs, rfl⟩ := rows_of (f := strD) hl fun d _ hd => by
    obtain ⟨cs, rfl, hc⟩ := fitsW_row hd
    rw [ht] at hc
    obtain ⟨x, r, rfl, g1, hc⟩ := fitsC_cons hc
    obtain rfl := fitsC_nil hc
    obtain ⟨s, rfl⟩ := fits_str g1
    exact ⟨s, rfl⟩
  exact ⟨xs, rfl⟩
/-- The cells of a struct of the kind api.Value. -/
def valCT (tV tS : Nat) : List CT := [.sc (.i .i64), .sc .b, .sc .b, .sc .s, .sc (.i .i64), .sc (.i .u64), .sc .s, .sl tS, .sl tV]
theorem fits_val {tV tS : Nat} (hV : sh tV = valCT tV tS) (hS : sh tS = [.sc .s]) : ∀ (d : D), fitsW sh d tV → ∃ v : Val, d = v.toD := by
  have key : ∀ (n : Nat) (d : D), d.sz < n → fitsW sh d tV → ∃ v : Val, d = v.toD := by
    intro n
    induction n with
    | zero => intro d hd; omega
    | succ n ih =>
      intro d hd h
      obtain ⟨cs, rfl, h'⟩ := fitsW_row h
      clear h
      have h := h'
      rw [hV] at h
      obtain ⟨d1, r, rfl, g1, h⟩ := fitsC_cons h
      obtain ⟨d2, r, rfl, g2, h⟩ := fitsC_cons h
      obtain ⟨d3, r, rfl, g3, h⟩ := fitsC_cons h
      obtain ⟨d4, r, rfl, g4, h⟩ := fitsC_cons h
      obtain ⟨d5, r, rfl, g5, h⟩ := fitsC_cons h
      obtain ⟨d6, r, rfl, g6, h⟩ := fitsC_cons h
      obtain ⟨d7, r, rfl, g7, h⟩ := fitsC_cons h
      obtain ⟨d8, r, rfl, g8, h⟩ := fitsC_cons h
      obtain ⟨d9, r, rfl, g9, h⟩ := fitsC_cons h
      obtain rfl := fitsC_nil h
      obtain ⟨z1, rfl⟩ := fits_int g1
      obtain ⟨z2, rfl⟩ := fits_bool g2
      obtain ⟨z3, rfl⟩ := fits_bool g3
      obtain ⟨z4, rfl⟩ := fits_str g4
      obtain ⟨z5, rfl⟩ := fits_int g5
      obtain ⟨z6, rfl⟩ := fits_int g6
      obtain ⟨z7, rfl⟩ := fits_str g7
      obtain ⟨ns, rfl⟩ := fits_strs hS g8
      obtain ⟨l, rfl, hl⟩ := fits_lst g9
      obtain ⟨xs, rfl⟩ := rows_of (f := Val.toD) hl fun d hdl hw => ih d (by
        have := szL_mem hdl
        simp only [D.sz, D.szL] at hd
        omega) hw
      refine ⟨.mk z1 z2 z3 z4 z5 z6 z7 ns xs, ?_⟩
      rw [toD_row]
      rfl
  exact fun d h => key _ d (Nat.lt_succ_self _) h
theorem fits_vals {tV tS : Nat} (hV : sh tV = valCT tV tS) (hS : sh tS = [.sc .s]) {d : D} (h : fits sh d (.sl tV)) : ∃ l : List Val, d = valsD l := by
  obtain ⟨l, rfl, hl⟩ := fits_lst h
  obtain ⟨xs, rfl⟩ := rows_of (f := Val.toD) hl fun d _ hw => fits_val hV hS d hw
  exact ⟨xs, rfl⟩
end

/-! ### Small enough -/
theorem sz_toD (v : Val) : v.toD.sz = 8 + (strsD v.names).sz + (valsD v.list).sz := by
  rw [toD_row]
  simp only [D.sz, D.szL]
  omega
theorem lim_toD (v : Val) : v.toD.Lim ↔ v.dig.size ≤ lim ∧ v.text.size ≤ lim ∧ (strsD v.names).Lim ∧ (valsD v.list).Lim := by
  rw [toD_row]
  simp only [D.Lim, D.LimL, and_true, true_and]
theorem limL_map {α : Type} {f : α → D} : ∀ {l : List α}, D.LimL (l.map f) ↔ ∀ x, x ∈ l → (f x).Lim
  | [] => by simp [D.LimL]
  | v :: r => by rw [List.map_cons, limL_cons, limL_map]; simp
theorem lim_vals {l : List Val} : (valsD l).Lim ↔ l.length ≤ lim ∧ ∀ x, x ∈ l → x.toD.Lim := by
  rw [lim_lst, List.length_map, limL_map]
theorem lim_strD (s : ByteArray) : (strD s).Lim ↔ s.size ≤ lim := by unfold strD; simp only [D.Lim, D.LimL, and_true]
theorem lim_strs {l : List ByteArray} : (strsD l).Lim ↔ l.length ≤ lim ∧ ∀ x, x ∈ l → x.size ≤ lim := by
  unfold strsD
  rw [lim_lst, List.length_map, limL_map]
  simp only [lim_strD]
theorem sz_lst (l : List D) : (D.lst l).sz = D.szL l + 1 := by rw [D.sz]
theorem sz_row (l : List D) : (D.row l).sz = D.szL l + 1 := by rw [D.sz]
theorem sz_vals_mem {l : List Val} {x : Val} (h : x ∈ l) : x.toD.sz < (valsD l).sz := by
  have := szL_mem (List.mem_map_of_mem (f := Val.toD) h)
  rw [sz_lst]
  omega

/-! ### Reading expressions -/
@[simp] theorem envOf_zero (a : D) (l : List D) : envOf (a :: l) 0 = a := rfl
@[simp] theorem envOf_succ (a : D) (l : List D) (n : Nat) : envOf (a :: l) (n + 1) = envOf l n := rfl
@[simp] theorem rows_lst (l : List D) : (D.lst l).rows = l := rfl
@[simp] theorem cells_row (l : List D) : (D.row l).cells = l := rfl
@[simp] theorem int_v (k : IntKind) (i : Int) : (D.v (.int k i)).int = i := rfl
@[simp] theorem bool_v (b : Bool) : (D.v (.bool b)).bool = b := rfl
@[simp] theorem str_v (s : ByteArray) : (D.v (.string s)).str = s := rfl
theorem ofBool_v (b : Bool) : D.ofBool b = .v (.bool b) := rfl
theorem ofInt_v (k : IntKind) (i : Int) : D.ofInt k i = .v (.int k i) := rfl
theorem ofStr_v (s : ByteArray) : D.ofStr s = .v (.string s) := rfl
theorem wrap_id {i : Int} (h0 : -9223372036854775808 ≤ i) (h : i < 9223372036854775808) : IntKind.i64.wrap i = i := by
  unfold IntKind.wrap
  have e : (2 ^ IntKind.i64.bits : Int) = 18446744073709551616 := rfl
  have e2 : (2 ^ (IntKind.i64.bits - 1) : Int) = 9223372036854775808 := rfl
  have e3 : IntKind.i64.signed = true := rfl
  simp only [e, e2, e3, Bool.true_and]
  by_cases hp : 0 ≤ i
  · have hm : i % 18446744073709551616 = i := Int.emod_eq_of_lt hp (by omega)
    rw [hm, if_neg]
    simp only [ge_iff_le, decide_eq_true_eq]
    omega
  · have hm : i % 18446744073709551616 = i + 18446744073709551616 := by omega
    rw [hm, if_pos]
    · omega
    · simp only [ge_iff_le, decide_eq_true_eq]
      omega
theorem wrap_succ {i m : Nat} (h : i < m) (hm : m ≤ lim) : IntKind.i64.wrap ((i : Int) + 1) = ((i + 1 : Nat) : Int) := by
  have hm : m ≤ 140737488355328 := hm
  rw [wrap_id (by omega) (by omega)]; rfl
theorem getD_map {α : Type} {f : α → D} {l : List α} {i : Nat} {x : α} {d : D} (h : l[i]? = some x) : (l.map f).getD i d = f x := by
  rw [List.getD_eq_getElem?_getD, List.getElem?_map, h]; rfl
theorem drop_get {α : Type} {l : List α} {i : Nat} (h : i < l.length) : ∃ x, l[i]? = some x ∧ x ∈ l ∧ l.drop i = x :: l.drop (i + 1) :=
  ⟨l[i], List.getElem?_eq_getElem h, List.getElem_mem h, List.drop_eq_getElem_cons h⟩
def cellAt (d : D) (j : Nat) : D := d.cells.getD j .nil
def rowAt (d : D) (i : Int) : D := d.rows.getD i.toNat (.row [])
theorem den_add (k : IntKind) (a b : D) : Prim.den (.iop .add k) [a, b] = .v (.int k (k.wrap (a.int + b.int))) := rfl
theorem den_sub (k : IntKind) (a b : D) : Prim.den (.iop .sub k) [a, b] = .v (.int k (k.wrap (a.int - b.int))) := rfl
theorem den_mul (k : IntKind) (a b : D) : Prim.den (.iop .mul k) [a, b] = .v (.int k (k.wrap (a.int * b.int))) := rfl
theorem den_quo (k : IntKind) (a b : D) : Prim.den (.iop .quo k) [a, b] = .v (.int k (k.wrap (a.int.tdiv b.int))) := rfl
theorem den_rem (k : IntKind) (a b : D) : Prim.den (.iop .rem k) [a, b] = .v (.int k (a.int.tmod b.int)) := rfl
def ltI (a b : Int) : Bool := decide (a < b)
def leI (a b : Int) : Bool := decide (a ≤ b)
def eqI (a b : Int) : Bool := decide (a = b)
def eqS (a b : ByteArray) : Bool := decide (a = b)
theorem ltI_t {a b : Int} : (ltI a b = true) ↔ a < b := decide_eq_true_iff
theorem leI_t {a b : Int} : (leI a b = true) ↔ a ≤ b := decide_eq_true_iff
theorem eqI_t {a b : Int} : (eqI a b = true) ↔ a = b := decide_eq_true_iff
theorem eqS_t {a b : ByteArray} : (eqS a b = true) ↔ a = b := decide_eq_true_iff
theorem ltI_f {a b : Int} : (ltI a b = false) ↔ ¬ a < b := decide_eq_false_iff_not
theorem leI_f {a b : Int} : (leI a b = false) ↔ ¬ a ≤ b := decide_eq_false_iff_not
theorem eqI_f {a b : Int} : (eqI a b = false) ↔ ¬ a = b := decide_eq_false_iff_not
theorem eqS_f {a b : ByteArray} : (eqS a b = false) ↔ ¬ a = b := decide_eq_false_iff_not
theorem den_ieql (a b : D) : Prim.den (.icmp .eql) [a, b] = bD (eqI a.int b.int) := by
  show bD (a.int == b.int) = bD (decide _)
  by_cases h : a.int = b.int <;> simp [h]
theorem den_ineq (a b : D) : Prim.den (.icmp .neq) [a, b] = bD (!eqI a.int b.int) := by
  show bD (a.int != b.int) = bD (!decide _)
  by_cases h : a.int = b.int <;> simp [h]
theorem den_lss (a b : D) : Prim.den (.icmp .lss) [a, b] = bD (ltI a.int b.int) := rfl
theorem den_leq (a b : D) : Prim.den (.icmp .leq) [a, b] = bD (leI a.int b.int) := rfl
theorem den_gtr (a b : D) : Prim.den (.icmp .gtr) [a, b] = bD (ltI b.int a.int) := rfl
theorem den_geq (a b : D) : Prim.den (.icmp .geq) [a, b] = bD (leI b.int a.int) := rfl
theorem toList_eq {a b : ByteArray} : a.toList = b.toList ↔ a = b := ⟨fun h => by
  rw [ByteArray.toList_eq, ByteArray.toList_eq] at h
  exact ByteArray.ext (Array.toList_inj.1 h), fun h => by rw [h]⟩
theorem den_seql (a b : D) : Prim.den (.scmp .eql) [a, b] = bD (eqS a.str b.str) := by
  show bD (a.str.toList == b.str.toList) = bD (decide _)
  by_cases h : a.str = b.str
  · simp [h]
  · simp [h, mt toList_eq.1 h]
theorem den_sneq (a b : D) : Prim.den (.scmp .neq) [a, b] = bD (!eqS a.str b.str) := by
  show bD (!(a.str.toList == b.str.toList)) = bD (!decide _)
  by_cases h : a.str = b.str
  · simp [h]
  · simp [h, mt toList_eq.1 h]
def lessS (a b : ByteArray) : Bool := Op.bytesLess a.toList b.toList
theorem den_slss (a b : D) : Prim.den (.scmp .lss) [a, b] = bD (lessS a.str b.str) := rfl
theorem den_beql (a b : D) : Prim.den (.bcmp .eql) [a, b] = bD (a.bool == b.bool) := rfl
theorem den_bneq (a b : D) : Prim.den (.bcmp .neq) [a, b] = bD (a.bool != b.bool) := rfl
theorem den_not (a : D) : Prim.den .not [a] = bD (!a.bool) := rfl
theorem den_neg (k : IntKind) (a : D) : Prim.den (.neg k) [a] = .v (.int k (k.wrap (-a.int))) := rfl
theorem den_conv (k : IntKind) (a : D) : Prim.den (.conv k) [a] = .v (.int k (k.wrap a.int)) := rfl
theorem den_slen (a : D) : Prim.den .slen [a] = iD a.str.size := rfl
theorem den_sat (a i : D) : Prim.den .sat [a, i] = .v (.int .u8 (a.str.data.toList.getD i.int.toNat 0).toNat) := rfl
theorem den_ssub (a lo hi : D) : Prim.den .ssub [a, lo, hi] = sD (a.str.extract lo.int.toNat hi.int.toNat) := rfl
theorem den_scat (a b : D) : Prim.den .scat [a, b] = sD (a.str ++ b.str) := rfl
theorem den_len (a : D) : Prim.den .len [a] = iD a.rows.length := rfl
theorem den_at (a i : D) : Prim.den .at [a, i] = rowAt a i.int := rfl
theorem den_cell (j : Nat) (a : D) : Prim.den (.cell j) [a] = cellAt a j := rfl
theorem den_row (l : List D) : Prim.den .row l = .row l := by cases l <;> rfl
theorem den_lst (l : List D) : Prim.den .lst l = .lst l := by cases l <;> rfl
theorem den_cat (a b : D) : Prim.den .cat [a, b] = .lst (a.rows ++ b.rows) := rfl
theorem den_ite (c a b : D) : Prim.den .ite [c, a, b] = bif c.bool then a else b := by
  show (if c.bool then a else b) = _
  cases c.bool <;> rfl
theorem den_and (l : List D) : Prim.den .and l = bD (l.all D.bool) := by cases l <;> rfl
theorem den_mhas (m k : D) : Prim.den .mhas [m, k] = bD (mfind k m.rows).isSome := rfl
theorem den_mget (m k z : D) : Prim.den .mget [m, k, z] = (mfind k m.rows).getD z := rfl
theorem den_mset (m k v : D) : Prim.den .mset [m, k, v] = .lst (mput k v m.rows) := rfl
theorem ofBool_bD (b : Bool) : D.ofBool b = bD b := rfl
theorem bD_true {b : Bool} : (bD b = D.v (.bool true)) ↔ b = true := by simp
theorem bD_inj {a b : Bool} : (bD a = bD b) ↔ a = b := by simp
theorem rowAt_map {α : Type} {f : α → D} {l : List α} {i : Nat} {x : α} (h : l[i]? = some x) : rowAt (.lst (l.map f)) (i : Int) = f x := by
  unfold rowAt
  rw [rows_lst, Int.toNat_natCast]
  exact getD_map h
/-- A struct's cells, put together. -/
theorem at_0 (v : Val) : cellAt v.toD 0 = iD v.kind := by rw [toD_row]; rfl
theorem at_1 (v : Val) : cellAt v.toD 1 = bD v.flag := by rw [toD_row]; rfl
theorem at_2 (v : Val) : cellAt v.toD 2 = bD v.neg := by rw [toD_row]; rfl
theorem at_3 (v : Val) : cellAt v.toD 3 = sD v.dig := by rw [toD_row]; rfl
theorem at_4 (v : Val) : cellAt v.toD 4 = iD v.exp := by rw [toD_row]; rfl
theorem at_5 (v : Val) : cellAt v.toD 5 = uD v.bits := by rw [toD_row]; rfl
theorem at_6 (v : Val) : cellAt v.toD 6 = sD v.text := by rw [toD_row]; rfl
theorem at_7 (v : Val) : cellAt v.toD 7 = strsD v.names := by rw [toD_row]; rfl
theorem at_8 (v : Val) : cellAt v.toD 8 = valsD v.list := by rw [toD_row]; rfl
theorem toD_put (v : Val) : D.row [iD v.kind, bD v.flag, bD v.neg, sD v.dig, iD v.exp, uD v.bits, sD v.text, strsD v.names, valsD v.list] = v.toD := (toD_row v).symm
theorem strD_at (s : ByteArray) : cellAt (strD s) 0 = sD s := rfl
theorem row_at0 (a : D) (l : List D) : cellAt (.row (a :: l)) 0 = a := rfl
theorem row_at1 (a b : D) (l : List D) : cellAt (.row (a :: b :: l)) 1 = b := rfl
theorem row_at2 (a b c : D) (l : List D) : cellAt (.row (a :: b :: c :: l)) 2 = c := rfl
theorem rows_strs (l : List ByteArray) : (strsD l).rows = l.map strD := rfl
theorem okD_one {n : Nat} {d : D} : okD n [d] ↔ d.sz < n ∧ d.Lim := by
  unfold okD
  simp only [D.szL, D.LimL, Nat.add_zero, and_true]
theorem okD_two {n : Nat} {d e : D} : okD n [d, e] ↔ d.sz + e.sz < n ∧ d.Lim ∧ e.Lim := by
  unfold okD
  simp only [D.szL, D.LimL, Nat.add_zero, and_true]
theorem okD_list {n : Nat} {v : Val} (h : okD (n + 1) [v.toD]) : (valsD v.list).sz + 1 < n ∧ v.list.length ≤ lim ∧ ∀ x, x ∈ v.list → okD n [x.toD] := by
  rw [okD_one, sz_toD, lim_toD] at h
  obtain ⟨h1, _, _, _, h2⟩ := h
  obtain ⟨h2, h3⟩ := lim_vals.1 h2
  exact ⟨by omega, h2, fun x hx => okD_one.2 ⟨by have := sz_vals_mem hx; omega, h3 x hx⟩⟩
theorem sz_sD (s : ByteArray) : (sD s).sz = 1 := by simp only [D.sz]
theorem sz_nilrow : (D.row []).sz = 1 := by simp only [D.sz, D.szL]
theorem lim_nilrow : (D.row []).Lim := by simp only [D.Lim, D.LimL]
theorem lim_sD {s : ByteArray} : (sD s).Lim ↔ s.size ≤ lim := by simp only [D.Lim]
theorem sz_strs (l : List ByteArray) : (strsD l).sz = 2 * l.length + 1 := by
  unfold strsD
  rw [sz_lst]
  have : D.szL (l.map strD) = 2 * l.length := by
    induction l with
    | nil => rfl
    | cons s r ih => rw [List.map_cons, szL_cons, ih, List.length_cons]; show (D.row [sD s]).sz + _ = _; rw [sz_row]; simp only [D.szL, D.sz]; omega
  rw [this]
theorem okD_strs {n : Nat} {l : List ByteArray} (h : okD n [strsD l]) : l.length ≤ lim ∧ ∀ s, s ∈ l → okD n [sD s] := by
  rw [okD_one] at h
  obtain ⟨h1, h2⟩ := lim_strs.1 h.2
  refine ⟨h1, fun s hs => okD_one.2 ⟨?_, lim_sD.2 (h2 s hs)⟩⟩
  have := h.1
  rw [sz_strs] at this
  rw [sz_sD]
  have : 0 < l.length := List.length_pos_of_mem hs
  omega
theorem okD_vals {n : Nat} {l : List Val} {d : D} (h : okD n [valsD l, d]) : l.length ≤ lim ∧ ∀ x, x ∈ l → okD n [x.toD] := by
  rw [okD_two] at h
  obtain ⟨h1, h2, _⟩ := h
  obtain ⟨h2, h3⟩ := lim_vals.1 h2
  exact ⟨h2, fun x hx => okD_one.2 ⟨by have := sz_vals_mem hx; omega, h3 x hx⟩⟩
/-- A table of truths. -/
theorem mfind_bool {kt : Ty} {m k : D} (h : FitM kt .b m) (z : Bool) : ∃ b, (mfind k m.rows).getD (bD z) = bD b := by
  obtain ⟨rows, rfl, h⟩ := h
  show ∃ b, (mfind k rows).getD (bD z) = bD b
  induction rows with
  | nil => exact ⟨z, rfl⟩
  | cons r t ih =>
    obtain ⟨x, v, rfl, _, hv⟩ := h r (List.mem_cons_self ..)
    unfold mfind
    cases dkeyIs k (.v x)
    · exact ih fun r hr => h r (List.mem_cons_of_mem _ hr)
    · haveI : Interp := ⟨fun _ _ => .nil⟩
      obtain ⟨b, rfl⟩ := tyV_b hv
      exact ⟨b, rfl⟩
/-! ### Pairs of a name and a value -/
def pairD (p : ByteArray × Val) : D := .row [sD p.1, iD p.2.kind, bD p.2.flag, bD p.2.neg, sD p.2.dig, iD p.2.exp, uD p.2.bits, sD p.2.text, strsD p.2.names, valsD p.2.list]
abbrev pairsD (l : List (ByteArray × Val)) : D := .lst (l.map pairD)
def D.pairs (d : D) : List (ByteArray × Val) := d.rows.map fun r => ((r.cells.getD 0 .nil).str, (D.row (r.cells.drop 1)).val1)
theorem pairs_pairsD (l : List (ByteArray × Val)) : (pairsD l).pairs = l := by
  unfold D.pairs pairsD
  show (l.map pairD).map _ = l
  rw [List.map_map]
  conv => rhs; rw [← List.map_id l]
  refine List.map_congr_left fun p _ => ?_
  show (p.1, (D.row [iD p.2.kind, bD p.2.flag, bD p.2.neg, sD p.2.dig, iD p.2.exp, uD p.2.bits, sD p.2.text, strsD p.2.names, valsD p.2.list]).val1) = p
  rw [toD_put, val1_toD]
theorem fits_pair {sh : Nat → List CT} {tP tV tS : Nat} (hP : sh tP = .sc .s :: valCT tV tS) (hV : sh tV = valCT tV tS) (hS : sh tS = [.sc .s]) (d : D) (h : fitsW sh d tP) : ∃ p, d = pairD p := by
  obtain ⟨cs, rfl, h'⟩ := fitsW_row h
  rw [hP] at h'
  obtain ⟨d1, r, rfl, g1, h2⟩ := fitsC_cons h'
  obtain ⟨s, rfl⟩ := fits_str g1
  obtain ⟨v, hv⟩ := fits_val hV hS (.row r) (by unfold fitsW; rw [hV]; exact h2)
  rw [toD_row] at hv
  cases hv
  exact ⟨(s, v), rfl⟩
theorem fits_pairs {sh : Nat → List CT} {tP tV tS : Nat} (hP : sh tP = .sc .s :: valCT tV tS) (hV : sh tV = valCT tV tS) (hS : sh tS = [.sc .s]) {d : D} (h : fits sh d (.sl tP)) : ∃ l, d = pairsD l := by
  obtain ⟨l, rfl, hl⟩ := fits_lst h
  obtain ⟨xs, rfl⟩ := rows_of (f := pairD) hl fun d _ hw => fits_pair hP hV hS d hw
  exact ⟨xs, rfl⟩
theorem pat_0 (p : ByteArray × Val) : cellAt (pairD p) 0 = sD p.1 := rfl
theorem pat_1 (p : ByteArray × Val) : cellAt (pairD p) 1 = iD p.2.kind := rfl
theorem pat_2 (p : ByteArray × Val) : cellAt (pairD p) 2 = bD p.2.flag := rfl
theorem pat_3 (p : ByteArray × Val) : cellAt (pairD p) 3 = bD p.2.neg := rfl
theorem pat_4 (p : ByteArray × Val) : cellAt (pairD p) 4 = sD p.2.dig := rfl
theorem pat_5 (p : ByteArray × Val) : cellAt (pairD p) 5 = iD p.2.exp := rfl
theorem pat_6 (p : ByteArray × Val) : cellAt (pairD p) 6 = uD p.2.bits := rfl
theorem pat_7 (p : ByteArray × Val) : cellAt (pairD p) 7 = sD p.2.text := rfl
theorem pat_8 (p : ByteArray × Val) : cellAt (pairD p) 8 = strsD p.2.names := rfl
theorem pat_9 (p : ByteArray × Val) : cellAt (pairD p) 9 = valsD p.2.list := rfl
theorem pair_put (s : ByteArray) (v : Val) : D.row [sD s, iD v.kind, bD v.flag, bD v.neg, sD v.dig, iD v.exp, uD v.bits, sD v.text, strsD v.names, valsD v.list] = pairD (s, v) := rfl
theorem sz_pairD (p : ByteArray × Val) : (pairD p).sz = p.2.toD.sz + 1 := by
  unfold pairD
  rw [toD_row, sz_row, sz_row]
  simp only [D.szL, D.sz]
  omega
theorem lim_pairD (p : ByteArray × Val) : (pairD p).Lim ↔ p.1.size ≤ lim ∧ p.2.toD.Lim := by
  unfold pairD
  rw [toD_row]
  simp only [D.Lim, D.LimL]
/-! ### All of these, for simp -/
theorem den1 : type_of% (And.intro @envOf_zero (And.intro @envOf_succ (And.intro @den_add (And.intro @den_sub (And.intro @den_mul (And.intro @den_quo (And.intro @den_rem @den_ieql))))))) := And.intro @envOf_zero (And.intro @envOf_succ (And.intro @den_add (And.intro @den_sub (And.intro @den_mul (And.intro @den_quo (And.intro @den_rem @den_ieql))))))
theorem den2 : type_of% (And.intro @den_ineq (And.intro @den_lss (And.intro @den_leq (And.intro @den_gtr (And.intro @den_geq (And.intro @den_seql (And.intro @den_sneq @den_slss))))))) := And.intro @den_ineq (And.intro @den_lss (And.intro @den_leq (And.intro @den_gtr (And.intro @den_geq (And.intro @den_seql (And.intro @den_sneq @den_slss))))))
theorem den3 : type_of% (And.intro @den_beql (And.intro @den_bneq (And.intro @den_not (And.intro @den_neg (And.intro @den_conv (And.intro @den_slen (And.intro @den_sat @den_ssub))))))) := And.intro @den_beql (And.intro @den_bneq (And.intro @den_not (And.intro @den_neg (And.intro @den_conv (And.intro @den_slen (And.intro @den_sat @den_ssub))))))
theorem den4 : type_of% (And.intro @den_scat (And.intro @den_len (And.intro @den_at (And.intro @den_cell (And.intro @den_row (And.intro @den_lst (And.intro @den_cat @den_ite))))))) := And.intro @den_scat (And.intro @den_len (And.intro @den_at (And.intro @den_cell (And.intro @den_row (And.intro @den_lst (And.intro @den_cat @den_ite))))))
theorem den5 : type_of% (And.intro @den_and (And.intro @den_mhas (And.intro @den_mget (And.intro @den_mset (And.intro @ofBool_bD (And.intro @bD_true (And.intro @rows_lst @cells_row))))))) := And.intro @den_and (And.intro @den_mhas (And.intro @den_mget (And.intro @den_mset (And.intro @ofBool_bD (And.intro @bD_true (And.intro @rows_lst @cells_row))))))
theorem den6 : type_of% (And.intro @int_v (And.intro @bool_v (And.intro @str_v (And.intro @rows_strs (And.intro @at_0 (And.intro @at_1 (And.intro @at_2 @at_3))))))) := And.intro @int_v (And.intro @bool_v (And.intro @str_v (And.intro @rows_strs (And.intro @at_0 (And.intro @at_1 (And.intro @at_2 @at_3))))))
theorem den7 : type_of% (And.intro @at_4 (And.intro @at_5 (And.intro @at_6 (And.intro @at_7 (And.intro @at_8 (And.intro @toD_put (And.intro @strD_at @ltI_t))))))) := And.intro @at_4 (And.intro @at_5 (And.intro @at_6 (And.intro @at_7 (And.intro @at_8 (And.intro @toD_put (And.intro @strD_at @ltI_t))))))
theorem den8 : type_of% (And.intro @leI_t (And.intro @eqI_t (And.intro @eqS_t (And.intro @ltI_f (And.intro @leI_f (And.intro @eqI_f @eqS_f)))))) := And.intro @leI_t (And.intro @eqI_t (And.intro @eqS_t (And.intro @ltI_f (And.intro @leI_f (And.intro @eqI_f @eqS_f)))))
end Go.Ab
