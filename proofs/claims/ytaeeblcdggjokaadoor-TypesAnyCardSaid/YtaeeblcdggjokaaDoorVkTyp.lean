/- Types (a kind, names, parts) as Lean's own type; what fits, how large they are. -/
import Derived.Test.YtaeeblcdggjokaaDoorVkKit
namespace Go.Ab
set_option linter.unusedVariables false
set_option linter.unusedSimpArgs false
set_option linter.unusedSectionVars false
set_option linter.constructorNameAsVariable false
open Go
set_option maxRecDepth 10000
inductive Typ where
  | mk (kind : Int) (names : List ByteArray) (list : List Typ)
instance : Inhabited Typ := ⟨.mk 0 [] []⟩
namespace Typ
def kind : Typ → Int | .mk k _ _ => k
def names : Typ → List ByteArray | .mk _ n _ => n
def list : Typ → List Typ | .mk _ _ l => l
end Typ
mutual
def Typ.toD : Typ → D
  | .mk k ns l => .row [iD k, strsD ns, .lst (Typ.toDs l)]
def Typ.toDs : List Typ → List D
  | [] => []
  | v :: r => v.toD :: Typ.toDs r
end
theorem toDsT_map : ∀ (l : List Typ), Typ.toDs l = l.map Typ.toD
  | [] => by unfold Typ.toDs; rfl
  | v :: r => by unfold Typ.toDs; rw [toDsT_map r]; rfl
abbrev typsD (l : List Typ) : D := .lst (l.map Typ.toD)
theorem toD_rowT (v : Typ) : v.toD = .row [iD v.kind, strsD v.names, typsD v.list] := by
  cases v with
  | mk k ns l => unfold Typ.toD; rw [toDsT_map]; rfl
theorem typ_ind {p : Typ → Prop} (h : ∀ v, (∀ x, x ∈ v.list → p x) → p v) : ∀ v, p v := by
  intro v
  have key : ∀ (n : Nat) (v : Typ), SizeOf.sizeOf v < n → p v := by
    intro n
    induction n with
    | zero => intro v hv; omega
    | succ n ih =>
      intro v hv
      refine h v fun x hx => ih x ?_
      have := List.sizeOf_lt_of_mem hx
      cases v with
      | mk k ns l =>
        rw [Typ.mk.sizeOf_spec] at hv
        show SizeOf.sizeOf x < n
        have : SizeOf.sizeOf x < SizeOf.sizeOf l := this
        omega
  exact key _ v (Nat.lt_succ_self _)
mutual
def D.typ1 : D → Typ
  | .row [k, ns, l] => .mk k.int ns.strs (D.typs l)
  | _ => default
def D.typs : D → List Typ
  | .lst l => D.typsL l
  | _ => []
def D.typsL : List D → List Typ
  | [] => []
  | d :: r => d.typ1 :: D.typsL r
end
theorem typsL_map : ∀ (l : List D), D.typsL l = l.map D.typ1
  | [] => by unfold D.typsL; rfl
  | v :: r => by unfold D.typsL; rw [typsL_map r]; rfl
@[simp] theorem typ1_toD (v : Typ) : v.toD.typ1 = v := by
  induction v using typ_ind with
  | h v ih =>
    rw [toD_rowT]
    unfold D.typ1
    show Typ.mk v.kind (strsD v.names).strs (D.typs (typsD v.list)) = v
    rw [strs_strsD]
    unfold D.typs
    rw [typsL_map, List.map_map]
    have : v.list.map (D.typ1 ∘ Typ.toD) = v.list := by
      conv => rhs; rw [← List.map_id v.list]
      exact List.map_congr_left fun x hx => ih x hx
    rw [this]
    cases v; rfl
@[simp] theorem typs_typsD (l : List Typ) : (typsD l).typs = l := by
  unfold D.typs
  rw [typsL_map, List.map_map]
  conv => rhs; rw [← List.map_id l]
  exact List.map_congr_left fun x _ => typ1_toD x
section
variable {sh : Nat → List CT}
def typCT (tT tS : Nat) : List CT := [.sc (.i .i64), .sl tS, .sl tT]
theorem fits_typ {tT tS : Nat} (hT : sh tT = typCT tT tS) (hS : sh tS = [.sc .s]) : ∀ (d : D), fitsW sh d tT → ∃ v : Typ, d = v.toD := by
  have key : ∀ (n : Nat) (d : D), d.sz < n → fitsW sh d tT → ∃ v : Typ, d = v.toD := by
    intro n
    induction n with
    | zero => intro d hd; omega
    | succ n ih =>
      intro d hd h
      obtain ⟨cs, rfl, h'⟩ := fitsW_row h
      clear h
      have h := h'
      rw [hT] at h
      obtain ⟨d1, r, rfl, g1, h⟩ := fitsC_cons h
      obtain ⟨d8, r, rfl, g8, h⟩ := fitsC_cons h
      obtain ⟨d9, r, rfl, g9, h⟩ := fitsC_cons h
      obtain rfl := fitsC_nil h
      obtain ⟨z1, rfl⟩ := fits_int g1
      obtain ⟨ns, rfl⟩ := fits_strs hS g8
      obtain ⟨l, rfl, hl⟩ := fits_lst g9
      obtain ⟨xs, rfl⟩ := rows_of (f := Typ.toD) hl fun d hdl hw => ih d (by
        have := szL_mem hdl
        simp only [D.sz, D.szL] at hd
        omega) hw
      refine ⟨.mk z1 ns xs, ?_⟩
      rw [toD_rowT]
      rfl
  exact fun d h => key _ d (Nat.lt_succ_self _) h
theorem fits_typs {tT tS : Nat} (hT : sh tT = typCT tT tS) (hS : sh tS = [.sc .s]) {d : D} (h : fits sh d (.sl tT)) : ∃ l : List Typ, d = typsD l := by
  obtain ⟨l, rfl, hl⟩ := fits_lst h
  obtain ⟨xs, rfl⟩ := rows_of (f := Typ.toD) hl fun d _ hw => fits_typ hT hS d hw
  exact ⟨xs, rfl⟩
end
theorem sz_toDT (v : Typ) : v.toD.sz = 2 + (strsD v.names).sz + (typsD v.list).sz := by
  rw [toD_rowT]
  simp only [D.sz, D.szL]
  omega
theorem lim_toDT (v : Typ) : v.toD.Lim ↔ (strsD v.names).Lim ∧ (typsD v.list).Lim := by
  rw [toD_rowT]
  simp only [D.Lim, D.LimL, and_true, true_and]
theorem lim_typs {l : List Typ} : (typsD l).Lim ↔ l.length ≤ lim ∧ ∀ x, x ∈ l → x.toD.Lim := by
  rw [lim_lst, List.length_map, limL_map]
theorem sz_typs_mem {l : List Typ} {x : Typ} (h : x ∈ l) : x.toD.sz < (typsD l).sz := by
  have := szL_mem (List.mem_map_of_mem (f := Typ.toD) h)
  rw [sz_lst]
  omega
theorem tat_0 (v : Typ) : cellAt v.toD 0 = iD v.kind := by rw [toD_rowT]; rfl
theorem tat_1 (v : Typ) : cellAt v.toD 1 = strsD v.names := by rw [toD_rowT]; rfl
theorem tat_2 (v : Typ) : cellAt v.toD 2 = typsD v.list := by rw [toD_rowT]; rfl
theorem toDT_put (v : Typ) : D.row [iD v.kind, strsD v.names, typsD v.list] = v.toD := (toD_rowT v).symm
theorem okD_listT {n : Nat} {v : Typ} (h : okD (n + 1) [v.toD]) : v.list.length ≤ lim ∧ v.names.length ≤ lim ∧ (∀ x, x ∈ v.list → okD n [x.toD]) ∧ okD n [typsD v.list, .row []] ∧ okD n [strsD v.names, .row []] ∧ okD n [strsD v.names] := by
  rw [okD_one, sz_toDT, lim_toDT] at h
  obtain ⟨h1, h2, h3⟩ := h
  have p1 := D.sz_pos (strsD v.names)
  have p2 := D.sz_pos (typsD v.list)
  exact ⟨(lim_typs.1 h3).1, (lim_strs.1 h2).1, fun x hx => okD_one.2 ⟨by have := sz_typs_mem hx; omega, (lim_typs.1 h3).2 x hx⟩, okD_two.2 ⟨by rw [sz_nilrow]; omega, h3, lim_nilrow⟩, okD_two.2 ⟨by rw [sz_nilrow]; omega, h2, lim_nilrow⟩, okD_one.2 ⟨by omega, h2⟩⟩
theorem okD_typs {n : Nat} {l : List Typ} {d : D} (h : okD n [typsD l, d]) : l.length ≤ lim ∧ ∀ x, x ∈ l → okD n [x.toD] := by
  rw [okD_two] at h
  obtain ⟨h1, h2, _⟩ := h
  obtain ⟨h2, h3⟩ := lim_typs.1 h2
  exact ⟨h2, fun x hx => okD_one.2 ⟨by have := sz_typs_mem hx; omega, h3 x hx⟩⟩
end Go.Ab
