/- Contracts of package types: has, Has, sub, Sub. -/
import Derived.Test.YtaeeblcdggjokaaDoorVkT1
import Derived.Test.YtaeeblcdggjokaaDoorVkO1
namespace Go.Proofs.YtaeeblcdggjokaaDoor.Vk
open Go Go.Ab Go.RowKit
set_option maxRecDepth 100000
set_option linter.unusedVariables false
set_option linter.unusedSimpArgs false
set_option linter.unusedSectionVars false
set_option linter.constructorNameAsVariable false
/-! ### Formed types and values -/
theorem formedTL_all : ∀ (l : List Typ) (i : Nat), formedTL l i < 0 → ∀ x, x ∈ l → formedT x = true
  | [], _, _, x, hx => by cases hx
  | v :: r, i, h, x, hx => by
    rw [formedTL] at h
    cases hv : formedT v with
    | false => rw [hv] at h; simp only [Bool.false_eq_true, if_false] at h; omega
    | true =>
      rw [hv, if_pos rfl] at h
      rcases List.mem_cons.1 hx with rfl | hx
      · exact hv
      · exact formedTL_all r (i + 1) h x hx
theorem formedT_parts {t : Typ} (h : formedT t = true) : (∀ x, x ∈ t.list → formedT x = true) ∧ (t.kind = 9 → t.list.length = 1) ∧ (t.kind = 10 ∨ t.kind = 11 → t.names.length = t.list.length ∧ t.names.Nodup) ∧ 1 ≤ t.kind ∧ t.kind ≤ 11 ∧ (t.kind ≤ 8 → t.names = [] ∧ t.list = []) := by
  cases t with
  | mk k ns l =>
    obtain ⟨f1, f2, f3⟩ := formedT_iff k ns l
    simp only [Typ.kind, Typ.names, Typ.list]
    by_cases c1 : k = 9
    · obtain ⟨h1, h2, h3⟩ := (f1 c1).1 h
      exact ⟨formedTL_all l 0 h3, fun _ => h2, fun h => by omega, by omega, by omega, fun h => by omega⟩
    by_cases c2 : k = 10 ∨ k = 11
    · obtain ⟨h1, h2, h3, h4⟩ := (f2 c2).1 h
      exact ⟨formedTL_all l 0 h4, fun h => absurd h c1, fun _ => ⟨h1, h2⟩, by omega, by omega, fun h => by omega⟩
    · obtain ⟨h1, h2, h3, h4⟩ := (f3 c1 (by omega) (by omega)).1 h
      have e1 : ns = [] := List.length_eq_zero_iff.1 h3
      have e2 : l = [] := List.length_eq_zero_iff.1 h4
      subst e1 e2
      exact ⟨fun x hx => (by cases hx), fun h => absurd h c1, fun h => absurd h c2, h1, by omega, fun _ => ⟨rfl, rfl⟩⟩
theorem formedL_all2 : ∀ (l : List Val) (i : Nat), formedL l i < 0 → ∀ x, x ∈ l → formedV x = true
  | [], _, _, x, hx => by cases hx
  | v :: r, i, h, x, hx => by
    rw [formedL] at h
    cases hv : formedV v with
    | false => rw [hv] at h; simp only [Bool.false_eq_true, if_false] at h; omega
    | true =>
      rw [hv, if_pos rfl] at h
      rcases List.mem_cons.1 hx with rfl | hx
      · exact hv
      · exact formedL_all2 r (i + 1) h x hx
theorem formedV_parts {v : Val} (h : formedV v = true) : (∀ x, x ∈ v.list → formedV x = true) ∧ (v.kind = 8 → v.names.length = v.list.length) ∧ (v.kind = 9 → v.list.length = 1) := by
  cases v with
  | mk k f ng d e b t ns l =>
    obtain ⟨k1, k2, k3, k4, k5, k6, k7, k8, k9, k0⟩ := formedV_iff k f ng d e b t ns l
    simp only [Val.list, Val.names, Val.kind]
    have z : l.length = 0 → ∀ x, x ∈ l → formedV x = true := fun h x hx => by rw [List.length_eq_zero_iff.1 h] at hx; cases hx
    have a := formedL_all2 l 0
    by_cases e1 : k = 1
    · obtain ⟨_, _, _, _, _, g⟩ := (k1 e1).1 h; exact ⟨z g, fun h => by omega, fun h => by omega⟩
    by_cases e2 : k = 2
    · obtain ⟨_, _, _, _, g⟩ := (k2 e2).1 h; exact ⟨z g, fun h => by omega, fun h => by omega⟩
    by_cases e3 : k = 3
    · obtain ⟨n, _, _, _, _, g⟩ := (k3 e3).1 h; exact ⟨z g, fun h => by omega, fun h => by omega⟩
    by_cases e4 : k = 4
    · obtain ⟨_, _, _, _, g⟩ := (k4 e4).1 h; exact ⟨z g, fun h => by omega, fun h => by omega⟩
    by_cases e5 : k = 5
    · obtain ⟨_, _, _, _, _, g⟩ := (k5 e5).1 h; exact ⟨z g, fun h => by omega, fun h => by omega⟩
    by_cases e6 : k = 6
    · obtain ⟨_, _, _, _, g⟩ := (k6 e6).1 h; exact ⟨z g, fun h => by omega, fun h => by omega⟩
    by_cases e7 : k = 7
    · obtain ⟨_, _, _, _, _, g⟩ := (k7 e7).1 h; exact ⟨a g, fun h => by omega, fun h => by omega⟩
    by_cases e8 : k = 8
    · obtain ⟨n, _, _, _, _, _, g⟩ := (k8 e8).1 h; exact ⟨a g, fun _ => n, fun h => by omega⟩
    by_cases e9 : k = 9
    · obtain ⟨n, _, _, _, _, _, g⟩ := (k9 e9).1 h; exact ⟨a g, fun h => by omega, fun _ => n⟩
    · rw [k0 e1 e2 e3 e4 e5 e6 e7 e8 e9] at h; cases h
/-! ### Heights, and what is defined by them -/
theorem hgtT_mem : ∀ {l : List Typ} {x : Typ}, x ∈ l → hgtT x ≤ hgtTs l
  | v :: r, x, h => by
    rw [hgtTs]
    rcases List.mem_cons.1 h with rfl | h
    · omega
    · have := hgtT_mem h; omega
theorem hgtT_eq (v : Typ) : hgtT v = hgtTs v.list + 1 := by cases v; rw [hgtT]; rfl
theorem optB_congr {α : Type} {o : Option α} {f g : α → Bool} (h : ∀ x, o = some x → f x = g x) : optB o f = optB o g := by
  cases o with
  | none => rfl
  | some x => exact h x rfl
theorem optB_some {α : Type} {x : α} {f : α → Bool} : optB (some x) f = f x := rfl
theorem hasF_more : ∀ (n m : Nat) (t : Typ) (v : Val), hgtT t ≤ n → hgtT t ≤ m → hasF n t v = hasF m t v
  | 0, _, t, v, h, _ => by rw [hgtT_eq] at h; omega
  | _ + 1, 0, t, v, _, h => by rw [hgtT_eq] at h; omega
  | n + 1, m + 1, t, v, h, k => by
    rw [hgtT_eq] at h k
    have e : ∀ x, x ∈ t.list → ∀ y, hasF n x y = hasF m x y := fun x hx y => hasF_more n m x y (by have := hgtT_mem hx; omega) (by have := hgtT_mem hx; omega)
    have e1 : (optB t.list[0]? fun x => v.list.all (hasF n x)) = optB t.list[0]? fun x => v.list.all (hasF m x) := optB_congr fun x hx => by rw [funext fun y => e x (List.mem_of_getElem? hx) y]
    have e2 : ((t.list.zip v.list).all fun p => hasF n p.1 p.2) = (t.list.zip v.list).all fun p => hasF m p.1 p.2 := by
      rw [Bool.eq_iff_iff, List.all_eq_true, List.all_eq_true]
      exact ⟨fun h p hp => by rw [← e p.1 (List.of_mem_zip hp).1]; exact h p hp, fun h p hp => by rw [e p.1 (List.of_mem_zip hp).1]; exact h p hp⟩
    have e3 : (optB t.list[(idxI v.text t.names 0).toNat]? fun x => optB v.list[0]? (hasF n x)) = optB t.list[(idxI v.text t.names 0).toNat]? fun x => optB v.list[0]? (hasF m x) := optB_congr fun x hx => by rw [funext fun y => e x (List.mem_of_getElem? hx) y]
    rw [hasF, hasF, e1, e2, e3]
theorem hasT_eq (t : Typ) (v : Val) : hasT t v =
    if t.kind = 1 then true
    else if t.kind = 9 then decide (v.kind = 7) && optB t.list[0]? fun x => v.list.all (hasT x)
    else if t.kind = 10 then decide (v.kind = 8) && decide (v.names = t.names) && (t.list.zip v.list).all fun p => hasT p.1 p.2
    else if t.kind = 11 then decide (v.kind = 9) && (decide (0 ≤ idxI v.text t.names 0) && optB t.list[(idxI v.text t.names 0).toNat]? fun x => optB v.list[0]? (hasT x))
    else decide (v.kind = kindsT t.kind) && (decide (t.kind ≠ 5) || decide (v.exp ≥ 0)) := by
  have e : ∀ x, x ∈ t.list → ∀ y, hasF (hgtTs t.list) x y = hasT x y := fun x hx y => hasF_more _ _ _ _ (hgtT_mem hx) (Nat.le_refl _)
  have e1 : (optB t.list[0]? fun x => v.list.all (hasF (hgtTs t.list) x)) = optB t.list[0]? fun x => v.list.all (hasT x) := optB_congr fun x hx => by rw [funext fun y => e x (List.mem_of_getElem? hx) y]
  have e2 : ((t.list.zip v.list).all fun p => hasF (hgtTs t.list) p.1 p.2) = (t.list.zip v.list).all fun p => hasT p.1 p.2 := by
    rw [Bool.eq_iff_iff, List.all_eq_true, List.all_eq_true]
    exact ⟨fun h p hp => by rw [← e p.1 (List.of_mem_zip hp).1]; exact h p hp, fun h p hp => by rw [e p.1 (List.of_mem_zip hp).1]; exact h p hp⟩
  have e3 : (optB t.list[(idxI v.text t.names 0).toNat]? fun x => optB v.list[0]? (hasF (hgtTs t.list) x)) = optB t.list[(idxI v.text t.names 0).toNat]? fun x => optB v.list[0]? (hasT x) := optB_congr fun x hx => by rw [funext fun y => e x (List.mem_of_getElem? hx) y]
  show hasF (hgtT t) t v = _
  rw [hgtT_eq, hasF, e1, e2, e3]
theorem subF_more : ∀ (n m : Nat) (a b : Typ), hgtT a ≤ n → hgtT a ≤ m → subF n a b = subF m a b
  | 0, _, t, v, h, _ => by rw [hgtT_eq] at h; omega
  | _ + 1, 0, t, v, _, h => by rw [hgtT_eq] at h; omega
  | n + 1, m + 1, a, b, h, k => by
    rw [hgtT_eq] at h k
    have e : ∀ x, x ∈ a.list → ∀ y, subF n x y = subF m x y := fun x hx y => subF_more n m x y (by have := hgtT_mem hx; omega) (by have := hgtT_mem hx; omega)
    have e1 : ((a.names.zip a.list).all fun p => decide (0 ≤ idxI p.1 b.names 0) && optB b.list[(idxI p.1 b.names 0).toNat]? (subF n p.2)) = (a.names.zip a.list).all fun p => decide (0 ≤ idxI p.1 b.names 0) && optB b.list[(idxI p.1 b.names 0).toNat]? (subF m p.2) := by
      rw [Bool.eq_iff_iff, List.all_eq_true, List.all_eq_true]
      exact ⟨fun h p hp => by rw [← funext (e p.2 (List.of_mem_zip hp).2)]; exact h p hp, fun h p hp => by rw [funext (e p.2 (List.of_mem_zip hp).2)]; exact h p hp⟩
    have e2 : ((a.list.zip b.list).all fun p => subF n p.1 p.2) = (a.list.zip b.list).all fun p => subF m p.1 p.2 := by
      rw [Bool.eq_iff_iff, List.all_eq_true, List.all_eq_true]
      exact ⟨fun h p hp => by rw [← e p.1 (List.of_mem_zip hp).1]; exact h p hp, fun h p hp => by rw [e p.1 (List.of_mem_zip hp).1]; exact h p hp⟩
    rw [subF, subF, e1, e2]
theorem subT_eq (a b : Typ) : subT a b =
    if b.kind = 1 ∨ (a.kind = 5 ∧ b.kind = 4) then true
    else if a.kind ≠ b.kind then false
    else if a.kind = 11 then (a.names.zip a.list).all fun p => decide (0 ≤ idxI p.1 b.names 0) && optB b.list[(idxI p.1 b.names 0).toNat]? (subT p.2)
    else decide (a.names = b.names) && (decide (a.list.length = b.list.length) && (a.list.zip b.list).all fun p => subT p.1 p.2) := by
  have e : ∀ x, x ∈ a.list → ∀ y, subF (hgtTs a.list) x y = subT x y := fun x hx y => subF_more _ _ _ _ (hgtT_mem hx) (Nat.le_refl _)
  have e1 : ((a.names.zip a.list).all fun p => decide (0 ≤ idxI p.1 b.names 0) && optB b.list[(idxI p.1 b.names 0).toNat]? (subF (hgtTs a.list) p.2)) = (a.names.zip a.list).all fun p => decide (0 ≤ idxI p.1 b.names 0) && optB b.list[(idxI p.1 b.names 0).toNat]? (subT p.2) := by
    rw [Bool.eq_iff_iff, List.all_eq_true, List.all_eq_true]
    exact ⟨fun h p hp => by rw [← funext (e p.2 (List.of_mem_zip hp).2)]; exact h p hp, fun h p hp => by rw [funext (e p.2 (List.of_mem_zip hp).2)]; exact h p hp⟩
  have e2 : ((a.list.zip b.list).all fun p => subF (hgtTs a.list) p.1 p.2) = (a.list.zip b.list).all fun p => subT p.1 p.2 := by
    rw [Bool.eq_iff_iff, List.all_eq_true, List.all_eq_true]
    exact ⟨fun h p hp => by rw [← e p.1 (List.of_mem_zip hp).1]; exact h p hp, fun h p hp => by rw [e p.1 (List.of_mem_zip hp).1]; exact h p hp⟩
  show subF (hgtT a) a b = _
  rw [hgtT_eq, subF, e1, e2]
/-! ### Contracts -/
/-- slices.Index[[]string,string]: func 60, params [23, 9], ntmps 19. -/
-- head 0 of loop 0: [t0 .sh (.cell (.sl 9)), t1 .sh (.cell (.sc .s)), t7 .sh (.cell (.sc (.i .i64))), t8 .sh (.cell (.sc (.i .i64)))]
def heads_sindex : List Hd := [⟨0, [.sh (.cell (.sl 9)), .sh (.cell (.sc .s)), .any, .any, .any, .any, .any, .sh (.cell (.sc (.i .i64))), .sh (.cell (.sc (.i .i64))), .any, .any, .any, .any, .any, .any, .any, .any, .any, .any]⟩]
def entry_sindex : Tree :=
  (.leaf (.go 0 [(.var 0), (.var 1), (.pr .len [(.var 0)]), (.lit (.int .i64 0))]))
def head_sindex_0 : Tree :=
  (.ite (.pr (.icmp .lss) [(.var 3), (.var 2)])
    (.giv (.pr (.icmp .leq) [(.lit (.int .i64 0)), (.var 3)])
      (.giv (.pr (.icmp .lss) [(.var 3), (.pr .len [(.var 0)])])
        (.ite (.pr (.scmp .eql) [(.var 1), (.pr (.cell 0) [(.pr .at [(.var 0), (.var 3)])])])
          (.leaf (.ret (.var 3)))
          (.leaf (.go 0 [(.var 0), (.var 1), (.var 2), (.pr (.iop .add .i64) [(.var 3), (.lit (.int .i64 1))])])))))
    (.leaf (.ret (.lit (.int .i64 (-1))))))
def trees_sindex : List Tree := [head_sindex_0]
noncomputable def deps_sindex : List Sig := []
theorem ok_sindex : check q_sindex deps_sindex heads_sindex entry_sindex trees_sindex = true := by kernel_rfl
theorem strs_str {d : List D} (h : FitL tb [.cell (.sl 9), .cell (.sc .s)] d) : ∃ (l : List ByteArray) (s : ByteArray), d = [strsD l, sD s] := by
  match d, h with
  | [a, b], ⟨h1, h2, _⟩ =>
    obtain ⟨l, rfl⟩ := fits_strs shS h1
    obtain ⟨s, rfl⟩ := fits_str h2
    exact ⟨l, s, rfl⟩
theorem sindex_ok (n : Nat) : @Ok (I n) q_sindex (okD n) := by
  letI := I n
  refine fn_ok (hphi n) ok_sindex (by intro q hq; simp only [deps_sindex, List.not_mem_nil] at hq)
    (fun _ d ds => ∃ (l : List ByteArray) (s : ByteArray) (i : Nat), ds = [strsD l, sD s, iD l.length, iD i] ∧ i ≤ l.length ∧ l.length ≤ lim ∧ d = iD (idxI s (l.drop i) i))
    (fun _ ds => (ds.getD 0 .nil).rows.length - (ds.getD 3 .nil).int.toNat) ?_ ?_
  · intro ds hf hp
    obtain ⟨l, s, rfl⟩ := strs_str hf
    have h2 : l.length ≤ lim := (lim_strs.1 (okD_two.1 hp).2.1).1
    refine ⟨l, s, 0, by simp only [Tree.holds, Out.den, E.den, E.denL, den1, den2, den3, den4, den5, den6, den7, den8, Bool.not_eq_true', Bool.not_eq_false', List.getD_cons_zero, List.getD_cons_succ, true_and, and_true, List.length_map, phi_1000, Int.ofNat_zero], Nat.zero_le _, h2, ?_⟩
    simp only [q_sindex, phi_sindex, List.drop_zero]
  · rintro j h t d ds hj ht hf ⟨l, s, i, rfl, hi, hl, rfl⟩
    obtain rfl : t = head_sindex_0 := by
      match j, ht with
      | 0, ht => exact (Option.some.inj ht).symm
    by_cases hlt : i < l.length
    · obtain ⟨x, hx, hxm, hd⟩ := drop_get hlt
      simp only [head_sindex_0, Tree.holds, Out.den, E.den, E.denL, den1, den2, den3, den4, den5, den6, den7, den8, Bool.not_eq_true', Bool.not_eq_false', List.getD_cons_zero, List.getD_cons_succ, true_and, and_true, List.length_map, phi_1000, rowAt_map hx, wrap_succ hlt hl]
      refine ⟨fun _ => ⟨by omega, by omega, fun hb => ?_, fun hb => ⟨⟨l, s, i + 1, rfl, hlt, hl, ?_⟩, by omega⟩⟩, fun h => by omega⟩
      · rw [hd, idxI, if_pos hb]
      · rw [hd, idxI, if_neg hb]
    · simp only [head_sindex_0, Tree.holds, Out.den, E.den, E.denL, den1, den2, den3, den4, den5, den6, den7, den8, Bool.not_eq_true', Bool.not_eq_false', List.getD_cons_zero, List.getD_cons_succ, true_and, and_true, List.length_map, phi_1000]
      refine ⟨fun h => by omega, fun _ => ?_⟩
      rw [List.drop_eq_nil_of_le (by omega), idxI]
theorem idxI_lt (s : ByteArray) : ∀ (l : List ByteArray) (i : Nat), 0 ≤ idxI s l i → (i : Int) ≤ idxI s l i ∧ (idxI s l i).toNat < i + l.length
  | [], i, h => by rw [idxI] at h; omega
  | x :: r, i, h => by
    rw [idxI] at h ⊢
    split
    · rw [List.length_cons]; omega
    · rename_i hne
      rw [if_neg hne] at h
      have := idxI_lt s r (i + 1) h
      rw [List.length_cons]; omega
theorem typ_val {d : List D} (h : FitL tb [.row 26, .row 41] d) : ∃ (t : Typ) (v : Val), d = [t.toD, v.toD] := by
  match d, h with
  | [a, b], ⟨⟨cs, e, hf⟩, ⟨cs', e', hf'⟩, _⟩ =>
    subst e e'
    obtain ⟨v, hv⟩ := fits_typ shT shS (.row cs) (by unfold fitsW; exact hf)
    obtain ⟨v', hv'⟩ := fits_val shV shS (.row cs') (by unfold fitsW; exact hf')
    exact ⟨v, v', by rw [hv, hv']⟩
theorem two_typ {d : List D} (h : FitL tb [.row 26, .row 26] d) : ∃ (a b : Typ), d = [a.toD, b.toD] := by
  match d, h with
  | [a, b], ⟨⟨cs, e, hf⟩, ⟨cs', e', hf'⟩, _⟩ =>
    subst e e'
    obtain ⟨v, hv⟩ := fits_typ shT shS (.row cs) (by unfold fitsW; exact hf)
    obtain ⟨v', hv'⟩ := fits_typ shT shS (.row cs') (by unfold fitsW; exact hf')
    exact ⟨v, v', by rw [hv, hv']⟩
/-- slices.IndexFunc[[]calamus/api.Value,calamus/api.Value]: func 81, params [39, 42], ntmps 19. -/
-- head 0 of loop 0: [t0 .sh (.cell (.sl 41)), t1 .sh (.fn 59 [26]), t7 .sh (.cell (.sc (.i .i64))), t8 .sh (.cell (.sc (.i .i64)))]
def heads_tixhas : List Hd := [⟨0, [.sh (.cell (.sl 41)), .sh (.fn 59 [26]), .any, .any, .any, .any, .any, .sh (.cell (.sc (.i .i64))), .sh (.cell (.sc (.i .i64))), .any, .any, .any, .any, .any, .any, .any, .any, .any, .any]⟩]
def entry_tixhas : Tree :=
  (.leaf (.go 0 [(.var 0), (.pr .row [(.pr (.cell 0) [(.var 1)])]), (.pr .len [(.var 0)]), (.lit (.int .i64 0))]))
def head_tixhas_0 : Tree :=
  (.ite (.pr (.icmp .lss) [(.var 3), (.var 2)])
    (.giv (.pr (.icmp .leq) [(.lit (.int .i64 0)), (.var 3)])
      (.giv (.pr (.icmp .lss) [(.var 3), (.pr .len [(.var 0)])])
        (.giv (.pr (.icmp .lss) [(.lit (.int .i64 0)), (.pr .len [(.pr (.cell 2) [(.pr (.cell 0) [(.var 1)])])])])
          (.giv (.app 1000 [(.pr .row [(.pr (.cell 0) [(.pr .at [(.pr (.cell 2) [(.pr (.cell 0) [(.var 1)])]), (.lit (.int .i64 0))])]), (.pr (.cell 1) [(.pr .at [(.pr (.cell 2) [(.pr (.cell 0) [(.var 1)])]), (.lit (.int .i64 0))])]), (.pr (.cell 2) [(.pr .at [(.pr (.cell 2) [(.pr (.cell 0) [(.var 1)])]), (.lit (.int .i64 0))])])]), (.pr .row [(.pr (.cell 0) [(.pr .at [(.var 0), (.var 3)])]), (.pr (.cell 1) [(.pr .at [(.var 0), (.var 3)])]), (.pr (.cell 2) [(.pr .at [(.var 0), (.var 3)])]), (.pr (.cell 3) [(.pr .at [(.var 0), (.var 3)])]), (.pr (.cell 4) [(.pr .at [(.var 0), (.var 3)])]), (.pr (.cell 5) [(.pr .at [(.var 0), (.var 3)])]), (.pr (.cell 6) [(.pr .at [(.var 0), (.var 3)])]), (.pr (.cell 7) [(.pr .at [(.var 0), (.var 3)])]), (.pr (.cell 8) [(.pr .at [(.var 0), (.var 3)])])])])
            (.giv (.app 2064 [(.pr .row [(.pr (.cell 0) [(.pr .at [(.pr (.cell 2) [(.pr (.cell 0) [(.var 1)])]), (.lit (.int .i64 0))])]), (.pr (.cell 1) [(.pr .at [(.pr (.cell 2) [(.pr (.cell 0) [(.var 1)])]), (.lit (.int .i64 0))])]), (.pr (.cell 2) [(.pr .at [(.pr (.cell 2) [(.pr (.cell 0) [(.var 1)])]), (.lit (.int .i64 0))])])]), (.pr .row [(.pr (.cell 0) [(.pr .at [(.var 0), (.var 3)])]), (.pr (.cell 1) [(.pr .at [(.var 0), (.var 3)])]), (.pr (.cell 2) [(.pr .at [(.var 0), (.var 3)])]), (.pr (.cell 3) [(.pr .at [(.var 0), (.var 3)])]), (.pr (.cell 4) [(.pr .at [(.var 0), (.var 3)])]), (.pr (.cell 5) [(.pr .at [(.var 0), (.var 3)])]), (.pr (.cell 6) [(.pr .at [(.var 0), (.var 3)])]), (.pr (.cell 7) [(.pr .at [(.var 0), (.var 3)])]), (.pr (.cell 8) [(.pr .at [(.var 0), (.var 3)])])])])
              (.ite (.app 64 [(.pr .row [(.pr (.cell 0) [(.pr .at [(.pr (.cell 2) [(.pr (.cell 0) [(.var 1)])]), (.lit (.int .i64 0))])]), (.pr (.cell 1) [(.pr .at [(.pr (.cell 2) [(.pr (.cell 0) [(.var 1)])]), (.lit (.int .i64 0))])]), (.pr (.cell 2) [(.pr .at [(.pr (.cell 2) [(.pr (.cell 0) [(.var 1)])]), (.lit (.int .i64 0))])])]), (.pr .row [(.pr (.cell 0) [(.pr .at [(.var 0), (.var 3)])]), (.pr (.cell 1) [(.pr .at [(.var 0), (.var 3)])]), (.pr (.cell 2) [(.pr .at [(.var 0), (.var 3)])]), (.pr (.cell 3) [(.pr .at [(.var 0), (.var 3)])]), (.pr (.cell 4) [(.pr .at [(.var 0), (.var 3)])]), (.pr (.cell 5) [(.pr .at [(.var 0), (.var 3)])]), (.pr (.cell 6) [(.pr .at [(.var 0), (.var 3)])]), (.pr (.cell 7) [(.pr .at [(.var 0), (.var 3)])]), (.pr (.cell 8) [(.pr .at [(.var 0), (.var 3)])])])])
                (.leaf (.go 0 [(.var 0), (.pr .row [(.pr (.cell 0) [(.var 1)])]), (.var 2), (.pr (.iop .add .i64) [(.var 3), (.lit (.int .i64 1))])]))
                (.leaf (.ret (.var 3)))))))))
    (.leaf (.ret (.lit (.int .i64 (-1))))))
def trees_tixhas : List Tree := [head_tixhas_0]
noncomputable def deps_tixhas : List Sig := [q_thas]
theorem ok_tixhas : check q_tixhas deps_tixhas heads_tixhas entry_tixhas trees_tixhas = true := by kernel_rfl
theorem tixhas_ok (n : Nat) (ih : @Ok (I n) q_thas (@okS (I n) n q_thas.g)) : @Ok (I n) q_tixhas (@okS (I n) n q_tixhas.g) := by
  letI := I n
  refine fn_okS (hphi n) ok_tixhas (by intro q hq; simp only [deps_tixhas, List.mem_singleton] at hq; subst hq; exact ih)
    (fun _ d ds => ∃ (l : List Val) (t x : Typ) (i : Nat), ds = [valsD l, .row [t.toD], iD l.length, iD i] ∧ t.list = [x] ∧ formedT x = true ∧ i ≤ l.length ∧ l.length ≤ lim ∧ (∀ y, y ∈ l → formedV y = true ∧ okD n [x.toD, y.toD]) ∧ d = iD (ixL (fun v => !hasT x v) (l.drop i) i))
    (fun _ ds => (ds.getD 0 .nil).rows.length - (ds.getD 3 .nil).int.toNat) ?_ ?_
  · intro ds hf hp
    obtain ⟨l, t, rfl⟩ : ∃ (l : List Val) (t : Typ), ds = [valsD l, .row [t.toD]] := by
      match ds, hf with
      | [a, b], ⟨h1, ⟨us, e, h2⟩, _⟩ =>
        subst e
        obtain ⟨l, rfl⟩ := fits_vals shV shS h1
        match us, h2 with
        | [u], ⟨⟨cs, e', h3⟩, _⟩ =>
          subst e'
          obtain ⟨v, hv⟩ := fits_typ shT shS (.row cs) (by unfold fitsW; exact h3)
          exact ⟨l, v, by rw [hv]⟩
    obtain ⟨g1, g2, g3⟩ := (pre_tixhas n l t).1 (hp.2 rfl)
    obtain ⟨x, hx⟩ := List.length_eq_one_iff.1 g2
    obtain ⟨h1, h2, h3⟩ := okD_two.1 hp.1
    obtain ⟨h4, h5⟩ := lim_vals.1 h2
    have hxm : x ∈ t.list := by rw [hx]; exact List.mem_singleton.2 rfl
    have e1 := sz_toDT t
    have e2 := sz_typs_mem hxm
    have h6 : t.toD.Lim := by simpa [D.Lim, D.LimL] using h3
    have h7 := (lim_typs.1 ((lim_toDT t).1 h6).2).2 x hxm
    have h8 : D.sz (.row [t.toD]) = t.toD.sz + 1 := by rw [sz_row]; simp only [D.szL]
    simp only [entry_tixhas, q_tixhas, Tree.holds, Out.den, E.den, E.denL, den1, den2, den3, den4, den5, den6, den7, den8, Bool.not_eq_true', Bool.not_eq_false', List.getD_cons_zero, List.getD_cons_succ, true_and, and_true, List.length_map, phi_1000, phi_tixhas, row_at0]
    refine ⟨l, t, x, 0, rfl, hx, (formedT_parts g1).1 x hxm, Nat.zero_le _, h4, fun y hy => ⟨g3 y hy, okD_two.2 ⟨?_, h7, h5 y hy⟩⟩, ?_⟩
    · have := sz_vals_mem hy
      omega
    · rw [hx]; rfl
  · rintro j h t d ds hj ht hf ⟨l, a, x, i, rfl, ha, hx', hi, hl, hs, rfl⟩
    obtain rfl : t = head_tixhas_0 := by
      match j, ht with
      | 0, ht => exact (Option.some.inj ht).symm
    by_cases hlt : i < l.length
    · obtain ⟨y, hy, hym, hd⟩ := drop_get hlt
      have hr : Ab.rowAt (typsD a.list) 0 = x.toD := by rw [ha]; rfl
      have hlen : (a.list.length : Int) = 1 := by rw [ha]; rfl
      simp only [head_tixhas_0, Tree.holds, Out.den, E.den, E.denL, den1, den2, den3, den4, den5, den6, den7, den8, Bool.not_eq_true', Bool.not_eq_false', List.getD_cons_zero, List.getD_cons_succ, true_and, and_true, List.length_map, phi_1000, rowAt_map hy, row_at0, tat_0, tat_1, tat_2, hr, toDT_put, phi_thas, pre_thas, wrap_succ hlt hl, (hs y hym).2, hlen]
      refine ⟨fun _ => ⟨by omega, by omega, by omega, ⟨hx', (hs y hym).1⟩, fun hb => ⟨⟨l, a, x, i + 1, rfl, ha, hx', hlt, hl, hs, ?_⟩, by omega⟩, fun hb => ?_⟩, fun h => by omega⟩
      · rw [hd, ixL, hb]; rfl
      · rw [hd, ixL, hb]; rfl
    · simp only [head_tixhas_0, Tree.holds, Out.den, E.den, E.denL, den1, den2, den3, den4, den5, den6, den7, den8, Bool.not_eq_true', Bool.not_eq_false', List.getD_cons_zero, List.getD_cons_succ, true_and, and_true, List.length_map, phi_1000]
      refine ⟨fun h => by omega, fun _ => ?_⟩
      rw [List.drop_eq_nil_of_le (by omega), ixL]
end Go.Proofs.YtaeeblcdggjokaaDoor.Vk
