/- Contracts of package types: places, formed, span, Check. -/
import Derived.Test.YtaeeblcdggjokaaDoorVkC4
namespace Go.Proofs.YtaeeblcdggjokaaDoor.Vk
open Go Go.Ab Go.RowKit
set_option maxRecDepth 100000
set_option linter.unusedVariables false
set_option linter.unusedSimpArgs false
set_option linter.unusedSectionVars false
set_option linter.constructorNameAsVariable false
theorem shT : (kn [] tb).shape 26 = typCT 26 9 := rfl
theorem one_typ {d : List D} (h : FitL tb [.row 26] d) : ∃ v : Typ, d = [v.toD] := by
  match d, h with
  | [d], ⟨⟨cs, e, hf⟩, _⟩ =>
    subst e
    obtain ⟨v, hv⟩ := fits_typ shT shS (.row cs) (by unfold fitsW; exact hf)
    exact ⟨v, by rw [hv]⟩
theorem typs_fn {f : Nat} {d : List D} (h : FitL tb [.cell (.sl 26), .fn f []] d) : ∃ l : List Typ, d = [typsD l, .row []] := by
  match d, h with
  | [a, b], ⟨h1, h2, _⟩ =>
    obtain ⟨l, rfl⟩ := fits_typs shT shS h1
    rw [fit_fn h2]
    exact ⟨l, rfl⟩
/-- calamus/types.places: func 47, params [23], ntmps 19. -/
-- head 0 of loop 0: [t3 .mp .s (.i .i64), t7 .sh (.cell (.sl 9)), t8 .sh (.cell (.sc (.i .i64))), t9 .sh (.cell (.sc (.i .i64)))]
def heads_tplaces : List HdM := [⟨0, [.any, .any, .any, .mp .s (.i .i64), .any, .any, .any, .sh (.cell (.sl 9)), .sh (.cell (.sc (.i .i64))), .sh (.cell (.sc (.i .i64))), .any, .any, .any, .any, .any, .any, .any, .any, .any], []⟩]
def entry_tplaces : Tree :=
  (.leaf (.go 0 [(.pr .lst []), (.var 0), (.pr .len [(.var 0)]), (.lit (.int .i64 0))]))
def head_tplaces_0 : Tree :=
  (.ite (.pr (.icmp .lss) [(.var 3), (.var 2)])
    (.giv (.pr (.icmp .leq) [(.lit (.int .i64 0)), (.var 3)])
      (.giv (.pr (.icmp .lss) [(.var 3), (.pr .len [(.var 1)])])
        (.leaf (.go 0 [(.pr .mset [(.var 0), (.pr (.cell 0) [(.pr .at [(.var 1), (.var 3)])]), (.var 3)]), (.var 1), (.var 2), (.pr (.iop .add .i64) [(.var 3), (.lit (.int .i64 1))])]))))
    (.leaf (.ret (.pr .row [(.var 0)]))))
def trees_tplaces : List Tree := [head_tplaces_0]
noncomputable def deps_tplaces : List Sig := []
noncomputable def depsM_tplaces : List SigM := []
theorem ok_tplaces : checkM q_tplaces deps_tplaces depsM_tplaces heads_tplaces entry_tplaces trees_tplaces = true := by kernel_rfl
theorem tplaces_ok (n : Nat) : @OkM (I n) q_tplaces (okD n) := by
  letI := I n
  refine fn_okM (hphi n) ok_tplaces (by intro q hq; simp [deps_tplaces] at hq) (by intro q hq; simp [depsM_tplaces] at hq)
    (fun _ d ds => ∃ (m : List D) (l : List ByteArray) (i : Nat), ds = [.lst m, strsD l, iD l.length, iD i] ∧ i ≤ l.length ∧ l.length ≤ lim ∧ d = .row [.lst (placesL (l.drop i) i m)])
    (fun _ ds => (ds.getD 1 .nil).rows.length - (ds.getD 3 .nil).int.toNat) ?_ ?_
  · intro ds hf hp
    obtain ⟨l, rfl⟩ : ∃ l : List ByteArray, ds = [strsD l] := by
      match ds, hf with
      | [a], ⟨h1, _⟩ =>
        obtain ⟨l, rfl⟩ := fits_strs shS h1
        exact ⟨l, rfl⟩
    have hl := (lim_strs.1 (okD_one.1 hp).2).1
    simp only [entry_tplaces, q_tplaces, Tree.holds, Out.den, E.den, E.denL, den1, den2, den3, den4, den5, den6, den7, den8, Bool.not_eq_true', Bool.not_eq_false', List.getD_cons_zero, List.getD_cons_succ, true_and, and_true, List.length_map, phi_1000, phi_tplaces]
    exact ⟨[], l, 0, rfl, Nat.zero_le _, hl, rfl⟩
  · rintro j h t d ds hj ht hf ⟨m, l, i, rfl, hi, hl, rfl⟩
    obtain rfl : t = head_tplaces_0 := by
      match j, ht with
      | 0, ht => exact (Option.some.inj ht).symm
    by_cases hlt : i < l.length
    · obtain ⟨x, hx, hxm, hd⟩ := drop_get hlt
      simp only [head_tplaces_0, Tree.holds, Out.den, E.den, E.denL, den1, den2, den3, den4, den5, den6, den7, den8, Bool.not_eq_true', Bool.not_eq_false', List.getD_cons_zero, List.getD_cons_succ, true_and, and_true, List.length_map, phi_1000, rowAt_map hx, wrap_succ hlt hl]
      refine ⟨fun _ => ⟨by omega, by omega, ⟨mput (sD x) (iD i) m, l, i + 1, rfl, hlt, hl, ?_⟩, by omega⟩, fun h => by omega⟩
      rw [hd, placesL]
    · simp only [head_tplaces_0, Tree.holds, Out.den, E.den, E.denL, den1, den2, den3, den4, den5, den6, den7, den8, Bool.not_eq_true', Bool.not_eq_false', List.getD_cons_zero, List.getD_cons_succ, true_and, and_true, List.length_map, phi_1000]
      refine ⟨fun h => by omega, fun _ => ?_⟩
      rw [List.drop_eq_nil_of_le (by omega), placesL]
theorem tplaces_goes (n : Nat) : @Goes (I n) q_tplaces := fun h => by cases h
/-! ### A map of places -/
theorem mput_new {s : ByteArray} {v : D} : ∀ {m : List D}, (∀ r, r ∈ m → ∃ t v, r = .row [sD t, v]) → mfind (sD s) m = none → (mput (sD s) v m).length = m.length + 1 ∧ mput (sD s) v m = m ++ [.row [sD s, v]]
  | [], _, _ => ⟨rfl, rfl⟩
  | d :: r, h, hn => by
    obtain ⟨t, u, rfl⟩ := h d (List.mem_cons_self ..)
    have hk : dkeyIs (sD s) (sD t) = false := by
      cases hb : dkeyIs (sD s) (sD t) with
      | false => rfl
      | true => unfold mfind at hn; rw [hb] at hn; cases hn
    unfold mfind at hn
    rw [hk] at hn
    obtain ⟨k1, k2⟩ := mput_new (v := v) (fun r hr => h r (List.mem_cons_of_mem _ hr)) hn
    unfold mput
    rw [hk]
    exact ⟨by show (D.row _ :: mput _ _ _).length = _; rw [List.length_cons, k1, List.length_cons], by show D.row _ :: mput _ _ _ = _; rw [k2]; rfl⟩
theorem dkey_s (s t : ByteArray) : dkeyIs (sD s) (sD t) = decide (s = t) := rfl
theorem mput_old {s : ByteArray} {v u : D} : ∀ {m : List D}, mfind (sD s) m = some u → (mput (sD s) v m).length = m.length
  | [], h => by cases h
  | d :: r, h => by
    cases d with
    | row cs =>
      match cs with
      | [x, y] =>
        unfold mfind at h
        unfold mput
        cases hb : dkeyIs (sD s) x with
        | true => rfl
        | false =>
          rw [hb] at h
          show (D.row _ :: mput _ _ _).length = _
          rw [List.length_cons, mput_old h, List.length_cons]
      | [] => unfold mfind at h; unfold mput; rw [List.length_cons, mput_old h, List.length_cons]
      | [_] => unfold mfind at h; unfold mput; rw [List.length_cons, mput_old h, List.length_cons]
      | _ :: _ :: _ :: _ => unfold mfind at h; unfold mput; rw [List.length_cons, mput_old h, List.length_cons]
    | v _ => unfold mfind at h; unfold mput; rw [List.length_cons, mput_old h, List.length_cons]
    | nil => unfold mfind at h; unfold mput; rw [List.length_cons, mput_old h, List.length_cons]
    | lst _ => unfold mfind at h; unfold mput; rw [List.length_cons, mput_old h, List.length_cons]
/-- Rows of a map from places: each name with its last place. -/
def placeRow (p : ByteArray × Nat) : D := .row [sD p.1, iD p.2]
theorem find_rows (s : ByteArray) : ∀ (R : List (ByteArray × Nat)), mfind (sD s) (R.map placeRow) = (R.find? fun p => decide (s = p.1)).map fun p => iD p.2
  | [] => rfl
  | p :: r => by
    rw [List.map_cons, List.find?_cons]
    show (bif decide (s = p.1) then some (iD p.2) else mfind (sD s) (r.map placeRow)) = _
    by_cases e : s = p.1
    · rw [decide_eq_true e]; rfl
    · rw [decide_eq_false e]; exact find_rows s r
/-- Of names that are no two alike. -/
theorem places_nodup : ∀ (l : List ByteArray) (i : Nat) (R : List (ByteArray × Nat)), l.Nodup → (∀ s, s ∈ l → s ∉ R.map (·.1)) → placesL l i (R.map placeRow) = (R ++ l.zipIdx i).map placeRow
  | [], i, R, _, _ => by rw [placesL]; simp
  | s :: r, i, R, hn, hd => by
    rw [List.nodup_cons] at hn
    have hnone : mfind (sD s) (R.map placeRow) = none := by
      rw [find_rows]
      have : (R.find? fun p => decide (s = p.1)) = none := by
        rw [List.find?_eq_none]
        intro p hp
        have := hd s (List.mem_cons_self ..)
        simp only [decide_eq_true_eq]
        rintro rfl
        exact this (List.mem_map_of_mem hp)
      rw [this]; rfl
    have hrows : ∀ d, d ∈ R.map placeRow → ∃ t v, d = .row [sD t, v] := fun d hd => by
      obtain ⟨p, _, rfl⟩ := List.mem_map.1 hd
      exact ⟨p.1, _, rfl⟩
    rw [placesL, (mput_new hrows hnone).2]
    have e : R.map placeRow ++ [D.row [sD s, iD i]] = (R ++ [(s, i)]).map placeRow := by rw [List.map_append]; rfl
    rw [e, places_nodup r (i + 1) (R ++ [(s, i)]) hn.2 fun t ht => ?_]
    · rw [List.zipIdx_cons, List.append_assoc]; rfl
    · rw [List.map_append, List.mem_append, not_or]
      refine ⟨hd t (List.mem_cons_of_mem _ ht), fun h => ?_⟩
      rw [List.map_cons, List.map_nil, List.mem_singleton] at h
      subst h
      exact hn.1 ht
theorem places_len : ∀ (l : List ByteArray) (i : Nat) (R : List D), (∀ d, d ∈ R → ∃ t v, d = .row [sD t, v]) → (placesL l i R).length ≤ R.length + l.length ∧ ((placesL l i R).length = R.length + l.length → l.Nodup ∧ ∀ s, s ∈ l → mfind (sD s) R = none)
  | [], i, R, _ => by rw [placesL]; exact ⟨Nat.le_refl _, fun _ => ⟨List.nodup_nil, fun s hs => by cases hs⟩⟩
  | s :: r, i, R, hR => by
    rw [placesL, List.length_cons]
    have hrow : ∀ d, d ∈ mput (sD s) (iD i) R → ∃ t v, d = .row [sD t, v] := by
      have key : ∀ (R : List D), (∀ d, d ∈ R → ∃ t v, d = .row [sD t, v]) → ∀ d, d ∈ mput (sD s) (iD i) R → ∃ t v, d = .row [sD t, v] := by
        intro R
        induction R with
        | nil => intro _ d hd; rcases List.mem_singleton.1 hd with rfl; exact ⟨s, _, rfl⟩
        | cons x R ih =>
          intro h d hd
          obtain ⟨t, u, rfl⟩ := h x (List.mem_cons_self ..)
          unfold mput at hd
          cases hb : dkeyIs (sD s) (sD t) with
          | true =>
            rw [hb] at hd
            rcases List.mem_cons.1 hd with rfl | hd
            · exact ⟨s, _, rfl⟩
            · exact h d (List.mem_cons_of_mem _ hd)
          | false =>
            rw [hb] at hd
            rcases List.mem_cons.1 hd with rfl | hd
            · exact ⟨t, u, rfl⟩
            · exact ih (fun d hd => h d (List.mem_cons_of_mem _ hd)) d hd
      exact key R hR
    obtain ⟨h1, h2⟩ := places_len r (i + 1) (mput (sD s) (iD i) R) hrow
    cases hf : mfind (sD s) R with
    | some u =>
      rw [mput_old hf] at h1 h2
      exact ⟨by omega, fun h => by omega⟩
    | none =>
      obtain ⟨e1, e2⟩ := mput_new (v := iD i) hR hf
      rw [e1] at h1 h2
      refine ⟨by omega, fun h => ?_⟩
      obtain ⟨k1, k2⟩ := h2 (by omega)
      have split : ∀ t, mfind (sD t) (R ++ [.row [sD s, iD i]]) = none → mfind (sD t) R = none ∧ t ≠ s := by
        intro t
        clear e1 e2 hf h1 h2 k1 k2 h hrow
        induction R with
        | nil =>
          intro h
          refine ⟨rfl, ?_⟩
          rintro rfl
          have h : mfind (sD t) [.row [sD t, iD i]] = none := h
          unfold mfind at h
          rw [show dkeyIs (sD t) (sD t) = true from decide_eq_true rfl] at h
          cases h
        | cons x R ih =>
          intro h
          obtain ⟨a, u, rfl⟩ := hR x (List.mem_cons_self ..)
          rw [List.cons_append] at h
          unfold mfind at h ⊢
          cases hb : dkeyIs (sD t) (sD a) with
          | true => rw [hb] at h; cases h
          | false =>
            rw [hb] at h
            exact ih (fun d hd => hR d (List.mem_cons_of_mem _ hd)) h
      rw [List.nodup_cons]
      refine ⟨⟨fun hm => ?_, k1⟩, fun t ht => ?_⟩
      · have := k2 s hm
        rw [e2] at this
        exact (split s this).2 rfl
      · rcases List.mem_cons.1 ht with rfl | ht
        · exact hf
        · have := k2 t ht
          rw [e2] at this
          exact (split t this).1
theorem places_iff (l : List ByteArray) : (placesL l 0 []).length = l.length ↔ l.Nodup := by
  constructor
  · intro h
    exact ((places_len l 0 [] (fun d hd => by cases hd)).2 (by simpa using h)).1
  · intro h
    have := places_nodup l 0 [] h (fun s _ => by simp)
    rw [show ([] : List (ByteArray × Nat)).map placeRow = [] from rfl] at this
    rw [this]; simp
/-- slices.IndexFunc[[]string,string]: func 85, params [23, 79], ntmps 19. -/
-- head 0 of loop 0: [t0 .sh (.cell (.sl 9)), t1 .sh (.fn 77 []), t7 .sh (.cell (.sc (.i .i64))), t8 .sh (.cell (.sc (.i .i64)))]
def heads_tixval : List Hd := [⟨0, [.sh (.cell (.sl 9)), .sh (.fn 77 []), .any, .any, .any, .any, .any, .sh (.cell (.sc (.i .i64))), .sh (.cell (.sc (.i .i64))), .any, .any, .any, .any, .any, .any, .any, .any, .any, .any]⟩]
def entry_tixval : Tree :=
  (.leaf (.go 0 [(.var 0), (.pr .row []), (.pr .len [(.var 0)]), (.lit (.int .i64 0))]))
def head_tixval_0 : Tree :=
  (.ite (.pr (.icmp .lss) [(.var 3), (.var 2)])
    (.giv (.pr (.icmp .leq) [(.lit (.int .i64 0)), (.var 3)])
      (.giv (.pr (.icmp .lss) [(.var 3), (.pr .len [(.var 0)])])
        (.giv (.app 1000 [(.pr (.cell 0) [(.pr .at [(.var 0), (.var 3)])])])
          (.ite (.app 7 [(.pr (.cell 0) [(.pr .at [(.var 0), (.var 3)])])])
            (.leaf (.go 0 [(.var 0), (.pr .row []), (.var 2), (.pr (.iop .add .i64) [(.var 3), (.lit (.int .i64 1))])]))
            (.leaf (.ret (.var 3)))))))
    (.leaf (.ret (.lit (.int .i64 (-1))))))
def trees_tixval : List Tree := [head_tixval_0]
noncomputable def deps_tixval : List Sig := [q_valid]
theorem ok_tixval : check q_tixval deps_tixval heads_tixval entry_tixval trees_tixval = true := by kernel_rfl
theorem tixval_ok (n : Nat) : @Ok (I n) q_tixval (okD n) := by
  letI := I n
  refine fn_ok (hphi n) ok_tixval (by intro q hq; simp only [deps_tixval, List.mem_singleton] at hq; subst hq; exact valid_ok n)
    (fun _ d ds => ∃ (l : List ByteArray) (i : Nat), ds = [strsD l, .row [], iD l.length, iD i] ∧ i ≤ l.length ∧ l.length ≤ lim ∧ (∀ s, s ∈ l → okD n [sD s]) ∧ d = iD (ixL (fun s => !validV s) (l.drop i) i))
    (fun _ ds => (ds.getD 0 .nil).rows.length - (ds.getD 3 .nil).int.toNat) ?_ ?_
  · intro ds hf hp
    obtain ⟨l, rfl⟩ := strs_fn hf
    obtain ⟨h1, h2, _⟩ := okD_two.1 hp
    obtain ⟨h3, h4⟩ := okD_strs (okD_one.2 ⟨by omega, h2⟩ : okD n [strsD l])
    refine ⟨l, 0, by simp only [Tree.holds, Out.den, E.den, E.denL, den1, den2, den3, den4, den5, den6, den7, den8, Bool.not_eq_true', Bool.not_eq_false', List.getD_cons_zero, List.getD_cons_succ, true_and, and_true, List.length_map, phi_1000, Int.ofNat_zero], Nat.zero_le _, h3, h4, ?_⟩
    simp only [q_tixval, phi_tixval, List.drop_zero]
  · rintro j h t d ds hj ht hf ⟨l, i, rfl, hi, hl, hs, rfl⟩
    obtain rfl : t = head_tixval_0 := by
      match j, ht with
      | 0, ht => exact (Option.some.inj ht).symm
    by_cases hlt : i < l.length
    · obtain ⟨x, hx, hxm, hd⟩ := drop_get hlt
      simp only [head_tixval_0, Tree.holds, Out.den, E.den, E.denL, den1, den2, den3, den4, den5, den6, den7, den8, Bool.not_eq_true', Bool.not_eq_false', List.getD_cons_zero, List.getD_cons_succ, true_and, and_true, List.length_map, phi_1000, rowAt_map hx, phi_valid, wrap_succ hlt hl]
      refine ⟨fun _ => ⟨by omega, by omega, hs x hxm, fun hb => ⟨⟨l, i + 1, rfl, hlt, hl, hs, ?_⟩, by omega⟩, fun hb => ?_⟩, fun h => by omega⟩
      · rw [hd, ixL, hb]; rfl
      · rw [hd, ixL, hb]; rfl
    · simp only [head_tixval_0, Tree.holds, Out.den, E.den, E.denL, den1, den2, den3, den4, den5, den6, den7, den8, Bool.not_eq_true', Bool.not_eq_false', List.getD_cons_zero, List.getD_cons_succ, true_and, and_true, List.length_map, phi_1000]
      refine ⟨fun h => by omega, fun _ => ?_⟩
      rw [List.drop_eq_nil_of_le (by omega), ixL]
/-- slices.IndexFunc[[]calamus/api.Type,calamus/api.Type]: func 92, params [24, 27], ntmps 19. -/
-- head 0 of loop 0: [t0 .sh (.cell (.sl 26)), t1 .sh (.fn 79 []), t7 .sh (.cell (.sc (.i .i64))), t8 .sh (.cell (.sc (.i .i64)))]
def heads_tixform : List Hd := [⟨0, [.sh (.cell (.sl 26)), .sh (.fn 79 []), .any, .any, .any, .any, .any, .sh (.cell (.sc (.i .i64))), .sh (.cell (.sc (.i .i64))), .any, .any, .any, .any, .any, .any, .any, .any, .any, .any]⟩]
def entry_tixform : Tree :=
  (.leaf (.go 0 [(.var 0), (.pr .row []), (.pr .len [(.var 0)]), (.lit (.int .i64 0))]))
def head_tixform_0 : Tree :=
  (.ite (.pr (.icmp .lss) [(.var 3), (.var 2)])
    (.giv (.pr (.icmp .leq) [(.lit (.int .i64 0)), (.var 3)])
      (.giv (.pr (.icmp .lss) [(.var 3), (.pr .len [(.var 0)])])
        (.giv (.app 1000 [(.pr .row [(.pr (.cell 0) [(.pr .at [(.var 0), (.var 3)])]), (.pr (.cell 1) [(.pr .at [(.var 0), (.var 3)])]), (.pr (.cell 2) [(.pr .at [(.var 0), (.var 3)])])])])
          (.ite (.app 58 [(.pr .row [(.pr (.cell 0) [(.pr .at [(.var 0), (.var 3)])]), (.pr (.cell 1) [(.pr .at [(.var 0), (.var 3)])]), (.pr (.cell 2) [(.pr .at [(.var 0), (.var 3)])])])])
            (.leaf (.go 0 [(.var 0), (.pr .row []), (.var 2), (.pr (.iop .add .i64) [(.var 3), (.lit (.int .i64 1))])]))
            (.leaf (.ret (.var 3)))))))
    (.leaf (.ret (.lit (.int .i64 (-1))))))
def trees_tixform : List Tree := [head_tixform_0]
noncomputable def deps_tixform : List Sig := [q_tformed]
theorem ok_tixform : check q_tixform deps_tixform heads_tixform entry_tixform trees_tixform = true := by kernel_rfl
theorem tixform_ok (n : Nat) (ih : @Ok (I n) q_tformed (okD n)) : @Ok (I n) q_tixform (okD n) := by
  letI := I n
  refine fn_ok (hphi n) ok_tixform (by intro q hq; simp only [deps_tixform, List.mem_singleton] at hq; subst hq; exact ih)
    (fun _ d ds => ∃ (l : List Typ) (i : Nat), ds = [typsD l, .row [], iD l.length, iD i] ∧ i ≤ l.length ∧ l.length ≤ lim ∧ (∀ x, x ∈ l → okD n [x.toD]) ∧ d = iD (formedTL (l.drop i) i))
    (fun _ ds => (ds.getD 0 .nil).rows.length - (ds.getD 3 .nil).int.toNat) ?_ ?_
  · intro ds hf hp
    obtain ⟨l, rfl⟩ := typs_fn hf
    obtain ⟨h2, h3⟩ := okD_typs hp
    refine ⟨l, 0, by simp only [Tree.holds, Out.den, E.den, E.denL, den1, den2, den3, den4, den5, den6, den7, den8, Bool.not_eq_true', Bool.not_eq_false', List.getD_cons_zero, List.getD_cons_succ, true_and, and_true, List.length_map, phi_1000, Int.ofNat_zero], Nat.zero_le _, h2, h3, ?_⟩
    simp only [q_tixform, phi_tixform, List.drop_zero]
  · rintro j h t d ds hj ht hf ⟨l, i, rfl, hi, hl, hs, rfl⟩
    obtain rfl : t = head_tixform_0 := by
      match j, ht with
      | 0, ht => exact (Option.some.inj ht).symm
    by_cases hlt : i < l.length
    · obtain ⟨x, hx, hxm, hd⟩ := drop_get hlt
      simp only [head_tixform_0, Tree.holds, Out.den, E.den, E.denL, den1, den2, den3, den4, den5, den6, den7, den8, Bool.not_eq_true', Bool.not_eq_false', List.getD_cons_zero, List.getD_cons_succ, true_and, and_true, List.length_map, phi_1000, rowAt_map hx, tat_0, tat_1, tat_2, toDT_put, phi_tformed, wrap_succ hlt hl]
      refine ⟨fun _ => ⟨by omega, by omega, hs x hxm, fun hb => ⟨⟨l, i + 1, rfl, hlt, hl, hs, ?_⟩, by omega⟩, fun hb => ?_⟩, fun h => by omega⟩
      · rw [hd, formedTL, if_pos hb]
      · rw [hd, formedTL, hb]; rfl
    · simp only [head_tixform_0, Tree.holds, Out.den, E.den, E.denL, den1, den2, den3, den4, den5, den6, den7, den8, Bool.not_eq_true', Bool.not_eq_false', List.getD_cons_zero, List.getD_cons_succ, true_and, and_true, List.length_map, phi_1000]
      refine ⟨fun h => by omega, fun _ => ?_⟩
      rw [List.drop_eq_nil_of_le (by omega), formedTL]
/-- calamus/types.formed: func 56, params [26], ntmps 64. -/
def heads_tformed : List Hd := []
def entry_tformed : Tree :=
  (.ite (.pr (.icmp .eql) [(.pr (.cell 0) [(.var 0)]), (.lit (.int .i64 9))])
    (.ite (.pr (.icmp .gtr) [(.pr .len [(.pr (.cell 1) [(.var 0)])]), (.lit (.int .i64 0))])
      (.leaf (.ret (.lit (.bool false))))
      (.ite (.pr (.icmp .neq) [(.pr .len [(.pr (.cell 2) [(.var 0)])]), (.lit (.int .i64 1))])
        (.leaf (.ret (.lit (.bool false))))
        (.giv (.app 1000 [(.pr (.cell 2) [(.var 0)]), (.pr .row [])])
          (.leaf (.ret (.pr .not [(.pr (.icmp .geq) [(.app 60 [(.pr (.cell 2) [(.var 0)]), (.pr .row [])]), (.lit (.int .i64 0))])]))))))
    (.ite (.pr (.icmp .eql) [(.pr (.cell 0) [(.var 0)]), (.lit (.int .i64 10))])
      (.ite (.pr (.icmp .neq) [(.pr .len [(.pr (.cell 1) [(.var 0)])]), (.pr .len [(.pr (.cell 2) [(.var 0)])])])
        (.leaf (.ret (.lit (.bool false))))
        (.giv (.app 1000 [(.pr (.cell 1) [(.var 0)])])
          (.ite (.pr (.icmp .neq) [(.pr .len [(.pr (.cell 0) [(.app 57 [(.pr (.cell 1) [(.var 0)])])])]), (.pr .len [(.pr (.cell 1) [(.var 0)])])])
            (.leaf (.ret (.lit (.bool false))))
            (.giv (.app 1000 [(.pr (.cell 1) [(.var 0)]), (.pr .row [])])
              (.ite (.pr (.icmp .geq) [(.app 59 [(.pr (.cell 1) [(.var 0)]), (.pr .row [])]), (.lit (.int .i64 0))])
                (.leaf (.ret (.lit (.bool false))))
                (.giv (.app 1000 [(.pr (.cell 2) [(.var 0)]), (.pr .row [])])
                  (.leaf (.ret (.pr .not [(.pr (.icmp .geq) [(.app 60 [(.pr (.cell 2) [(.var 0)]), (.pr .row [])]), (.lit (.int .i64 0))])])))))))))
      (.ite (.pr (.icmp .eql) [(.pr (.cell 0) [(.var 0)]), (.lit (.int .i64 11))])
        (.ite (.pr (.icmp .neq) [(.pr .len [(.pr (.cell 1) [(.var 0)])]), (.pr .len [(.pr (.cell 2) [(.var 0)])])])
          (.leaf (.ret (.lit (.bool false))))
          (.giv (.app 1000 [(.pr (.cell 1) [(.var 0)])])
            (.ite (.pr (.icmp .neq) [(.pr .len [(.pr (.cell 0) [(.app 57 [(.pr (.cell 1) [(.var 0)])])])]), (.pr .len [(.pr (.cell 1) [(.var 0)])])])
              (.leaf (.ret (.lit (.bool false))))
              (.giv (.app 1000 [(.pr (.cell 1) [(.var 0)]), (.pr .row [])])
                (.ite (.pr (.icmp .geq) [(.app 59 [(.pr (.cell 1) [(.var 0)]), (.pr .row [])]), (.lit (.int .i64 0))])
                  (.leaf (.ret (.lit (.bool false))))
                  (.giv (.app 1000 [(.pr (.cell 2) [(.var 0)]), (.pr .row [])])
                    (.leaf (.ret (.pr .not [(.pr (.icmp .geq) [(.app 60 [(.pr (.cell 2) [(.var 0)]), (.pr .row [])]), (.lit (.int .i64 0))])])))))))))
        (.ite (.pr (.icmp .geq) [(.pr (.cell 0) [(.var 0)]), (.lit (.int .i64 1))])
          (.ite (.pr (.icmp .leq) [(.pr (.cell 0) [(.var 0)]), (.lit (.int .i64 8))])
            (.leaf (.ret (.pr (.icmp .eql) [(.pr (.iop .add .i64) [(.pr .len [(.pr (.cell 1) [(.var 0)])]), (.pr .len [(.pr (.cell 2) [(.var 0)])])]), (.lit (.int .i64 0))])))
            (.leaf (.ret (.lit (.bool false)))))
          (.leaf (.ret (.lit (.bool false))))))))
def trees_tformed : List Tree := []
noncomputable def deps_tformed : List Sig := [q_tixval, q_tixform]
noncomputable def depsM_tformed : List SigM := [q_tplaces]
theorem ok_tformed : checkN q_tformed deps_tformed depsM_tformed heads_tformed entry_tformed trees_tformed = true := by kernel_rfl
theorem formedT_iff (k : Int) (ns : List ByteArray) (l : List Typ) :
    (k = 9 → (formedT (.mk k ns l) = true ↔ ns.length = 0 ∧ l.length = 1 ∧ formedTL l 0 < 0)) ∧
    (k = 10 ∨ k = 11 → (formedT (.mk k ns l) = true ↔ ns.length = l.length ∧ ns.Nodup ∧ ixL (fun s => !validV s) ns 0 < 0 ∧ formedTL l 0 < 0)) ∧
    (k ≠ 9 → k ≠ 10 → k ≠ 11 → (formedT (.mk k ns l) = true ↔ 1 ≤ k ∧ k ≤ 8 ∧ ns.length = 0 ∧ l.length = 0)) := by
  refine ⟨fun h => ?_, fun h => ?_, fun h1 h2 h3 => ?_⟩
  · subst h; simp [formedT, ltI_t, and_assoc]
  · rw [formedT, if_neg (by omega), if_pos h]; simp [ltI_t, and_assoc]
  · rw [formedT, if_neg h1, if_neg (by omega)]; simp [and_assoc]
theorem bD_of {b : Bool} {x : Bool} (h : x = true ↔ b = true) : bD x = bD b := by rw [Bool.eq_iff_iff.2 h]
theorem tformed_step (n : Nat) (ih : @Ok (I n) q_tformed (okD n)) : @Ok (I n) q_tformed (okD (n + 1)) := by
  letI := I n
  refine fn_okN (hphi n) ok_tformed (by
    intro q hq
    simp only [deps_tformed, List.mem_cons, List.not_mem_nil, or_false] at hq
    rcases hq with rfl | rfl
    · exact okS_of (tixval_ok n)
    · exact okS_of (tixform_ok n ih)) (by
    intro q hq
    simp only [depsM_tformed, List.mem_singleton] at hq
    subst hq
    exact ⟨okSM_of (tplaces_ok n), tplaces_goes n⟩) (fun _ _ _ => False) (fun _ _ => 0) ?_ (fun j h t d ds hj => by simp [heads_tformed] at hj)
  intro ds hf hp
  obtain ⟨v, rfl⟩ := one_typ hf
  obtain ⟨p1, p2, p3, p4, p5, p6⟩ := okD_listT hp
  have hl : ∀ m : List D, (D.lst m).rows = m := fun _ => rfl
  simp only [entry_tformed, q_tformed, Tree.holds, Out.den, E.den, E.denL, den1, den2, den3, den4, den5, den6, den7, den8, Bool.not_eq_true', Bool.not_eq_false', List.getD_cons_zero, List.getD_cons_succ, true_and, and_true, List.length_map, phi_1000, tat_0, tat_1, tat_2, toDT_put, phi_tplaces, phi_tixval, phi_tixform, phi_tformed, p4, p5, p6, row_at0, hl]
  cases v with
  | mk k ns l =>
    simp only [Typ.kind, Typ.names, Typ.list] at p1 p2 ⊢
    obtain ⟨f1, f2, f3⟩ := formedT_iff k ns l
    have hw : IntKind.i64.wrap ((ns.length : Int) + l.length) = (ns.length : Int) + l.length := by
      have : (lim : Nat) = 140737488355328 := rfl
      exact wrap_id (by omega) (by omega)
    have hpl := places_iff ns
    rw [hw]
    have key : ∀ {x : Bool} {p : Prop}, (formedT (.mk k ns l) = true ↔ p) → (x = true ↔ p) → bD x = bD (formedT (.mk k ns l)) := fun h1 h2 => bD_of (h2.trans h1.symm)
    have hge : ∀ i : Int, (!leI 0 i) = true ↔ i < 0 := fun i => by rw [Bool.not_eq_true', leI_f]; omega
    refine ⟨fun c => ⟨fun h => ?_, fun h => ⟨fun h' => ?_, fun h' => ?_⟩⟩, fun c => ⟨fun c' => ⟨fun h => ?_, fun h => ⟨fun h' => ?_, fun h' => ⟨fun h'' => ?_, fun h'' => ?_⟩⟩⟩, fun c' => ⟨fun c'' => ⟨fun h => ?_, fun h => ⟨fun h' => ?_, fun h' => ⟨fun h'' => ?_, fun h'' => ?_⟩⟩⟩, fun c'' => ⟨fun d1 => ⟨fun d2 => ?_, fun d2 => ?_⟩, fun d1 => ?_⟩⟩⟩⟩
    · exact key (f1 c) ⟨fun h => (by cases h), fun h => by omega⟩
    · exact key (f1 c) ⟨fun h => (by cases h), fun h => by omega⟩
    · refine key (f1 c) ?_
      rw [hge]
      exact ⟨fun h => ⟨by omega, by omega, h⟩, fun h => h.2.2⟩
    · exact key (f2 (.inl c')) ⟨fun h => (by cases h), fun h => by omega⟩
    · refine key (f2 (.inl c')) ⟨fun h => (by cases h), fun h => ?_⟩
      exact absurd (hpl.2 h.2.1) (by omega)
    · exact key (f2 (.inl c')) ⟨fun h => (by cases h), fun h => by omega⟩
    · refine key (f2 (.inl c')) ?_
      rw [hge]
      exact ⟨fun h => ⟨by omega, hpl.1 (by omega), by omega, h⟩, fun h => h.2.2.2⟩
    · exact key (f2 (.inr c'')) ⟨fun h => (by cases h), fun h => by omega⟩
    · refine key (f2 (.inr c'')) ⟨fun h => (by cases h), fun h => ?_⟩
      exact absurd (hpl.2 h.2.1) (by omega)
    · exact key (f2 (.inr c'')) ⟨fun h => (by cases h), fun h => by omega⟩
    · refine key (f2 (.inr c'')) ?_
      rw [hge]
      exact ⟨fun h => ⟨by omega, hpl.1 (by omega), by omega, h⟩, fun h => h.2.2.2⟩
    · refine key (f3 c c' c'') ?_
      rw [eqI_t]
      exact ⟨fun h => ⟨by omega, by omega, by omega, by omega⟩, fun h => by omega⟩
    · exact key (f3 c c' c'') ⟨fun h => (by cases h), fun h => by omega⟩
    · exact key (f3 c c' c'') ⟨fun h => (by cases h), fun h => by omega⟩
theorem tformed_ok : ∀ (n : Nat), @Ok (I n) q_tformed (okD n)
  | 0 => ok_zero
  | n + 1 => ok_irrel (by decide) (tformed_step n (tformed_ok n))
/-- slices.IndexFunc[[]string,string]: func 85, params [23, 79], ntmps 19. -/
-- head 0 of loop 0: [t0 .sh (.cell (.sl 9)), t1 .sh (.fn 80 []), t7 .sh (.cell (.sc (.i .i64))), t8 .sh (.cell (.sc (.i .i64)))]
def heads_tixspan : List Hd := [⟨0, [.sh (.cell (.sl 9)), .sh (.fn 80 []), .any, .any, .any, .any, .any, .sh (.cell (.sc (.i .i64))), .sh (.cell (.sc (.i .i64))), .any, .any, .any, .any, .any, .any, .any, .any, .any, .any]⟩]
def entry_tixspan : Tree :=
  (.leaf (.go 0 [(.var 0), (.pr .row []), (.pr .len [(.var 0)]), (.lit (.int .i64 0))]))
def head_tixspan_0 : Tree :=
  (.ite (.pr (.icmp .lss) [(.var 3), (.var 2)])
    (.giv (.pr (.icmp .leq) [(.lit (.int .i64 0)), (.var 3)])
      (.giv (.pr (.icmp .lss) [(.var 3), (.pr .len [(.var 0)])])
        (.ite (.pr (.icmp .gtr) [(.pr .slen [(.pr (.cell 0) [(.pr .at [(.var 0), (.var 3)])])]), (.lit (.int .i64 64))])
          (.leaf (.ret (.var 3)))
          (.leaf (.go 0 [(.var 0), (.pr .row []), (.var 2), (.pr (.iop .add .i64) [(.var 3), (.lit (.int .i64 1))])])))))
    (.leaf (.ret (.lit (.int .i64 (-1))))))
def trees_tixspan : List Tree := [head_tixspan_0]
noncomputable def deps_tixspan : List Sig := []
theorem ok_tixspan : check q_tixspan deps_tixspan heads_tixspan entry_tixspan trees_tixspan = true := by kernel_rfl
theorem tixspan_ok (n : Nat) : @Ok (I n) q_tixspan (okD n) := by
  letI := I n
  refine fn_ok (hphi n) ok_tixspan (by intro q hq; simp only [deps_tixspan, List.not_mem_nil] at hq)
    (fun _ d ds => ∃ (l : List ByteArray) (i : Nat), ds = [strsD l, .row [], iD l.length, iD i] ∧ i ≤ l.length ∧ l.length ≤ lim ∧ d = iD (ixL (fun s : ByteArray => decide ((s.size : Int) > 64)) (l.drop i) i))
    (fun _ ds => (ds.getD 0 .nil).rows.length - (ds.getD 3 .nil).int.toNat) ?_ ?_
  · intro ds hf hp
    obtain ⟨l, rfl⟩ := strs_fn hf
    have h2 : l.length ≤ lim := (lim_strs.1 (okD_two.1 hp).2.1).1
    refine ⟨l, 0, by simp only [Tree.holds, Out.den, E.den, E.denL, den1, den2, den3, den4, den5, den6, den7, den8, Bool.not_eq_true', Bool.not_eq_false', List.getD_cons_zero, List.getD_cons_succ, true_and, and_true, List.length_map, phi_1000, Int.ofNat_zero], Nat.zero_le _, h2, ?_⟩
    simp only [q_tixspan, phi_tixspan, List.drop_zero]
  · rintro j h t d ds hj ht hf ⟨l, i, rfl, hi, hl, rfl⟩
    obtain rfl : t = head_tixspan_0 := by
      match j, ht with
      | 0, ht => exact (Option.some.inj ht).symm
    by_cases hlt : i < l.length
    · obtain ⟨x, hx, hxm, hd⟩ := drop_get hlt
      simp only [head_tixspan_0, Tree.holds, Out.den, E.den, E.denL, den1, den2, den3, den4, den5, den6, den7, den8, Bool.not_eq_true', Bool.not_eq_false', List.getD_cons_zero, List.getD_cons_succ, true_and, and_true, List.length_map, phi_1000, rowAt_map hx, wrap_succ hlt hl]
      refine ⟨fun _ => ⟨by omega, by omega, fun hb => ?_, fun hb => ⟨⟨l, i + 1, rfl, hlt, hl, ?_⟩, by omega⟩⟩, fun h => by omega⟩
      · rw [hd, ixL, if_pos (by simpa using hb)]
      · rw [hd, ixL, if_neg (by simpa using hb)]
    · simp only [head_tixspan_0, Tree.holds, Out.den, E.den, E.denL, den1, den2, den3, den4, den5, den6, den7, den8, Bool.not_eq_true', Bool.not_eq_false', List.getD_cons_zero, List.getD_cons_succ, true_and, and_true, List.length_map, phi_1000]
      refine ⟨fun h => by omega, fun _ => ?_⟩
      rw [List.drop_eq_nil_of_le (by omega), ixL]
/-- calamus/types.span: func 57, params [26], ntmps 48. -/
-- head 0 of loop 0: [t2 .sh (.cell (.sc (.i .i64))), t3 .sh (.cell (.sc (.i .i64))), t4 .sh (.cell (.sc .b)), t21 .sh (.cell (.sl 26)), t22 .sh (.cell (.sc (.i .i64))), t23 .sh (.cell (.sc (.i .i64)))]
def heads_tspan : List Hd := [⟨0, [.any, .any, .sh (.cell (.sc (.i .i64))), .sh (.cell (.sc (.i .i64))), .sh (.cell (.sc .b)), .any, .any, .any, .any, .any, .any, .any, .any, .any, .any, .any, .any, .any, .any, .any, .any, .sh (.cell (.sl 26)), .sh (.cell (.sc (.i .i64))), .sh (.cell (.sc (.i .i64))), .any, .any, .any, .any, .any, .any, .any, .any, .any, .any, .any, .any, .any, .any, .any, .any, .any, .any, .any, .any, .any, .any, .any, .any]⟩]
def entry_tspan : Tree :=
  (.ite (.pr (.icmp .leq) [(.pr .len [(.pr (.cell 2) [(.var 0)])]), (.lit (.int .i64 256))])
    (.giv (.app 1000 [(.pr (.cell 1) [(.var 0)]), (.pr .row [])])
      (.leaf (.go 0 [(.lit (.int .i64 0)), (.lit (.int .i64 1)), (.pr .not [(.pr (.icmp .geq) [(.app 62 [(.pr (.cell 1) [(.var 0)]), (.pr .row [])]), (.lit (.int .i64 0))])]), (.pr (.cell 2) [(.var 0)]), (.pr .len [(.pr (.cell 2) [(.var 0)])]), (.lit (.int .i64 0))])))
    (.leaf (.go 0 [(.lit (.int .i64 0)), (.lit (.int .i64 1)), (.lit (.bool false)), (.pr (.cell 2) [(.var 0)]), (.pr .len [(.pr (.cell 2) [(.var 0)])]), (.lit (.int .i64 0))])))
def head_tspan_0 : Tree :=
  (.ite (.pr (.icmp .lss) [(.var 5), (.var 4)])
    (.giv (.pr (.icmp .leq) [(.lit (.int .i64 0)), (.var 5)])
      (.giv (.pr (.icmp .lss) [(.var 5), (.pr .len [(.var 3)])])
        (.giv (.app 1000 [(.pr .row [(.pr (.cell 0) [(.pr .at [(.var 3), (.var 5)])]), (.pr (.cell 1) [(.pr .at [(.var 3), (.var 5)])]), (.pr (.cell 2) [(.pr .at [(.var 3), (.var 5)])])])])
          (.ite (.var 2)
            (.leaf (.go 0 [(.pr .ite [(.pr (.icmp .gtr) [(.pr (.cell 0) [(.app 61 [(.pr .row [(.pr (.cell 0) [(.pr .at [(.var 3), (.var 5)])]), (.pr (.cell 1) [(.pr .at [(.var 3), (.var 5)])]), (.pr (.cell 2) [(.pr .at [(.var 3), (.var 5)])])])])]), (.var 0)]), (.pr (.cell 0) [(.app 61 [(.pr .row [(.pr (.cell 0) [(.pr .at [(.var 3), (.var 5)])]), (.pr (.cell 1) [(.pr .at [(.var 3), (.var 5)])]), (.pr (.cell 2) [(.pr .at [(.var 3), (.var 5)])])])])]), (.var 0)]), (.pr (.iop .add .i64) [(.var 1), (.pr (.cell 1) [(.app 61 [(.pr .row [(.pr (.cell 0) [(.pr .at [(.var 3), (.var 5)])]), (.pr (.cell 1) [(.pr .at [(.var 3), (.var 5)])]), (.pr (.cell 2) [(.pr .at [(.var 3), (.var 5)])])])])])]), (.pr (.cell 2) [(.app 61 [(.pr .row [(.pr (.cell 0) [(.pr .at [(.var 3), (.var 5)])]), (.pr (.cell 1) [(.pr .at [(.var 3), (.var 5)])]), (.pr (.cell 2) [(.pr .at [(.var 3), (.var 5)])])])])]), (.var 3), (.var 4), (.pr (.iop .add .i64) [(.var 5), (.lit (.int .i64 1))])]))
            (.leaf (.go 0 [(.pr .ite [(.pr (.icmp .gtr) [(.pr (.cell 0) [(.app 61 [(.pr .row [(.pr (.cell 0) [(.pr .at [(.var 3), (.var 5)])]), (.pr (.cell 1) [(.pr .at [(.var 3), (.var 5)])]), (.pr (.cell 2) [(.pr .at [(.var 3), (.var 5)])])])])]), (.var 0)]), (.pr (.cell 0) [(.app 61 [(.pr .row [(.pr (.cell 0) [(.pr .at [(.var 3), (.var 5)])]), (.pr (.cell 1) [(.pr .at [(.var 3), (.var 5)])]), (.pr (.cell 2) [(.pr .at [(.var 3), (.var 5)])])])])]), (.var 0)]), (.pr (.iop .add .i64) [(.var 1), (.pr (.cell 1) [(.app 61 [(.pr .row [(.pr (.cell 0) [(.pr .at [(.var 3), (.var 5)])]), (.pr (.cell 1) [(.pr .at [(.var 3), (.var 5)])]), (.pr (.cell 2) [(.pr .at [(.var 3), (.var 5)])])])])])]), (.lit (.bool false)), (.var 3), (.var 4), (.pr (.iop .add .i64) [(.var 5), (.lit (.int .i64 1))])]))))))
    (.leaf (.ret (.pr .row [(.pr (.iop .add .i64) [(.var 0), (.lit (.int .i64 1))]), (.var 1), (.var 2)]))))
def trees_tspan : List Tree := [head_tspan_0]
noncomputable def deps_tspan : List Sig := [q_tspan, q_tixspan]
theorem ok_tspan : check q_tspan deps_tspan heads_tspan entry_tspan trees_tspan = true := by kernel_rfl
theorem spanT_eq (v : Typ) : spanT v = (wrap ((spanTL v.list (0, 1, if (v.list.length : Int) ≤ 256 then !decide (ixL (fun s : ByteArray => decide ((s.size : Int) > 64)) v.names 0 ≥ 0) else false)).1 + 1), (spanTL v.list (0, 1, if (v.list.length : Int) ≤ 256 then !decide (ixL (fun s : ByteArray => decide ((s.size : Int) > 64)) v.names 0 ≥ 0) else false)).2.1, (spanTL v.list (0, 1, if (v.list.length : Int) ≤ 256 then !decide (ixL (fun s : ByteArray => decide ((s.size : Int) > 64)) v.names 0 ≥ 0) else false)).2.2) := by
  cases v; rw [spanT]; rfl
def spanR (x : Int × Int × Bool) : D := .row [iD (wrap (x.1 + 1)), iD x.2.1, bD x.2.2]
theorem tspan_step (n : Nat) (ih : @Ok (I n) q_tspan (okD n)) : @Ok (I n) q_tspan (okD (n + 1)) := by
  letI := I n
  refine fn_ok (hphi n) ok_tspan (by
    intro q hq
    simp only [deps_tspan, List.mem_cons, List.not_mem_nil, or_false] at hq
    rcases hq with rfl | rfl
    · exact ih
    · exact tixspan_ok n)
    (fun _ d ds => ∃ (a b : Int) (o : Bool) (l : List Typ) (i : Nat), ds = [iD a, iD b, bD o, typsD l, iD l.length, iD i] ∧ i ≤ l.length ∧ l.length ≤ lim ∧ (∀ x, x ∈ l → okD n [x.toD]) ∧ d = spanR (spanTL (l.drop i) (a, b, o)))
    (fun _ ds => (ds.getD 3 .nil).rows.length - (ds.getD 5 .nil).int.toNat) ?_ ?_
  · intro ds hf hp
    obtain ⟨v, rfl⟩ := one_typ hf
    obtain ⟨p1, p2, p3, p4, p5, p6⟩ := okD_listT hp
    simp only [entry_tspan, q_tspan, Tree.holds, Out.den, E.den, E.denL, den1, den2, den3, den4, den5, den6, den7, den8, Bool.not_eq_true', Bool.not_eq_false', List.getD_cons_zero, List.getD_cons_succ, true_and, and_true, List.length_map, phi_1000, tat_0, tat_1, tat_2, toDT_put, phi_tixspan, phi_tspan, p5]
    have hge : ∀ i : Int, (!leI 0 i) = !decide (i ≥ 0) := fun i => rfl
    rw [spanT_eq]
    refine ⟨fun h => ⟨0, 1, _, v.list, 0, rfl, Nat.zero_le _, p1, p3, ?_⟩, fun h => ⟨0, 1, _, v.list, 0, rfl, Nat.zero_le _, p1, p3, ?_⟩⟩
    · rw [if_pos h, hge]; rfl
    · rw [if_neg h]; rfl
  · rintro j h t d ds hj ht hf ⟨a, b, o, l, i, rfl, hi, hl, hs, rfl⟩
    obtain rfl : t = head_tspan_0 := by
      match j, ht with
      | 0, ht => exact (Option.some.inj ht).symm
    have hmax : ∀ x : Int, (bif ltI a x then iD x else iD a) = iD (if x > a then x else a) := fun x => by
      by_cases c : x > a
      · rw [ltI_t.2 c, if_pos c]; rfl
      · rw [ltI_f.2 c, if_neg c]; rfl
    by_cases hlt : i < l.length
    · obtain ⟨x, hx, hxm, hd⟩ := drop_get hlt
      simp only [head_tspan_0, Tree.holds, Out.den, E.den, E.denL, den1, den2, den3, den4, den5, den6, den7, den8, Bool.not_eq_true', Bool.not_eq_false', List.getD_cons_zero, List.getD_cons_succ, true_and, and_true, List.length_map, phi_1000, rowAt_map hx, tat_0, tat_1, tat_2, toDT_put, phi_tspan, wrap_succ hlt hl, row_at0, row_at1, row_at2, hmax]
      rw [hd, spanTL]
      refine ⟨fun _ => ⟨by omega, by omega, hs x hxm, fun ho => ⟨⟨_, _, _, l, i + 1, rfl, hlt, hl, hs, ?_⟩, by omega⟩, fun ho => ⟨⟨_, _, _, l, i + 1, rfl, hlt, hl, hs, ?_⟩, by omega⟩⟩, fun h => by omega⟩
      · rw [ho]; rfl
      · rw [ho]; rfl
    · simp only [head_tspan_0, Tree.holds, Out.den, E.den, E.denL, den1, den2, den3, den4, den5, den6, den7, den8, Bool.not_eq_true', Bool.not_eq_false', List.getD_cons_zero, List.getD_cons_succ, true_and, and_true, List.length_map, phi_1000]
      refine ⟨fun h => by omega, fun _ => ?_⟩
      rw [List.drop_eq_nil_of_le (by omega), spanTL]
      rfl
theorem tspan_ok : ∀ (n : Nat), @Ok (I n) q_tspan (okD n)
  | 0 => ok_zero
  | n + 1 => ok_irrel (by decide) (tspan_step n (tspan_ok n))
/-- calamus/types.Check: func 37, params [26], ntmps 25. -/
def heads_tcheck : List Hd := []
def entry_tcheck : Tree :=
  (.giv (.app 1000 [(.pr .row [(.pr (.cell 0) [(.var 0)]), (.pr (.cell 1) [(.var 0)]), (.pr (.cell 2) [(.var 0)])])])
    (.ite (.app 58 [(.pr .row [(.pr (.cell 0) [(.var 0)]), (.pr (.cell 1) [(.var 0)]), (.pr (.cell 2) [(.var 0)])])])
      (.ite (.pr (.cell 2) [(.app 61 [(.pr .row [(.pr (.cell 0) [(.var 0)]), (.pr (.cell 1) [(.var 0)]), (.pr (.cell 2) [(.var 0)])])])])
        (.ite (.pr (.icmp .gtr) [(.pr (.cell 0) [(.app 61 [(.pr .row [(.pr (.cell 0) [(.var 0)]), (.pr (.cell 1) [(.var 0)]), (.pr (.cell 2) [(.var 0)])])])]), (.lit (.int .i64 16))])
          (.leaf (.ret (.lit (.int .i64 2))))
          (.ite (.pr (.icmp .gtr) [(.pr (.cell 1) [(.app 61 [(.pr .row [(.pr (.cell 0) [(.var 0)]), (.pr (.cell 1) [(.var 0)]), (.pr (.cell 2) [(.var 0)])])])]), (.lit (.int .i64 4096))])
            (.leaf (.ret (.lit (.int .i64 2))))
            (.leaf (.ret (.lit (.int .i64 0))))))
        (.leaf (.ret (.lit (.int .i64 2)))))
      (.leaf (.ret (.lit (.int .i64 110))))))
def trees_tcheck : List Tree := []
noncomputable def deps_tcheck : List Sig := [q_tformed, q_tspan]
theorem ok_tcheck : check q_tcheck deps_tcheck heads_tcheck entry_tcheck trees_tcheck = true := by kernel_rfl
theorem tcheck_ok (n : Nat) : @Ok (I n) q_tcheck (okD n) := by
  letI := I n
  refine fn_ok (hphi n) ok_tcheck (by
    intro q hq
    simp only [deps_tcheck, List.mem_cons, List.not_mem_nil, or_false] at hq
    rcases hq with rfl | rfl
    · exact tformed_ok n
    · exact tspan_ok n) (fun _ _ _ => False) (fun _ _ => 0) ?_ (fun j h t d ds hj => by simp [heads_tcheck] at hj)
  intro ds hf hp
  obtain ⟨v, rfl⟩ := one_typ hf
  simp only [entry_tcheck, q_tcheck, Tree.holds, Out.den, E.den, E.denL, den1, den2, den3, den4, den5, den6, den7, den8, Bool.not_eq_true', Bool.not_eq_false', List.getD_cons_zero, List.getD_cons_succ, true_and, and_true, List.length_map, phi_1000, tat_0, tat_1, tat_2, toDT_put, phi_tformed, phi_tspan, phi_tcheck, row_at0, row_at1, row_at2, hp]
  unfold checkT
  refine ⟨fun h => ⟨fun h' => ⟨fun a => ?_, fun a => ⟨fun b => ?_, fun b => ?_⟩⟩, fun h' => ?_⟩, fun h => ?_⟩
  · rw [if_pos h, if_pos h', if_pos a]
  · rw [if_pos h, if_pos h', if_neg a, if_pos b]
  · rw [if_pos h, if_pos h', if_neg a, if_neg b]
  · rw [if_pos h, h']; rfl
  · rw [h]; rfl
end Go.Proofs.YtaeeblcdggjokaaDoor.Vk
