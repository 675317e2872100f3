/- The order of values is one: numbers, values; ValueThree. -/
import Derived.Test.YtaeeblcdggjokaaDoorVkO5
namespace Go.Proofs.YtaeeblcdggjokaaDoor.Vk
open Go Go.Ab Go.RowKit
set_option maxRecDepth 100000
set_option linter.unusedVariables false
set_option linter.unusedSimpArgs false
set_option linter.unusedSectionVars false
set_option linter.constructorNameAsVariable false
theorem all_drop {p : UInt8 → Bool} : ∀ (l : List UInt8), (∀ x, x ∈ l.dropWhile p → p x = true) → ∀ x, x ∈ l → p x = true
  | [], _, x, hx => by cases hx
  | a :: r, h, x, hx => by
    rw [List.dropWhile_cons] at h
    cases ha : p a with
    | true =>
      rw [ha, if_pos rfl] at h
      rcases List.mem_cons.1 hx with rfl | hx
      · exact ha
      · exact all_drop r h x hx
    | false =>
      rw [ha, if_neg (by decide)] at h
      exact h x hx
theorem dig_trim {d : ByteArray} (h : trimV d tenDigits = ByteArray.empty) : Dig d.data.toList := by
  have h1 : Lib.trimS d.data.toList tenDigits.data.toList = [] := by
    unfold trimV at h
    have := congrArg (fun b : ByteArray => b.data.toList) h
    simpa using this
  unfold Lib.trimS Lib.trimLeftS at h1
  have h2 : ∀ x, x ∈ Lib.trimRightS d.data.toList tenDigits.data.toList → tenDigits.data.toList.contains x = true := fun x hx => by
    have := all_drop (p := (tenDigits.data.toList.contains ·)) _ (by rw [h1]; intro x hx; cases hx) x hx
    exact this
  unfold Lib.trimRightS at h2
  intro x hx
  have h3 := all_drop (p := (tenDigits.data.toList.contains ·)) d.data.toList.reverse (fun y hy => h2 y (List.mem_reverse.2 hy)) x (List.mem_reverse.2 hx)
  have h4 : ∀ y, tenDigits.data.toList.contains y = true → 48 ≤ y.toNat ∧ y.toNat ≤ 57 := by
    intro y hy
    have hy : y ∈ tenDigits.data.toList := by simpa using hy
    have hall : tenDigits.data.toList.all (fun y => decide (48 ≤ y.toNat ∧ y.toNat ≤ 57)) = true := by decide
    simpa using List.all_eq_true.1 hall y hy
  exact h4 x h3
/-- A number in its one form: nothing; or digits, the first and the last of them not a zero. -/
theorem canon {ng : Bool} {d : ByteArray} {e : Int} (h : numV ng d e = 0) :
    (ng = false ∧ d = one ∧ e = 0) ∨ (Dig d.data.toList ∧ (∃ x r, d.data.toList = x :: r ∧ x.toNat ≠ 48) ∧ (∃ r x, d.data.toList = r ++ [x] ∧ x.toNat ≠ 48)) := by
  unfold numV at h
  by_cases h0 : ng = false ∧ d = one ∧ e = 0
  · exact .inl h0
  rw [if_neg h0] at h
  by_cases h1 : d = ByteArray.empty
  · rw [if_pos h1] at h; omega
  rw [if_neg h1] at h
  by_cases h2 : trimV d tenDigits = ByteArray.empty
  · rw [if_neg (by simp [h2])] at h
    by_cases h3 : 40 < (d.size : Int)
    · rw [if_pos h3] at h; omega
    rw [if_neg h3] at h
    by_cases h4 : (d.data.toList.getD 0 0).toNat = 48
    · rw [if_pos h4] at h; omega
    rw [if_neg h4] at h
    by_cases h5 : d.extract (d.size - 1) d.size = one
    · rw [if_pos h5] at h; omega
    have hn : d.data.toList ≠ [] := fun hn => h1 (ByteArray.ext (Array.toList_inj.1 (by rw [hn]; rfl)))
    refine .inr ⟨dig_trim h2, ?_, ?_⟩
    · cases hl : d.data.toList with
      | nil => exact absurd hl hn
      | cons x r => rw [hl] at h4; exact ⟨x, r, rfl, h4⟩
    · refine ⟨d.data.toList.dropLast, d.data.toList.getLast hn, (List.dropLast_concat_getLast hn).symm, fun hx => h5 ?_⟩
      refine ByteArray.ext (Array.toList_inj.1 ?_)
      have hd : d.data.toList = d.data.toList.dropLast ++ [d.data.toList.getLast hn] := (List.dropLast_concat_getLast hn).symm
      have hs : d.size = d.data.toList.length := by rw [Array.length_toList]; rfl
      rw [ByteArray.data_extract, Array.toList_extract, hs]
      generalize d.data.toList.getLast hn = x at *
      have hx : x = 48 := UInt8.toNat_inj.1 hx
      subst hx
      rw [hd]
      simp [List.extract]
      rfl
  · rw [if_pos (by simp [h2])] at h; omega
abbrev kN (d : ByteArray) (e : Int) : Nat := dv d.data.toList * 10 ^ (e + 400).toNat
def keyN (t : Bool × ByteArray × Int) : Int := if t.1 then -(kN t.2.1 t.2.2 : Int) else kN t.2.1 t.2.2
def numOk (t : Bool × ByteArray × Int) : Prop := numV t.1 t.2.1 t.2.2 = 0
def numC (t u : Bool × ByteArray × Int) : Int := (numcmpV t.1 t.2.1 t.2.2 u.1 u.2.1 u.2.2).1
theorem pow_pos10 (n : Nat) : 0 < 10 ^ n := Nat.pow_pos (by decide)
theorem dv_pos {l : List UInt8} (h : ∃ x r, l = x :: r ∧ x.toNat ≠ 48) (hd : Dig l) : 10 ^ (l.length - 1) ≤ dv l := by
  obtain ⟨x, r, rfl, hx⟩ := h
  have := hd x (List.mem_cons_self ..)
  rw [dv_cons, List.length_cons, Nat.add_sub_cancel]
  have : 1 * 10 ^ r.length ≤ (x.toNat - 48) * 10 ^ r.length := Nat.mul_le_mul_right _ (by omega)
  omega
theorem dig_one : Dig one.data.toList := by
  intro x hx
  have hall : one.data.toList.all (fun y => decide (48 ≤ y.toNat ∧ y.toNat ≤ 57)) = true := by decide
  simpa using List.all_eq_true.1 hall x hx
theorem numOk_dig {t : Bool × ByteArray × Int} (h : numOk t) : Dig t.2.1.data.toList := by
  rcases canon h with ⟨_, h, _⟩ | ⟨h, _⟩
  · rw [h]; exact dig_one
  · exact h
theorem kN_zero {t : Bool × ByteArray × Int} (h : numOk t) : (kN t.2.1 t.2.2 = 0 → t = (false, one, 0)) ∧ (t.1 = true → 0 < kN t.2.1 t.2.2) := by
  rcases canon h with ⟨h1, h2, h3⟩ | ⟨h1, h2, h3⟩
  · exact ⟨fun _ => Prod.ext h1 (Prod.ext h2 h3), fun h => by rw [h1] at h; cases h⟩
  · have := dv_pos h2 h1
    have p1 := pow_pos10 (t.2.1.data.toList.length - 1)
    have p2 := pow_pos10 (t.2.2 + 400).toNat
    have : 0 < kN t.2.1 t.2.2 := Nat.mul_pos (by omega) p2
    exact ⟨fun h => by omega, fun _ => this⟩
theorem cmpZ_mul {a b T : Nat} (h : 0 < T) : cmpZ ((a * T : Nat) : Int) ((b * T : Nat) : Int) = cmpZ a b := by
  have h1 : a * T < b * T ↔ a < b := Nat.mul_lt_mul_right h
  have h2 : b * T < a * T ↔ b < a := Nat.mul_lt_mul_right h
  unfold cmpZ
  simp only [Int.ofNat_lt, h1, h2]
theorem zer_list (i : Int) : (zer i).data.toList = List.replicate i.toNat 48 := by unfold zer; simp
theorem cat_list (a b : ByteArray) : (a ++ b).data.toList = a.data.toList ++ b.data.toList := by
  rw [ByteArray.data_append, Array.toList_append]
theorem dig_append {a b : List UInt8} (ha : Dig a) (hb : Dig b) : Dig (a ++ b) := fun x hx => by
  rcases List.mem_append.1 hx with h | h
  · exact ha x h
  · exact hb x h
theorem dig_zeros (k : Nat) : Dig (List.replicate k 48) := fun x hx => by
  obtain ⟨_, rfl⟩ := List.mem_replicate.1 hx
  decide
/-- Two numbers' digits, brought to one length. -/
theorem lev_cmp {d d' : ByteArray} {e e' : Int} (g : Dig d.data.toList) (g' : Dig d'.data.toList) (p1 : d.size ≤ 40) (p2 : d'.size ≤ 40) (p3 : -400 ≤ e) (p4 : e ≤ 400) (p5 : -400 ≤ e') (p6 : e' ≤ 400) :
    cmpS (levQ (levP d e (levX e e')) (levP d' e' (levX e e'))) (levQ (levP d' e' (levX e e')) (levQ (levP d e (levX e e')) (levP d' e' (levX e e')))) = cmpZ (kN d e) (kN d' e') := by
  obtain ⟨x1, x2, x3⟩ := levX_le e e'
  have k1 : kN d e = dv d.data.toList * 10 ^ (e - levX e e').toNat * 10 ^ (levX e e' + 400).toNat := by
    rw [Nat.mul_assoc, ← Nat.pow_add]
    show _ * 10 ^ (e + 400).toNat = _
    rw [show (e + 400).toNat = (e - levX e e').toNat + (levX e e' + 400).toNat by omega]
  have k2 : kN d' e' = dv d'.data.toList * 10 ^ (e' - levX e e').toNat * 10 ^ (levX e e' + 400).toNat := by
    rw [Nat.mul_assoc, ← Nat.pow_add]
    show _ * 10 ^ (e' + 400).toNat = _
    rw [show (e' + 400).toNat = (e' - levX e e').toNat + (levX e e' + 400).toNat by omega]
  rw [k1, k2, cmpZ_mul (pow_pos10 _)]
  have f2 : levP d e (levX e e') = d ++ zer (IntKind.i64.wrap (e - levX e e')) := rfl
  have f3 : levP d' e' (levX e e') = d' ++ zer (IntKind.i64.wrap (e' - levX e e')) := rfl
  have w1 : IntKind.i64.wrap (e - levX e e') = e - levX e e' := wrap_id (by omega) (by omega)
  have w2 : IntKind.i64.wrap (e' - levX e e') = e' - levX e e' := wrap_id (by omega) (by omega)
  rw [w1] at f2
  rw [w2] at f3
  have hs : ∀ b : ByteArray, b.size = b.data.toList.length := fun b => by rw [Array.length_toList]; rfl
  have v1 : dv (levP d e (levX e e')).data.toList = dv d.data.toList * 10 ^ (e - levX e e').toNat := by
    rw [f2, cat_list, zer_list, dv_append, dv_zeros, List.length_replicate]; omega
  have v2 : dv (levP d' e' (levX e e')).data.toList = dv d'.data.toList * 10 ^ (e' - levX e e').toNat := by
    rw [f3, cat_list, zer_list, dv_append, dv_zeros, List.length_replicate]; omega
  have s1 : (levP d e (levX e e')).size ≤ 2000 := by rw [f2, cat_size, zer_size]; omega
  have s2 : (levP d' e' (levX e e')).size ≤ 2000 := by rw [f3, cat_size, zer_size]; omega
  have g1 : Dig (levP d e (levX e e')).data.toList := by rw [f2, cat_list, zer_list]; exact dig_append g (dig_zeros _)
  have g2 : Dig (levP d' e' (levX e e')).data.toList := by rw [f3, cat_list, zer_list]; exact dig_append g' (dig_zeros _)
  rw [← v1, ← v2]
  generalize levP d e (levX e e') = P at *
  generalize levP d' e' (levX e e') = Q at *
  have wz : ∀ a b : Nat, a ≤ 10000 → b ≤ 10000 → IntKind.i64.wrap ((a : Int) - b) = (a : Int) - b := fun a b _ _ => wrap_id (by omega) (by omega)
  have lq : ∀ p q : ByteArray, p.size ≤ 10000 → q.size ≤ 10000 → (levQ p q).data.toList = List.replicate (q.size - p.size) 48 ++ p.data.toList := fun p q hp hq => by
    show (zer (if 0 < IntKind.i64.wrap ((q.size : Int) - p.size) then IntKind.i64.wrap ((q.size : Int) - p.size) else 0) ++ p).data.toList = _
    rw [cat_list, zer_list, wz _ _ hq hp]
    have : (if 0 < (q.size : Int) - p.size then (q.size : Int) - p.size else 0).toNat = q.size - p.size := by split <;> omega
    rw [this]
  have e1 := lq P Q (by omega) (by omega)
  have z1 : (levQ P Q).size = (Q.size - P.size) + P.size := by rw [hs, e1, List.length_append, List.length_replicate, ← hs]
  have e2 := lq Q (levQ P Q) (by omega) (by omega)
  unfold cmpS
  rw [cmp_dv _ _ (by rw [e1, e2, List.length_append, List.length_append, List.length_replicate, List.length_replicate, ← hs, ← hs, z1]; omega) (by rw [e1]; exact dig_append (dig_zeros _) g1) (by rw [e2]; exact dig_append (dig_zeros _) g2)]
  rw [e1, e2, dv_append, dv_append, dv_zeros, dv_zeros, Nat.zero_mul, Nat.zero_mul, Nat.zero_add, Nat.zero_add]
theorem numC_key (t u : Bool × ByteArray × Int) (ht : numOk t) (hu : numOk u) : numC t u = cmpZ (keyN t) (keyN u) := by
  obtain ⟨a, d, e⟩ := t
  obtain ⟨a', d', e'⟩ := u
  have zt := kN_zero ht
  have zu := kN_zero hu
  have k1 : numV a d e = 0 := ht
  have k2 : numV a' d' e' = 0 := hu
  obtain ⟨p1, p3, p4⟩ := numV_num k1
  obtain ⟨p2, p5, p6⟩ := numV_num k2
  have hl := lev_cmp (numOk_dig ht) (numOk_dig hu) p1 p2 p3 p4 p5 p6
  unfold numC keyN
  simp only at zt zu hl ⊢
  unfold numcmpV
  rw [if_neg (by simp [k1]), if_neg (by simp [k2])]
  simp only at hl ⊢
  by_cases he : a = a' ∧ d = d' ∧ e = e'
  · obtain ⟨rfl, rfl, rfl⟩ := he
    rw [if_pos ⟨rfl, rfl, rfl⟩]
    exact (cmpZ_eq.2 rfl).symm
  rw [if_neg he]
  cases a with
  | true =>
    cases a' with
    | true =>
      rw [if_neg (by simp), if_neg (by simp), hl]
      simp only [if_true]
      have := cmpZ_anti (kN d e : Int) (kN d' e' : Int)
      have hr := cmpZ_rng (kN d e : Int) (kN d' e' : Int)
      rw [show wrap (-cmpZ (kN d e : Int) (kN d' e' : Int)) = -cmpZ (kN d e : Int) (kN d' e' : Int) from wrap_id (by omega) (by omega)]
      unfold cmpZ
      split <;> split <;> (try split) <;> (try split) <;> omega
    | false =>
      rw [if_pos (by simp)]
      simp only [if_true, Bool.false_eq_true, if_false]
      have := zt.2 rfl
      exact (cmpZ_lt.2 (by omega)).symm
  | false =>
    cases a' with
    | true =>
      rw [if_neg (by simp), if_pos (by simp)]
      simp only [if_true, Bool.false_eq_true, if_false]
      have := zu.2 rfl
      have h := cmpZ_lt (a := -(kN d' e' : Int)) (b := (kN d e : Int))
      have h2 := cmpZ_anti (-(kN d' e' : Int)) (kN d e : Int)
      have := h.2 (by omega)
      omega
    | false =>
      rw [if_neg (by simp), if_neg (by simp), hl]
      simp only [Bool.false_eq_true, if_false]
theorem dv_last {l : List UInt8} (h : ∃ r x, l = r ++ [x] ∧ x.toNat ≠ 48) (hd : Dig l) : dv l % 10 ≠ 0 := by
  obtain ⟨r, x, rfl, hx⟩ := h
  have hx2 := hd x (List.mem_append_right _ (List.mem_singleton.2 rfl))
  rw [dv_append, dv_cons]
  show (dv r * 10 ^ 1 + ((x.toNat - 48) * 10 ^ 0 + 0)) % 10 ≠ 0
  omega
theorem key_inj (t u : Bool × ByteArray × Int) (ht : numOk t) (hu : numOk u) (h : keyN t = keyN u) : t = u := by
  have zt := kN_zero ht
  have zu := kN_zero hu
  obtain ⟨a, d, e⟩ := t
  obtain ⟨a', d', e'⟩ := u
  unfold keyN at h
  simp only at zt zu h
  have hk : kN d e = kN d' e' := by
    split at h <;> split at h <;> omega
  by_cases h0 : kN d e = 0
  · rw [zt.1 h0, zu.1 (by omega)]
  have ha : a = a' := by
    cases a <;> cases a' <;> simp only [Bool.false_eq_true, if_false, if_true] at h <;> first | rfl | omega
  subst ha
  have c1 : (Dig d.data.toList ∧ (∃ x r, d.data.toList = x :: r ∧ x.toNat ≠ 48) ∧ (∃ r x, d.data.toList = r ++ [x] ∧ x.toNat ≠ 48)) := by
    rcases canon ht with ⟨_, h2, _⟩ | h2
    · exfalso
      have h2 : d = one := h2
      rw [h2] at h0
      exact h0 (by show dv one.data.toList * _ = 0; rw [show dv one.data.toList = 0 by decide]; simp)
    · exact h2
  have c2 : (Dig d'.data.toList ∧ (∃ x r, d'.data.toList = x :: r ∧ x.toNat ≠ 48) ∧ (∃ r x, d'.data.toList = r ++ [x] ∧ x.toNat ≠ 48)) := by
    rcases canon hu with ⟨_, h2, _⟩ | h2
    · exfalso
      have h2 : d' = one := h2
      rw [hk, h2] at h0
      exact h0 (by show dv one.data.toList * _ = 0; rw [show dv one.data.toList = 0 by decide]; simp)
    · exact h2
  obtain ⟨_, p3, p4⟩ := numV_num ht
  obtain ⟨_, p5, p6⟩ := numV_num hu
  simp only at p3 p4 p5 p6
  have m1 := dv_last c1.2.2 c1.1
  have m2 := dv_last c2.2.2 c2.1
  have hlt : ∀ (x y : Nat) (i j : Nat), x % 10 ≠ 0 → x * 10 ^ i = y * 10 ^ j → ¬ i < j := fun x y i j hx hxy hij => by
    obtain ⟨k, rfl⟩ : ∃ k, j = i + (k + 1) := ⟨j - i - 1, by omega⟩
    rw [Nat.pow_add, Nat.mul_comm (10 ^ i), ← Nat.mul_assoc] at hxy
    have := Nat.eq_of_mul_eq_mul_right (pow_pos10 i) hxy
    rw [this, Nat.pow_succ, ← Nat.mul_assoc, Nat.mul_mod_left] at hx
    exact hx rfl
  have hE : (e + 400).toNat = (e' + 400).toNat := by
    have l1 := hlt _ _ _ _ m1 hk
    have l2 := hlt _ _ _ _ m2 hk.symm
    omega
  have he : e = e' := by omega
  subst he
  have hd : dv d.data.toList = dv d'.data.toList := Nat.eq_of_mul_eq_mul_right (pow_pos10 _) hk
  have n1 := dv_pos c1.2.1 c1.1
  have n2 := dv_pos c2.2.1 c2.1
  have b1 := dv_lt _ c1.1
  have b2 := dv_lt _ c2.1
  have ne1 : d.data.toList.length ≠ 0 := by obtain ⟨x, r, hr, _⟩ := c1.2.1; rw [hr]; simp
  have ne2 : d'.data.toList.length ≠ 0 := by obtain ⟨x, r, hr, _⟩ := c2.2.1; rw [hr]; simp
  have hlen : d.data.toList.length = d'.data.toList.length := by
    have g1 : ¬ d.data.toList.length ≤ d'.data.toList.length - 1 := fun hh => by
      have := Nat.pow_le_pow_right (n := 10) (by decide) hh
      omega
    have g2 : ¬ d'.data.toList.length ≤ d.data.toList.length - 1 := fun hh => by
      have := Nat.pow_le_pow_right (n := 10) (by decide) hh
      omega
    omega
  have := dig_dv_inj hlen c1.1 c2.1 hd
  rw [show d = d' from ByteArray.ext (Array.toList_inj.1 this)]
theorem ord_num {t : Bool × ByteArray × Int} (h : numOk t) : OrdAt numC numOk t := ord_key keyN numC_key key_inj h
end Go.Proofs.YtaeeblcdggjokaaDoor.Vk
